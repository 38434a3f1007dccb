import Derived.Test.YtkaikflohpbcnaaLaw21
namespace Go.Proofs.Ytkaikflohpbcnaa
open Go Go.RowKit Go.Proofs.YtkaikflohpbcnaaVm
attribute [local irreducible] opsWp AnswersE OpsS
set_option maxHeartbeats 400000
set_option maxRecDepth 100000
set_option linter.all false
theorem fairGo_take {n : Int} (hn : 1 ≤ n) : ∀ {l : List Int} {k : Int} {c : Nat} {more : List Int}, (fairGo n k l).2.2 = true → (fairGo n k l).2.1 - k ≤ c → fairGo n k (l.take c ++ more) = fairGo n k l
  | [], k, c, m, h, _ => by simp [fairGo] at h
  | x :: l, k, c, m, h, hc => by
    have h1 := fairGo_used hn h
    obtain ⟨c, rfl⟩ : ∃ b, c = b + 1 := ⟨c - 1, by omega⟩
    simp only [List.take_succ_cons, List.cons_append, fairGo] at h hc ⊢
    split at h
    · cases h
    · rename_i hw
      rw [if_neg hw] at hc ⊢
      rw [if_neg hw]
      split at h
      · rename_i h2
        rw [if_pos h2, if_pos h2]
      · rename_i h2
        rw [if_neg h2] at hc
        rw [if_neg h2, if_neg h2]
        exact fairGo_take hn h (by omega)
theorem fair_take {l : List Int} {c : Nat} {more : List Int} (h : (fairM l 100).2.2 = true) (hc : (fairM l 100).2.1 ≤ c) : fairM (l.take c ++ more) 100 = fairM l 100 := by
  unfold fairM at h hc ⊢
  rw [if_neg (by decide)] at h hc ⊢
  rw [if_neg (by decide)]
  exact fairGo_take (by decide) h (by omega)
theorem rollGo_facts {ws : List Int} : ∀ {m : Nat} {L : List Int} {A : Nat}, (rollGo ws m L A).2.2 = true → A ≤ ws.length → (∀ x ∈ L, 1 ≤ x ∧ x ≤ 100) →
    (A : Int) ≤ (rollGo ws m L A).2.1 ∧ (rollGo ws m L A).2.1 ≤ ws.length ∧ (∀ x ∈ (rollGo ws m L A).1, 1 ≤ x ∧ x ≤ 100) ∧
    ∀ (c : Nat) (more : List Int), (rollGo ws m L A).2.1 ≤ c → c ≤ ws.length → rollGo (ws.take c ++ more) m L A = rollGo ws m L A
  | 0, L, A, _, hA, hL => ⟨Int.le_refl _, by simp only [rollGo]; omega, hL, fun _ _ _ _ => rfl⟩
  | m + 1, L, A, h, hA, hL => by
    simp only [rollGo] at h ⊢
    split at h
    · cases h
    · rename_i h2
      have h3 : (fairM (ws.drop A) 100).2.2 = true := by simpa using h2
      obtain ⟨u1, u2, u3, u4⟩ := fair_used h3
      rw [List.length_drop] at u2
      rw [if_neg h2]
      obtain ⟨g1, g2, g3, g4⟩ := rollGo_facts h (by omega) (fun x hx => by
        rcases List.mem_append.1 hx with hx | hx
        · exact hL x hx
        · rw [List.mem_singleton] at hx; subst hx; rw [IntKind.wrap_i64]; omega)
      refine ⟨by omega, g2, g3, fun c more h4 h5 => ?_⟩
      have e : (ws.take c ++ more).drop A = (ws.drop A).take (c - A) ++ more := by
        rw [List.drop_append_of_le_length (by rw [List.length_take]; omega), List.drop_take]
      have e2 : fairM ((ws.take c ++ more).drop A) 100 = fairM (ws.drop A) 100 := by
        rw [e]; exact fair_take h3 (by omega)
      rw [e2, if_neg h2]
      exact g4 c more h4 h5
theorem rollM_facts {ws : List Int} {n : Int} (h : (rollM ws n).2.2 = true) : 0 ≤ (rollM ws n).2.1 ∧ (rollM ws n).2.1 ≤ ws.length ∧ (∀ x ∈ (rollM ws n).1, 1 ≤ x ∧ x ≤ 100) ∧
    ∀ more, rollM (ws.take (rollM ws n).2.1.toNat ++ more) n = rollM ws n := by
  unfold rollM at h ⊢
  split at h
  · cases h
  · rename_i h2
    rw [if_neg h2]
    obtain ⟨g1, g2, g3, g4⟩ := rollGo_facts h (Nat.zero_le _) (by simp)
    refine ⟨by omega, g2, g3, fun more => ?_⟩
    rw [if_neg h2]
    exact g4 _ more (by omega) (by omega)
theorem rises_get : ∀ {us cs : List Int} {last : Int}, rises last us cs = true → us.length = cs.length → (∀ u ∈ us, last < u) ∧ us.Nodup ∧ (∀ c ∈ cs, 0 ≤ c ∧ c ≤ 3)
  | [], [], _, _, _ => by simp
  | [], _ :: _, _, _, h => by simp at h
  | _ :: _, [], _, _, h => by simp at h
  | u :: us, c :: cs, last, h, hl => by
    simp only [rises, Bool.and_eq_true, decide_eq_true_eq] at h
    obtain ⟨h1, h2, h3⟩ := rises_get h.2 (by simpa using hl)
    refine ⟨fun x hx => ?_, ?_, fun x hx => ?_⟩
    · rcases List.mem_cons.1 hx with rfl | hx
      · exact h.1.1
      · have := h1 x hx; have := h.1.1; omega
    · rw [List.nodup_cons]; exact ⟨fun hm => by have := h1 u hm; omega, h2⟩
    · rcases List.mem_cons.1 hx with rfl | hx
      · exact h.1.2
      · exact h3 x hx
theorem who_mem {w u : Int} : ∀ {us cs : List Int}, u ∈ whoGo w us cs ↔ ∃ i : Nat, us[i]? = some u ∧ cs[i]? = some w
  | [], cs => by simp [whoGo]
  | _ :: _, [] => by simp [whoGo]
  | x :: us, c :: cs => by
    have ih := who_mem (w := w) (u := u) (us := us) (cs := cs)
    simp only [whoGo]
    constructor
    · intro h
      split at h
      · rename_i hc
        rcases List.mem_cons.1 h with rfl | h
        · exact ⟨0, rfl, by rw [hc]; rfl⟩
        · obtain ⟨i, h1, h2⟩ := ih.1 h; exact ⟨i + 1, h1, h2⟩
      · obtain ⟨i, h1, h2⟩ := ih.1 h; exact ⟨i + 1, h1, h2⟩
    · rintro ⟨i, h1, h2⟩
      cases i with
      | zero => simp at h1 h2; subst h1; subst h2; simp
      | succ i =>
        have := ih.2 ⟨i, h1, h2⟩
        split
        · exact List.mem_cons_of_mem _ this
        · exact this
theorem who_sub (w : Int) : ∀ us cs : List Int, (whoGo w us cs).Sublist us
  | [], cs => by simp [whoGo]
  | _ :: _, [] => by simp [whoGo]
  | u :: us, c :: cs => by
    simp only [whoGo]
    split
    · exact (who_sub w us cs).cons_cons u
    · exact (who_sub w us cs).cons u
theorem best_none {d : GDrop} (hr : rightD d) (h : bestD d = []) : ∀ c ∈ d.Choices, c < 2 := by
  unfold bestD at h
  rw [if_neg (by simpa using hr)] at h
  intro c hc
  obtain ⟨_, _, h3⟩ := rises_get hr.2.2.2.2 hr.2.2.2.1.symm
  have h4 := h3 c hc
  obtain ⟨i, hi, hci⟩ := List.getElem_of_mem hc
  have hiu : i < d.Units.length := by have := hr.2.2.2.1; omega
  have key : ∀ w, c = w → whoD d w ≠ [] := fun w e h0 => by
    have : d.Units[i] ∈ whoD d w := who_mem.2 ⟨i, List.getElem?_eq_getElem hiu, by rw [List.getElem?_eq_getElem hi, hci, e]⟩
    rw [h0] at this; cases this
  split at h
  · exact absurd h (by assumption)
  · rename_i h5
    have h6 : whoD d 3 = [] := by simpa using h5
    rcases Int.lt_or_le c 2 with h7 | h7
    · exact h7
    · rcases (show c = 2 ∨ c = 3 by omega) with h8 | h8
      · exact absurd h (key 2 h8)
      · exact absurd h6 (key 3 h8)
theorem best_some {d : GDrop} {u : Int} (h : u ∈ bestD d) : 1 ≤ u ∧ ∃ (i : Nat) (c : Int), d.Units[i]? = some u ∧ d.Choices[i]? = some c ∧ 2 ≤ c ∧ ∀ b ∈ d.Choices, b ≤ c := by
  unfold bestD at h
  split at h
  · cases h
  · rename_i h0
    have hr : rightD d := by simpa using h0
    obtain ⟨g1, _, g3⟩ := rises_get hr.2.2.2.2 hr.2.2.2.1.symm
    split at h
    · obtain ⟨i, h1, h2⟩ := who_mem.1 h
      exact ⟨by have := g1 u (List.mem_of_getElem? h1); omega, i, 3, h1, h2, by omega, fun b hb => (g3 b hb).2⟩
    · rename_i h5
      have h6 : whoD d 3 = [] := by simpa using h5
      obtain ⟨i, h1, h2⟩ := who_mem.1 h
      refine ⟨by have := g1 u (List.mem_of_getElem? h1); omega, i, 2, h1, h2, by omega, fun b hb => ?_⟩
      have h4 := g3 b hb
      rcases Int.lt_or_le b 3 with h7 | h7
      · omega
      · obtain ⟨j, hj, hbj⟩ := List.getElem_of_mem hb
        have hju : j < d.Units.length := by have := hr.2.2.2.1; omega
        have : d.Units[j] ∈ whoD d 3 := who_mem.2 ⟨j, List.getElem?_eq_getElem hju, by rw [List.getElem?_eq_getElem hj, hbj]; congr 1; omega⟩
        rw [h6] at this; cases this
theorem best_nodup {d : GDrop} : (bestD d).Nodup := by
  unfold bestD
  split
  · simp
  · rename_i h0
    have hr : rightD d := by simpa using h0
    obtain ⟨_, g2, _⟩ := rises_get hr.2.2.2.2 hr.2.2.2.1.symm
    split
    · exact (who_sub 3 _ _).nodup g2
    · exact (who_sub 2 _ _).nodup g2
theorem nodup_at {l : List Int} (h : l.Nodup) {i j : Nat} {x : Int} (hi : l[i]? = some x) (hj : l[j]? = some x) : i = j := by
  obtain ⟨h1, h2⟩ := List.getElem?_eq_some_iff.1 hi
  obtain ⟨h3, h4⟩ := List.getElem?_eq_some_iff.1 hj
  exact (List.getElem_inj h).1 (by rw [h2, h4])
/-- who gets it -/
structure Fair (d : GDrop) (ws : List Int) : Prop where
  n0 : 0 ≤ (awardD d ws).2.1
  n1 : (awardD d ws).2.1 ≤ ws.length
  again : ∀ more, awardD d (ws.take (awardD d ws).2.1.toNat ++ more) = awardD d ws
  none : (awardD d ws).1 = 0 → bestD d = []
  mem : (awardD d ws).1 ≠ 0 → (awardD d ws).1 ∈ bestD d
  roll : 1 < (bestD d).length → (rollM ws (bestD d).length).2.2 = true ∧ (rollM ws (bestD d).length).2.1 = (awardD d ws).2.1 ∧ (rollM ws (bestD d).length).1.length = (bestD d).length ∧ (∀ x ∈ (rollM ws (bestD d).length).1, 1 ≤ x ∧ x ≤ 100) ∧
    ∃ (kb : Nat) (z : Int), (bestD d)[kb]? = some (awardD d ws).1 ∧ (rollM ws (bestD d).length).1[kb]? = some z ∧ (∀ y ∈ (rollM ws (bestD d).length).1, y ≤ z) ∧ ∀ y ∈ (rollM ws (bestD d).length).1.take kb, y < z
theorem award_fair {d : GDrop} {ws : List Int} : ((awardD d ws).2.2 = false ∧ (awardD d ws).1 = 0 ∧ (awardD d ws).2.1 = 0 ∧ 1 < (bestD d).length) ∨ ((awardD d ws).2.2 = true ∧ Fair d ws) := by
  by_cases h0 : (bestD d).length = 0
  · have e : ∀ w, awardD d w = (0, 0, true) := fun w => if_pos h0
    right
    have hb : bestD d = [] := List.length_eq_zero_iff.1 h0
    refine ⟨by rw [e], ⟨by rw [e]; decide, by rw [e]; simp, fun m => by rw [e, e], fun _ => hb, fun h => by rw [e] at h; exact absurd rfl h, fun h => by omega⟩⟩
  · by_cases h1 : (bestD d).length = 1
    · have hx : 0 < (bestD d).length := by omega
      have e : ∀ w, awardD d w = ((bestD d)[0], 0, true) := fun w => by unfold awardD; rw [if_neg h0, if_pos h1]; simp [List.getD, List.getElem?_eq_getElem hx]
      right
      have hm : (bestD d)[0] ∈ bestD d := List.getElem_mem hx
      refine ⟨by rw [e], ⟨by rw [e]; exact Int.le_refl _, by rw [e]; simp, fun m => by rw [e, e], fun h => ?_, fun _ => by rw [e]; exact hm, fun h => by omega⟩⟩
      rw [e] at h
      have := (best_some hm).1
      simp only at h
      omega
    · cases h2 : (rollM ws (bestD d).length).2.2 with
      | false => left; have e : awardD d ws = (0, 0, false) := by unfold awardD; rw [if_neg h0, if_neg h1, if_pos h2]
                 rw [e]; exact ⟨rfl, rfl, rfl, by omega⟩
      | true =>
        right
        obtain ⟨f1, f2, f3, f4⟩ := rollM_facts h2
        have hl := rollM_len h2
        rw [Int.toNat_natCast] at hl
        have hne : (rollM ws (bestD d).length).1 ≠ [] := by intro h; rw [h] at hl; simp at hl; omega
        have e : ∀ w, rollM w (bestD d).length = rollM ws (bestD d).length → awardD d w = ((bestD d).getD (fidx (fun x => maxL (rollM ws (bestD d).length).1 == x) (rollM ws (bestD d).length).1).toNat 0, (rollM ws (bestD d).length).2.1, true) := fun w hw => by
          unfold awardD; rw [hw, if_neg h0, if_neg h1, if_neg (by rw [h2]; decide)]
        have e0 := e ws rfl
        obtain ⟨kb, zz, ez0, ez1, ez2, ez3⟩ := max_found hne
        have hkb : kb < (bestD d).length := by have := (List.getElem?_eq_some_iff.1 ez1).1; omega
        have eu : (awardD d ws).1 = (bestD d)[kb] := by rw [e0]; simp only; rw [ez0, Int.toNat_natCast]; simp [List.getD, List.getElem?_eq_getElem hkb]
        have en : (awardD d ws).2.1 = (rollM ws (bestD d).length).2.1 := by rw [e0]
        have hm : (bestD d)[kb] ∈ bestD d := List.getElem_mem hkb
        refine ⟨by rw [e0], ⟨by rw [en]; exact f1, by rw [en]; exact f2, fun m => by rw [e _ (by rw [en]; exact f4 m), e0], fun h => ?_, fun _ => by rw [eu]; exact hm, fun _ => ⟨h2, en.symm, hl, f3, kb, zz, ?_, ez1, fun y hy => ?_, fun y hy => ?_⟩⟩⟩
        · have := (best_some hm).1; omega
        · rw [eu]; exact List.getElem?_eq_getElem hkb
        · rw [← ez2]; exact (max_all hne).2 y hy
        · rw [← ez2]; exact ez3 y hy


def fair21_J53 (d : GDrop) (words : List Int) : Bool :=
  if ((awardD d words).1 : Int) = 0 then (if ((awardD d words).2.1 : Int) = 0 then (decide (((bestD d).length : Int) > 1)) else false) else false
def fair21_J108 (d : GDrop) (words : List Int) (mine0 : Int) (k0 : Nat) (x0 : Int) : Int :=
  if (x0 : Int) = ((awardD d words).1) then (d.Choices.getD k0 default) else mine0
def fair21_L0 (d : GDrop) (words : List Int) : List Int → Nat → Int → Int → Int × Int
  | [], k0, mine0, most0 => (mine0, most0)
  | x0 :: l_, k0, mine0, most0 => (let mine_108 := fair21_J108 d words mine0 k0 x0; fair21_L0 d words l_ (k0 + 1) mine_108 (max most0 (d.Choices.getD k0 default)))
def fair21_L2 (d : GDrop) (words : List Int) (i1 : Int) : Nat → Int → Sum Bool Unit
  | 0, _ => .inl default
  | n_ + 1, j2 => if (j2 : Int) < ((rollM words ((bestD d).length)).1.length) then (if ((bestD d).getD i1.toNat default : Int) = ((awardD d words).1) then (if (((rollM words ((bestD d).length)).1).getD j2.toNat default : Int) > (((rollM words ((bestD d).length)).1).getD i1.toNat default) then .inl false else if (((rollM words ((bestD d).length)).1).getD j2.toNat default : Int) = (((rollM words ((bestD d).length)).1).getD i1.toNat default) then (if (j2 : Int) < i1 then .inl false else fair21_L2 d words i1 n_ (IntKind.i64.wrap (j2 + 1))) else fair21_L2 d words i1 n_ (IntKind.i64.wrap (j2 + 1))) else .inr ()) else .inr ()
def fair21_L1 (d : GDrop) (words : List Int) : Nat → Int → Sum Bool Unit
  | 0, _ => .inl default
  | n_ + 1, i1 => if (i1 : Int) < ((bestD d).length) then (if ((bestD d).length : Int) > 1 then (if (rollM words ((bestD d).length)).2.2 = true then (if ((rollM words ((bestD d).length)).2.1 : Int) = ((awardD d words).2.1) then (if (i1 : Int) ≥ ((rollM words ((bestD d).length)).1.length) then .inl false else if (((rollM words ((bestD d).length)).1).getD i1.toNat default : Int) < 1 then .inl false else if (((rollM words ((bestD d).length)).1).getD i1.toNat default : Int) > 100 then .inl false else (match fair21_L2 d words i1 (200) 0 with
    | .inl r_ => .inl r_
    | .inr () => fair21_L1 d words n_ (IntKind.i64.wrap (i1 + 1)))) else .inl false) else .inl false) else .inr ()) else .inr ()
def fair21 (d : GDrop) (words : List Int) (more : List Int) : Bool :=
  if d.Units.length ≤ 100 ∧ d.Choices.length ≤ 100 then (if (words.length : Int) > 2048 then true else if (more.length : Int) > 2048 then true else if rightD d then (if (awardD d words).2.2 = true then (if ((awardD d words).2.1 : Int) < 0 then false else if ((awardD d words).2.1 : Int) > words.length then false else if ((awardD d ((words.take (((awardD d words).2.1).toNat)) ++ more)).1 : Int) = ((awardD d words).1) then (if ((awardD d ((words.take (((awardD d words).2.1).toNat)) ++ more)).2.1 : Int) = ((awardD d words).2.1) then (if (awardD d ((words.take (((awardD d words).2.1).toNat)) ++ more)).2.2 = true then (match fair21_L0 d words d.Units 0 0 0 with
    | (mine_0, most_0) => if ((awardD d words).1 : Int) = 0 then (decide ((most_0 : Int) < 2)) else (match fair21_L1 d words (200) 0 with
    | .inl r_ => r_
    | .inr () => if (mine_0 : Int) = most_0 then (decide ((mine_0 : Int) ≥ 2)) else false)) else false) else false) else false) else (let t6_53 := fair21_J53 d words; t6_53)) else true) else true
theorem fair21_ok (d : GDrop) (words : List Int) (words_f : Bool) (more : List Int) (more_f : Bool) : Ok Try.prog 5 [aGDrop d, .pv (.slc words.length words_f (encI words)), .pv (.slc more.length more_f (encI more))] [] (B (fair21 d words more)) [] [] := by
 refine Ok.len fun hlen => ?_
 have hl_d_Units : d.Units.length ≤ maxLen := hlen _ (by simp [lensL, lens, lensP])
 have hl_d_Choices : d.Choices.length ≤ maxLen := hlen _ (by simp [lensL, lens, lensP])
 have hl_words : words.length ≤ maxLen := hlen _ (by simp [lensL, lens, lensP])
 have hl_more : more.length ≤ maxLen := hlen _ (by simp [lensL, lens, lensP])
 unfold maxLen at hl_d_Units hl_d_Choices hl_words hl_more
 refine ok_of_sem Try.func5 rfl ?_
 show Walks Try.prog _ _ ⟨[(0, aGDrop d), (1, .pv (.slc words.length words_f (encI words))), (2, .pv (.slc more.length more_f (encI more)))], [], 0, [], 231, 0⟩
 refine sem_seq (sem_region rfl (step_n (o := .box [_, _, _, _, _]) (nx' := 1) rfl rfl rfl trivial (step_r rfl rfl trivial (step_nil (seqK_n (sem_seq (sem_region rfl (step_call rfl rfl rfl rfl (small21_ok ) rfl rfl rfl (step_r rfl rfl trivial (step_nil (seqK_n ?_)))))))))))
 refine sem_seq (sem_region rfl (step_r (v := (.agg [_, _, _, _, _])) rfl rfl (Nat.le_of_ble_eq_true rfl) (step_call rfl rfl rfl rfl (few_ok d) rfl rfl rfl (step_r rfl rfl trivial (step_nil (seqK_n (sem_seq (sem_seq (sem_region rfl (step_r rfl rfl trivial (step_r rfl rfl trivial ?_)))))))))))
 refine step_r rfl rfl trivial ?_
 refine step_gs rfl (fun h3 => ?_) (fun h3 => ?_)
 ·have g3 : ¬ (d.Units.length ≤ 100 ∧ d.Choices.length ≤ 100) := of_decide_eq_false (not_t h3)
  refine step_g0 rfl h3 rfl (step_g0 rfl h3 rfl (step_g0 rfl h3 rfl (step_pickT rfl h3 rfl rfl (step_r rfl rfl trivial (step_gf rfl rfl (step_gf rfl rfl (step_gf rfl rfl (step_r rfl rfl trivial (step_r rfl rfl trivial (step_gf rfl rfl (step_gf rfl rfl ?_)))))))))))
  refine step_gf rfl rfl (step_r rfl rfl trivial (step_nil (seqK_n (sem_condT rfl (sem_seq (sem_region rfl (step_r rfl rfl trivial (step_r rfl rfl trivial (step_nil (seqK_n (sem_ret ?_)))))))))))
  refine seqK_r ?_
  have e4 : fair21 d words more = true := by
   unfold fair21
   try dsimp only
   rewrite [if_neg g3]
   all_goals rfl
  rw [e4]
  exact answersR rfl ⟨trivial, trivial⟩ (rfl) rfl
 ·have g3 : d.Units.length ≤ 100 ∧ d.Choices.length ≤ 100 := of_decide_eq_true (not_f h3)
  refine step_g1 rfl h3 (step_r rfl rfl trivial (step_g1 rfl h3 (step_r rfl rfl trivial (step_g1 rfl h3 (step_bin rfl rfl rfl rfl rfl trivial (step_pickF rfl h3 rfl rfl (step_r rfl rfl trivial ?_)))))))
  refine step_gs rfl (fun h6 => ?_) (fun h6 => ?_)
  ·have g6 : (words.length : Int) > 2048 := of_decide_eq_true h6
   refine step_g0 rfl h6 rfl (step_g0 rfl h6 rfl (step_g0 rfl h6 rfl (step_pickT rfl h6 rfl rfl (step_r rfl rfl trivial (step_gf rfl rfl (step_gf rfl rfl (step_gf rfl rfl (step_r rfl rfl trivial (step_nil (seqK_n (sem_condT rfl ?_)))))))))))
   refine sem_seq (sem_region rfl (step_r rfl rfl trivial (step_r rfl rfl trivial (step_nil (seqK_n (sem_ret (seqK_r ?_)))))))
   have e7 : fair21 d words more = true := by
    unfold fair21
    try dsimp only
    rewrite [if_pos g3, if_pos g6]
    all_goals rfl
   rw [e7]
   exact answersR rfl ⟨trivial, trivial⟩ (rfl) rfl
  ·have g6 : ¬ ((words.length : Int) > 2048) := of_decide_eq_false h6
   refine step_g1 rfl h6 (step_r rfl rfl trivial (step_g1 rfl h6 (step_r rfl rfl trivial (step_g1 rfl h6 (step_bin rfl rfl rfl rfl rfl trivial (step_pickF rfl h6 rfl rfl (step_r rfl rfl trivial ?_)))))))
   refine step_gs rfl (fun h9 => ?_) (fun h9 => ?_)
   ·have g9 : (more.length : Int) > 2048 := of_decide_eq_true h9
    refine step_g0 rfl h9 rfl (step_g0 rfl h9 rfl (step_g0 rfl h9 rfl (step_pickT rfl h9 rfl rfl (step_nil (seqK_n (sem_condT rfl (sem_seq (sem_region rfl (step_r rfl rfl trivial (step_r rfl rfl trivial (step_nil ?_)))))))))))
    refine seqK_n (sem_ret (seqK_r ?_))
    have e10 : fair21 d words more = true := by
     unfold fair21
     try dsimp only
     rewrite [if_pos g3, if_neg g6, if_pos g9]
     all_goals rfl
    rw [e10]
    exact answersR rfl ⟨trivial, trivial⟩ (rfl) rfl
   ·have g9 : ¬ ((more.length : Int) > 2048) := of_decide_eq_false h9
    refine step_g1 rfl h9 (step_r (v := (.agg [_, _, _, _, _])) rfl rfl (Nat.le_of_ble_eq_true rfl) (step_g1 rfl h9 (step_call rfl rfl rfl rfl (rightD_ok d) rfl rfl rfl (step_g1 rfl h9 (step_r rfl rfl trivial (step_pickF rfl h9 rfl rfl (step_nil (seqK_n ?_))))))))
    refine sem_cond rfl (fun h12 => ?_) (fun h12 => ?_)
    ·have g12 : ¬ (rightD d) := of_decide_eq_false (not_t h12)
     refine sem_seq (sem_region rfl (step_r rfl rfl trivial (step_r rfl rfl trivial (step_nil (seqK_n (sem_ret (seqK_r ?_)))))))
     have e13 : fair21 d words more = true := by
      unfold fair21
      try dsimp only
      rewrite [if_pos g3, if_neg g6, if_neg g9, if_neg g12]
      all_goals rfl
     rw [e13]
     exact answersR rfl ⟨trivial, trivial⟩ (rfl) rfl
    ·have g12 : rightD d := of_decide_eq_true (not_f h12)
     have hr : rightD d := g12
     have hrc := hr.2.2.2.1
     have hru := hr.2.2.1
     have hbl := bestD_len d
     refine sem_skip (seqK_n (sem_seq (sem_region rfl (step_r (v := (.agg [_, _, _, _, _])) rfl rfl (Nat.le_of_ble_eq_true rfl) (step_r rfl rfl trivial (step_call rfl rfl rfl rfl (award_ok d words words_f) rfl rfl rfl (step_r rfl rfl trivial (step_r rfl rfl trivial (step_r rfl rfl trivial (step_r rfl rfl trivial (step_r rfl rfl trivial ?_)))))))))))
     refine step_r rfl rfl trivial (step_r rfl rfl trivial (step_nil (seqK_n (sem_seq (sem_seq (sem_region rfl (step_r rfl rfl trivial (step_r rfl rfl trivial (step_nil (seqK_n ?_))))))))))
     refine sem_cond rfl (fun h17 => ?_) (fun h17 => ?_)
     ·have g17 : ¬ ((awardD d words).2.2 = true) := boo_f (not_t h17)
      refine sem_seq ?_
      refine sem_cutW (fun t6_53 : Bool => (⟨[(6, B t6_53)], [], 0, [], 231, 0⟩ : St)) (fun w_ => fair21_J53 d words = w_) ?_ ?_
      ·refine sem_region rfl (step_r rfl rfl trivial (step_r rfl rfl trivial (step_gt rfl (step_r rfl rfl trivial (step_gt rfl (step_bin rfl rfl rfl rfl rfl trivial (step_r rfl rfl trivial (step_r rfl rfl trivial ?_))))))))
       refine step_gs rfl (fun h20 => ?_) (fun h20 => ?_)
       ·have g20 : ((awardD d words).1 : Int) = 0 := beq_t h20
        refine step_g1 rfl h20 (step_r rfl rfl trivial (step_g1 rfl h20 (step_bin rfl rfl rfl rfl rfl trivial (step_pickT rfl h20 rfl rfl (step_r rfl rfl trivial ?_)))))
        refine step_gs rfl (fun h22 => ?_) (fun h22 => ?_)
        ·have g22 : ((awardD d words).2.1 : Int) = 0 := beq_t h22
         refine step_g1 rfl h22 (step_r (v := (.agg [_, _, _, _, _])) rfl rfl (Nat.le_of_ble_eq_true rfl) (step_g1 rfl h22 ?_))
         refine step_callN (out' := .ref 1 _ _ _) (H' := [(1, .row _ _ _), (0, _)]) (nx' := 2) rfl rfl rfl rfl rfl rfl rfl (by (repeat' apply And.intro) <;> first | trivial | rfl | exact flat_len (fun _ => rfl) _ | exact encI_len _ | exact Nat.le_of_ble_eq_true rfl | assumption) (best_ok d) rfl rfl rfl rfl ?_
         refine step_g1 rfl h22 (step_r rfl rfl trivial (step_g1 rfl h22 (step_bin rfl rfl rfl rfl rfl trivial (step_pickT rfl h22 rfl rfl (step_r rfl rfl trivial (step_nil ?_))))))
         have e24 : fair21_J53 d words = (decide (((bestD d).length : Int) > 1)) := by
          unfold fair21_J53
          try dsimp only
          rewrite [if_pos g20, if_pos g22]
          all_goals rfl
         exact cutW_n (decide (((bestD d).length : Int) > 1)) e24 (Trans.ren [] (by decide +kernel) (by decide +kernel) rfl ⟨⟨rfl, rfl⟩, trivial⟩ trivial (by decide))
        ·have g22 : ¬ (((awardD d words).2.1 : Int) = 0) := beq_f h22
         refine step_g0 rfl h22 rfl (step_g0 rfl h22 rfl (step_g0 rfl h22 rfl (step_g0 rfl h22 rfl (step_pickF rfl h22 rfl rfl (step_r rfl rfl trivial (step_nil ?_))))))
         have e25 : fair21_J53 d words = false := by
          unfold fair21_J53
          try dsimp only
          rewrite [if_pos g20, if_neg g22]
          all_goals rfl
         exact cutW_n false e25 (Trans.ren [] (by decide +kernel) (by decide +kernel) rfl ⟨⟨rfl, rfl⟩, trivial⟩ trivial (by decide))
       ·have g20 : ¬ (((awardD d words).1 : Int) = 0) := beq_f h20
        refine step_g0 rfl h20 rfl (step_g0 rfl h20 rfl (step_pickF rfl h20 rfl rfl (step_r rfl rfl trivial (step_gf rfl rfl (step_gf rfl rfl (step_gf rfl rfl (step_gf rfl rfl (step_r rfl rfl trivial (step_r rfl rfl trivial (step_nil ?_))))))))))
        have e26 : fair21_J53 d words = false := by
         unfold fair21_J53
         try dsimp only
         rewrite [if_neg g20]
         all_goals rfl
        exact cutW_n false e26 (Trans.ren [] (by decide +kernel) (by decide +kernel) rfl ⟨⟨rfl, rfl⟩, trivial⟩ trivial (by decide))
      ·rintro t6_53 (hJ18 : fair21_J53 d words = t6_53)
       show seqK _ _ _ .normal (⟨[(6, B t6_53)], [], 0, [], 231, 0⟩ : St)
       refine seqK_n (sem_ret (seqK_r ?_))
       have e27 : fair21 d words more = t6_53 := by
        unfold fair21
        try dsimp only
        rewrite [if_pos g3, if_neg g6, if_neg g9, if_pos g12, if_neg g17, hJ18]
        try dsimp only
        all_goals rfl
       rw [e27]
       exact answersR rfl ⟨trivial, trivial⟩ (rfl) rfl
     ·have g17 : (awardD d words).2.2 = true := (not_f h17)
      refine sem_skip (seqK_n (sem_seq (sem_seq (sem_region rfl (step_r rfl rfl trivial (step_bin rfl rfl rfl rfl rfl trivial (step_r rfl rfl trivial ?_)))))))
      refine step_gs rfl (fun h29 => ?_) (fun h29 => ?_)
      ·have g29 : ((awardD d words).2.1 : Int) < 0 := of_decide_eq_true h29
       refine step_g0 rfl h29 rfl (step_g0 rfl h29 rfl (step_g0 rfl h29 rfl (step_g0 rfl h29 rfl (step_pickT rfl h29 rfl rfl (step_nil (seqK_n (sem_condT rfl (sem_seq (sem_region rfl (step_r rfl rfl trivial (step_nil ?_)))))))))))
       refine seqK_n (sem_ret (seqK_r ?_))
       have e30 : fair21 d words more = false := by
        unfold fair21
        try dsimp only
        rewrite [if_pos g3, if_neg g6, if_neg g9, if_pos g12, if_pos g17, if_pos g29]
        all_goals rfl
       rw [e30]
       exact answersR rfl ⟨trivial, trivial⟩ (rfl) rfl
      ·have g29 : ¬ (((awardD d words).2.1 : Int) < 0) := of_decide_eq_false h29
       refine step_g1 rfl h29 (step_r rfl rfl trivial (step_g1 rfl h29 (step_r rfl rfl trivial (step_g1 rfl h29 (step_r rfl rfl trivial (step_g1 rfl h29 (step_bin rfl rfl rfl rfl rfl trivial (step_pickF rfl h29 rfl rfl (step_nil (seqK_n ?_))))))))))
       refine sem_cond rfl (fun h32 => ?_) (fun h32 => ?_)
       ·have g32 : ((awardD d words).2.1 : Int) > words.length := of_decide_eq_true h32
        refine sem_seq (sem_region rfl (step_r rfl rfl trivial (step_nil (seqK_n (sem_ret (seqK_r ?_))))))
        have e33 : fair21 d words more = false := by
         unfold fair21
         try dsimp only
         rewrite [if_pos g3, if_neg g6, if_neg g9, if_pos g12, if_pos g17, if_neg g29, if_pos g32]
         all_goals rfl
        rw [e33]
        exact answersR rfl ⟨trivial, trivial⟩ (rfl) rfl
       ·have g32 : ¬ (((awardD d words).2.1 : Int) > words.length) := of_decide_eq_false h32
        refine sem_skip (seqK_n (sem_seq ?_))
        refine sem_drawW rfl (draw_split 7 0 (by decide +kernel) ?_ ?_)
        ·refine draw_walk (by decide +kernel) rfl ?_
         refine step_r (v := (.agg [_, _, _, _, _])) rfl rfl (Nat.le_of_ble_eq_true rfl) (step_r rfl rfl ⟨by decide, rfl⟩ (step_r rfl rfl trivial (step_r rfl rfl trivial ?_)))
         refine step_slcTo (k := ((awardD d words).2.1).toNat) (n' := (words.take (((awardD d words).2.1).toNat)).length) (cs' := encI (words.take (((awardD d words).2.1).toNat))) rfl rfl (Int.toNat_of_nonneg (by first | omega | (simp only [IntKind.wrap_i64]; omega))).symm rfl rfl (by first | omega | (simp only [IntKind.wrap_i64]; omega) | (simp; omega)) (by rw [List.length_take]; first | omega | (simp only [IntKind.wrap_i64]; omega)) (encI_upto words (((awardD d words).2.1).toNat)) rfl ?_
         refine step_appendN (m := (words.take (((awardD d words).2.1).toNat)).length) (new := encI (words.take (((awardD d words).2.1).toNat))) (cs' := encI (words.take (((awardD d words).2.1).toNat))) (n' := (words.take (((awardD d words).2.1).toNat)).length) rfl rfl (rfl) rfl rfl rfl rfl rfl rfl (encI_len (words.take (((awardD d words).2.1).toNat))) (by first | decide | (unfold maxGrow; omega) | (unfold maxGrow; simp; omega) | (unfold maxGrow; simp only [List.length_append, List.length_take, List.length_drop, List.length_cons, List.length_nil, IntKind.wrap_i64] at *; omega)) rfl rfl rfl rfl ?_
         refine step_r rfl rfl trivial ?_
         refine step_appendC (m := more.length) (new := encI more) (cs' := encI ((words.take (((awardD d words).2.1).toNat)) ++ more)) (n' := ((words.take (((awardD d words).2.1).toNat)) ++ more).length) (H' := [(1, .row _ _ _), (0, .box [_, _, _, _, _])]) rfl rfl rfl (rfl) rfl rfl rfl rfl rfl rfl (encI_len (words.take (((awardD d words).2.1).toNat))) (encI_len more) (by first | decide | (unfold maxGrow; omega) | (unfold maxGrow; simp; omega) | (unfold maxGrow; simp only [List.length_append, List.length_take, List.length_drop, List.length_cons, List.length_nil, IntKind.wrap_i64] at *; omega)) (len_append (words.take (((awardD d words).2.1).toNat)) more) (encI_append _ _) (.inr (by decide +kernel)) rfl rfl (.keep rfl (.keep rfl .nil)) (.keep rfl (.lose (v' := .undef) rfl (.keep rfl (.keep rfl (.keep rfl (.keep rfl (.keep rfl (.keep rfl (.keep rfl (.keep rfl (.keep rfl (.keep rfl (.keep rfl (.keep rfl (.keep rfl (.keep rfl (.keep rfl (.keep rfl (.keep rfl (.keep rfl (.keep rfl (.keep rfl (.keep rfl (.keep rfl (.keep rfl (.keep rfl (.keep rfl (.keep rfl (.keep rfl (.keep rfl (.keep rfl (.keep rfl (.keep rfl (.keep rfl (.keep rfl (.keep rfl (.keep rfl (.keep rfl (.keep rfl (.keep rfl (.keep rfl (.keep rfl (.keep rfl (.keep rfl (.keep rfl (.keep rfl (.keep rfl (.keep rfl (.keep rfl (.keep rfl (.keep rfl (.keep rfl (.keep rfl (.keep rfl .nil)))))))))))))))))))))))))))))))))))))))))))))))))))))) ?_
         refine step_callJ (Hin := [.row _ _ _]) (out' := .tup [_, _, _]) (H' := [(1, _), (0, _)]) (nx' := 2) [1] rfl rfl rfl rfl rfl rfl rfl rfl rfl (by (repeat' apply And.intro) <;> first | trivial | rfl | exact flat_len (fun _ => rfl) _ | exact encI_len _ | exact Nat.le_of_ble_eq_true rfl | assumption) (award_ok d ((words.take (((awardD d words).2.1).toNat)) ++ more) false) rfl (by decide) rfl rfl trivial rfl rfl rfl rfl ?_
         refine step_r rfl rfl trivial (step_r rfl rfl trivial (step_r rfl rfl trivial (step_r rfl rfl trivial (step_r rfl rfl trivial (step_r rfl rfl trivial (step_r rfl rfl trivial (step_nil (seqK_n (sem_seq (sem_seq (sem_region rfl ?_)))))))))))
         refine step_r rfl rfl trivial (step_r rfl rfl trivial (step_bin rfl rfl rfl rfl rfl trivial (step_r rfl rfl trivial ?_)))
         refine step_gs rfl (fun h38 => ?_) (fun h38 => ?_)
         ·have g38 : ¬ (((awardD d ((words.take (((awardD d words).2.1).toNat)) ++ more)).1 : Int) = ((awardD d words).1)) := bne_t h38
          refine step_g0 rfl h38 rfl (step_g0 rfl h38 rfl (step_g0 rfl h38 rfl (step_pickT rfl h38 rfl rfl (step_r rfl rfl trivial (step_gf rfl rfl (step_gf rfl rfl (step_r rfl rfl trivial (step_nil (seqK_n (sem_condT rfl (sem_seq ?_)))))))))))
          refine sem_region rfl (step_r rfl rfl trivial (step_nil (seqK_n (sem_ret (seqK_r ?_)))))
          have e39 : fair21 d words more = false := by
           unfold fair21
           try dsimp only
           rewrite [if_pos g3, if_neg g6, if_neg g9, if_pos g12, if_pos g17, if_neg g29, if_neg g32, if_neg g38]
           all_goals rfl
          rw [e39]
          exact answersR rfl ⟨trivial, trivial⟩ (rfl) rfl
         ·have g38 : ((awardD d ((words.take (((awardD d words).2.1).toNat)) ++ more)).1 : Int) = ((awardD d words).1) := bne_f h38
          refine step_g1 rfl h38 (step_r rfl rfl trivial (step_g1 rfl h38 (step_r rfl rfl trivial (step_g1 rfl h38 (step_bin rfl rfl rfl rfl rfl trivial (step_pickF rfl h38 rfl rfl (step_r rfl rfl trivial ?_)))))))
          refine step_gs rfl (fun h41 => ?_) (fun h41 => ?_)
          ·have g41 : ¬ (((awardD d ((words.take (((awardD d words).2.1).toNat)) ++ more)).2.1 : Int) = ((awardD d words).2.1)) := bne_t h41
           refine step_g0 rfl h41 rfl (step_g0 rfl h41 rfl (step_pickT rfl h41 rfl rfl (step_nil (seqK_n (sem_condT rfl (sem_seq (sem_region rfl (step_r rfl rfl trivial (step_nil (seqK_n (sem_ret ?_)))))))))))
           refine seqK_r ?_
           have e42 : fair21 d words more = false := by
            unfold fair21
            try dsimp only
            rewrite [if_pos g3, if_neg g6, if_neg g9, if_pos g12, if_pos g17, if_neg g29, if_neg g32, if_pos g38, if_neg g41]
            all_goals rfl
           rw [e42]
           exact answersR rfl ⟨trivial, trivial⟩ (rfl) rfl
          ·have g41 : ((awardD d ((words.take (((awardD d words).2.1).toNat)) ++ more)).2.1 : Int) = ((awardD d words).2.1) := bne_f h41
           refine step_g1 rfl h41 (step_r rfl rfl trivial (step_g1 rfl h41 (step_r rfl rfl trivial (step_pickF rfl h41 rfl rfl (step_nil (seqK_n ?_))))))
           refine sem_cond rfl (fun h44 => ?_) (fun h44 => ?_)
           ·have g44 : ¬ ((awardD d ((words.take (((awardD d words).2.1).toNat)) ++ more)).2.2 = true) := boo_f (not_t h44)
            refine sem_seq (sem_region rfl (step_r rfl rfl trivial (step_nil (seqK_n (sem_ret (seqK_r ?_))))))
            have e45 : fair21 d words more = false := by
             unfold fair21
             try dsimp only
             rewrite [if_pos g3, if_neg g6, if_neg g9, if_pos g12, if_pos g17, if_neg g29, if_neg g32, if_pos g38, if_pos g41, if_neg g44]
             all_goals rfl
            rw [e45]
            exact answersR rfl ⟨trivial, trivial⟩ (rfl) rfl
           ·have g44 : (awardD d ((words.take (((awardD d words).2.1).toNat)) ++ more)).2.2 = true := (not_f h44)
            refine sem_skip (seqK_n (sem_seq (sem_region rfl (step_r rfl rfl trivial (step_nil (seqK_n (sem_seq (sem_region rfl (step_r rfl rfl trivial (step_nil (seqK_n ?_)))))))))))
            refine sem_seq (sem_seq (sem_region rfl (step_r rfl rfl trivial (step_nil (seqK_n ?_)))))
            refine sem_cutW (fun w_ : Int × Int => match w_ with | (mine_0, most_0) => (⟨[(1, .pv (.slc words.length words_f (encI words))), (3, .ptr 0 0), (7, B true), (9, I (awardD d words).1), (10, I (awardD d words).2.1), (14, I mine_0), (15, I most_0)], [(0, .box [I d.Id, I d.Item, I d.Until, .pv (.slc d.Units.length false (encI d.Units)), .pv (.slc d.Choices.length false (encI d.Choices))])], 1, [], 231, 0⟩ : St)) (fun w_ => fair21_L0 d words d.Units 0 0 0 = w_) ?_ ?_
            ·refine sem_block ?_
             refine sem_loopT (fun w_ : Nat × Int × Int => match w_ with | (k0, mine0, most0) => (⟨[(1, .pv (.slc words.length words_f (encI words))), (3, .ptr 0 0), (7, B true), (9, I (awardD d words).1), (10, I (awardD d words).2.1), (14, I mine0), (15, I most0), (16, I k0)], [(0, .box [I d.Id, I d.Item, I d.Until, .pv (.slc d.Units.length false (encI d.Units)), .pv (.slc d.Choices.length false (encI d.Choices))])], 1, [], 231, 0⟩ : St)) (fun w_ : Nat × Int × Int => match w_ with | (k0, mine0, most0) => fair21_L0 d words (d.Units.drop k0) k0 mine0 most0 = fair21_L0 d words d.Units 0 0 0 ∧ k0 ≤ d.Units.length) (fun w_ : Nat × Int × Int => match w_ with | (k0, mine0, most0) => d.Units.length - k0) (0, 0, 0) (⟨rfl, Nat.zero_le _⟩) ?_ (fun w_ hh_ => ?_)
             ·exact (Trans.ren [] (by decide +kernel) (by decide +kernel) rfl ⟨⟨rfl, rfl⟩, ⟨rfl, rfl⟩, ⟨rfl, rfl⟩, ⟨rfl, rfl⟩, ⟨rfl, rfl⟩, ⟨rfl, rfl⟩, ⟨rfl, rfl⟩, ⟨rfl, rfl⟩, trivial⟩ ⟨⟨rfl, rfl, rfl⟩, trivial⟩ (by decide))
             obtain ⟨k0, mine0, most0⟩ := w_
             obtain ⟨hI0, hb0⟩ := hh_
             show Walks Try.prog _ _ (⟨[(1, .pv (.slc words.length words_f (encI words))), (3, .ptr 0 0), (7, B true), (9, I (awardD d words).1), (10, I (awardD d words).2.1), (14, I mine0), (15, I most0), (16, I k0)], [(0, .box [I d.Id, I d.Item, I d.Until, .pv (.slc d.Units.length false (encI d.Units)), .pv (.slc d.Choices.length false (encI d.Choices))])], 1, [], 231, 0⟩ : St)
             refine sem_seq (sem_seq (sem_region rfl (step_r rfl rfl trivial (step_r rfl rfl (by decide) (step_r rfl rfl trivial (step_r rfl rfl trivial (step_bin rfl rfl rfl rfl rfl trivial (step_nil (seqK_n ?_)))))))))
             refine sem_cond rfl (fun h48 => ?_) (fun h48 => ?_)
             ·have g48 : (k0 : Int) < d.Units.length := of_decide_eq_true h48
              have hk0 : k0 < d.Units.length := by omega
              obtain ⟨x0, hx0⟩ : ∃ z_, d.Units[k0]? = some z_ := ⟨_, List.getElem?_eq_getElem hk0⟩
              refine sem_skip (seqK_n (sem_seq (sem_block (sem_seq ?_))))
              refine sem_cutW (fun mine_108 : Int => (⟨[(1, .pv (.slc words.length words_f (encI words))), (3, .ptr 0 0), (7, B true), (9, I (awardD d words).1), (10, I (awardD d words).2.1), (14, I mine_108), (15, I most0), (16, I k0)], [(0, .box [I d.Id, I d.Item, I d.Until, .pv (.slc d.Units.length false (encI d.Units)), .pv (.slc d.Choices.length false (encI d.Choices))])], 1, [], 231, 0⟩ : St)) (fun w_ => fair21_J108 d words mine0 k0 x0 = w_) ?_ ?_
              ·refine sem_seq (sem_region rfl (step_r rfl rfl (by decide) (step_r rfl rfl trivial (step_r rfl rfl trivial (step_idxS (k := k0) rfl rfl rfl rfl hk0 (encI_ne hk0) rfl (step_load_one rfl rfl rfl (encI_get hx0) rfl (step_r rfl rfl trivial (step_bin rfl rfl rfl rfl rfl trivial (step_nil (seqK_n ?_))))))))))
               refine sem_cond rfl (fun h51 => ?_) (fun h51 => ?_)
               ·have g51 : (x0 : Int) = ((awardD d words).1) := beq_t h51
                refine sem_region rfl (step_r rfl rfl (by decide) (step_r rfl rfl trivial (step_r rfl rfl trivial ?_)))
                have jk52 : k0 < d.Choices.length := by first | assumption | omega | (simp only [List.length_set, List.length_append]; omega) | (simp only [IntKind.wrap_i64] at *; omega) | (simp; omega) | simp_all
                refine step_idxS (k := k0) rfl rfl rfl rfl jk52 (encI_ne jk52) rfl (step_load_one rfl rfl rfl (encI_get (get_getD jk52)) rfl (step_r rfl rfl trivial (step_nil ?_)))
                have e54 : fair21_J108 d words mine0 k0 x0 = (d.Choices.getD k0 default) := by
                 unfold fair21_J108
                 try dsimp only
                 rewrite [if_pos g51]
                 all_goals rfl
                exact cutW_n (d.Choices.getD k0 default) e54 (Trans.ren [] (by decide +kernel) (by decide +kernel) rfl ⟨⟨rfl, rfl⟩, ⟨rfl, rfl⟩, ⟨rfl, rfl⟩, ⟨rfl, rfl⟩, ⟨rfl, rfl⟩, ⟨rfl, rfl⟩, ⟨rfl, rfl⟩, ⟨rfl, rfl⟩, trivial⟩ ⟨⟨rfl, rfl, rfl⟩, trivial⟩ (by decide))
               ·have g51 : ¬ ((x0 : Int) = ((awardD d words).1)) := beq_f h51
                refine sem_skip ?_
                have e55 : fair21_J108 d words mine0 k0 x0 = mine0 := by
                 unfold fair21_J108
                 try dsimp only
                 rewrite [if_neg g51]
                 all_goals rfl
                exact cutW_n mine0 e55 (Trans.ren [] (by decide +kernel) (by decide +kernel) rfl ⟨⟨rfl, rfl⟩, ⟨rfl, rfl⟩, ⟨rfl, rfl⟩, ⟨rfl, rfl⟩, ⟨rfl, rfl⟩, ⟨rfl, rfl⟩, ⟨rfl, rfl⟩, ⟨rfl, rfl⟩, trivial⟩ ⟨⟨rfl, rfl, rfl⟩, trivial⟩ (by decide))
              ·rintro mine_108 (hJ49 : fair21_J108 d words mine0 k0 x0 = mine_108)
               show seqK _ _ _ .normal (⟨[(1, .pv (.slc words.length words_f (encI words))), (3, .ptr 0 0), (7, B true), (9, I (awardD d words).1), (10, I (awardD d words).2.1), (14, I mine_108), (15, I most0), (16, I k0)], [(0, .box [I d.Id, I d.Item, I d.Until, .pv (.slc d.Units.length false (encI d.Units)), .pv (.slc d.Choices.length false (encI d.Choices))])], 1, [], 231, 0⟩ : St)
               refine seqK_n (sem_region rfl (step_r rfl rfl trivial (step_r rfl rfl (by decide) (step_r rfl rfl trivial (step_r rfl rfl trivial ?_)))))
               have jk58 : k0 < d.Choices.length := by first | assumption | omega | (simp only [List.length_set, List.length_append]; omega) | (simp only [IntKind.wrap_i64] at *; omega) | (simp; omega) | simp_all
               refine step_idxS (k := k0) rfl rfl rfl rfl jk58 (encI_ne jk58) rfl (step_load_one rfl rfl rfl (encI_get (get_getD jk58)) rfl ?_)
               refine step_max rfl rfl rfl ?_
               refine step_r rfl rfl trivial (step_nil (blkK_n (seqK_n (sem_region rfl (step_r rfl rfl trivial (step_bin rfl rfl rfl rfl rfl trivial (step_r rfl rfl trivial (step_nil ?_))))))))
               have e61 : fair21_L0 d words (d.Units.drop k0) k0 mine0 most0 = fair21_L0 d words (d.Units.drop (k0 + 1)) (k0 + 1) mine_108 (max most0 (d.Choices.getD k0 default)) := by
                rewrite [drop_cons hx0]
                rewrite [fair21_L0]
                try dsimp only
                rewrite [hJ49]
                try dsimp only
                all_goals rfl
               exact lup_againT (k0 + 1, mine_108, (max most0 (d.Choices.getD k0 default))) ⟨e61.symm.trans hI0, hk0⟩ (by show d.Units.length - (k0 + 1) < d.Units.length - k0; omega) (Trans.ren [] (by decide +kernel) (by decide +kernel) rfl ⟨⟨rfl, rfl⟩, ⟨rfl, rfl⟩, ⟨rfl, rfl⟩, ⟨rfl, rfl⟩, ⟨rfl, rfl⟩, ⟨rfl, rfl⟩, ⟨rfl, rfl⟩, ⟨congrArg (fun n => some (I n)) (wrapI (k := k0) (by first | omega | (simp; omega))), rfl⟩, trivial⟩ ⟨⟨rfl, rfl, rfl⟩, trivial⟩ (by decide))
             ·have g48 : ¬ ((k0 : Int) < d.Units.length) := of_decide_eq_false h48
              have hk0 : k0 = d.Units.length := by omega
              refine sem_exit (seqK_e (lupK_e (blkK_t rfl ?_)))
              have e62 : fair21_L0 d words d.Units 0 0 0 = (mine0, most0) := by
               rewrite [← hI0, hk0, List.drop_length]
               rewrite [fair21_L0]
               try dsimp only
               all_goals rfl
              exact cutW_n (mine0, most0) e62 (Trans.ren [] (by decide +kernel) (by decide +kernel) rfl ⟨⟨rfl, rfl⟩, ⟨rfl, rfl⟩, ⟨rfl, rfl⟩, ⟨rfl, rfl⟩, ⟨rfl, rfl⟩, ⟨rfl, rfl⟩, ⟨rfl, rfl⟩, trivial⟩ ⟨⟨rfl, rfl, rfl⟩, trivial⟩ (by decide))
            ·rintro ⟨mine_0, most_0⟩ (hJ46 : fair21_L0 d words d.Units 0 0 0 = (mine_0, most_0))
             show seqK _ _ _ .normal (⟨[(1, .pv (.slc words.length words_f (encI words))), (3, .ptr 0 0), (7, B true), (9, I (awardD d words).1), (10, I (awardD d words).2.1), (14, I mine_0), (15, I most_0)], [(0, .box [I d.Id, I d.Item, I d.Until, .pv (.slc d.Units.length false (encI d.Units)), .pv (.slc d.Choices.length false (encI d.Choices))])], 1, [], 231, 0⟩ : St)
             refine seqK_n (sem_seq (sem_seq (sem_region rfl (step_r rfl rfl trivial (step_bin rfl rfl rfl rfl rfl trivial (step_nil (seqK_n ?_)))))))
             refine sem_cond rfl (fun h64 => ?_) (fun h64 => ?_)
             ·have g64 : ((awardD d words).1 : Int) = 0 := beq_t h64
              refine sem_seq (sem_region rfl (step_r rfl rfl trivial (step_r rfl rfl trivial (step_gt rfl (step_r rfl rfl trivial (step_gt rfl (step_bin rfl rfl rfl rfl rfl trivial (step_r rfl rfl trivial (step_r rfl rfl trivial (step_nil (seqK_n ?_)))))))))))
              refine sem_ret (seqK_r ?_)
              have e67 : fair21 d words more = (decide ((most_0 : Int) < 2)) := by
               unfold fair21
               try dsimp only
               rewrite [if_pos g3, if_neg g6, if_neg g9, if_pos g12, if_pos g17, if_neg g29, if_neg g32, if_pos g38, if_pos g41, if_pos g44, hJ46]
               try dsimp only
               rewrite [if_pos g64]
               all_goals rfl
              rw [e67]
              exact answersR rfl ⟨trivial, trivial⟩ (rfl) rfl
             ·have g64 : ¬ (((awardD d words).1 : Int) = 0) := beq_f h64
              refine sem_skip (seqK_n (sem_seq (sem_region rfl (step_r (v := (.agg [_, _, _, _, _])) rfl rfl (Nat.le_of_ble_eq_true rfl) ?_))))
              refine step_callN (out' := .ref 1 _ _ _) (H' := [(1, .row _ _ _), (0, _)]) (nx' := 2) rfl rfl rfl rfl rfl rfl rfl (by (repeat' apply And.intro) <;> first | trivial | rfl | exact flat_len (fun _ => rfl) _ | exact encI_len _ | exact Nat.le_of_ble_eq_true rfl | assumption) (best_ok d) rfl rfl rfl rfl ?_
              refine step_r rfl rfl trivial (step_nil (seqK_n (sem_seq (sem_region rfl (step_r rfl rfl trivial (step_r rfl rfl trivial (step_r rfl rfl trivial ?_)))))))
              refine step_callN (out' := .tup [.ref 2 _ _ _, _, _]) (H' := [(2, .row _ _ _), (1, _), (0, _)]) (nx' := 3) rfl rfl rfl rfl rfl rfl rfl (by (repeat' apply And.intro) <;> first | trivial | rfl | exact flat_len (fun _ => rfl) _ | exact encI_len _ | exact Nat.le_of_ble_eq_true rfl | assumption) (roll_ok words false ((bestD d).length)) rfl rfl rfl rfl ?_
              refine step_r rfl rfl trivial (step_r rfl rfl trivial (step_r rfl rfl trivial (step_r rfl rfl trivial (step_r rfl rfl trivial (step_r rfl rfl trivial (step_r rfl rfl trivial (step_nil (seqK_n (sem_seq (sem_seq (sem_region rfl ?_)))))))))))
              refine step_r rfl rfl trivial (step_nil (seqK_n ?_))
              refine sem_cutW (fun w_ : Unit => match w_ with | () => (⟨[(7, B true), (14, I mine_0), (15, I most_0)], [], 0, [], 231, 0⟩ : St)) (fun w_ => fair21_L1 d words (200) 0 = .inr w_) ?_ ?_
              ·refine sem_block ?_
               refine sem_loopT (fun w_ : Nat × Int => match w_ with | (f1, i1) => (⟨[(7, B true), (9, I (awardD d words).1), (10, I (awardD d words).2.1), (14, I mine_0), (15, I most_0), (17, .ref 0 1 0 (bestD d).length), (18, .ref 1 1 0 (rollM words ((bestD d).length)).1.length), (19, I (rollM words ((bestD d).length)).2.1), (20, B (rollM words ((bestD d).length)).2.2), (21, I i1)], [(0, .row 3 1 (encI (bestD d))), (1, .row 3 1 (encI (rollM words ((bestD d).length)).1))], 2, [], 231, 0⟩ : St)) (fun w_ : Nat × Int => match w_ with | (f1, i1) => fair21_L1 d words f1 i1 = fair21_L1 d words (200) 0 ∧ ((bestD d).length - i1).toNat < f1 ∧ 0 ≤ i1) (fun w_ : Nat × Int => match w_ with | (f1, i1) => f1) (200, 0) (⟨rfl, (by first | omega | (simp; omega)), by first | omega | simp | (simp; omega)⟩) ?_ (fun w_ hh_ => ?_)
               ·exact (Trans.ren [(0, 1), (1, 2), (2, 0)] (by decide +kernel) (by decide +kernel) rfl ⟨⟨rfl, rfl⟩, ⟨rfl, rfl⟩, ⟨rfl, rfl⟩, ⟨rfl, rfl⟩, ⟨rfl, rfl⟩, ⟨rfl, rfl⟩, ⟨rfl, rfl⟩, ⟨rfl, rfl⟩, ⟨rfl, rfl⟩, ⟨rfl, rfl⟩, trivial⟩ ⟨⟨rfl, rfl, rfl⟩, ⟨rfl, rfl, rfl⟩, trivial⟩ (by decide))
               obtain ⟨f1, i1⟩ := w_
               obtain ⟨hI1, hb1, hv1⟩ := hh_
               obtain ⟨f1, rfl⟩ : ∃ z_, f1 = z_ + 1 := ⟨f1 - 1, by omega⟩
               show Walks Try.prog _ _ (⟨[(7, B true), (9, I (awardD d words).1), (10, I (awardD d words).2.1), (14, I mine_0), (15, I most_0), (17, .ref 0 1 0 (bestD d).length), (18, .ref 1 1 0 (rollM words ((bestD d).length)).1.length), (19, I (rollM words ((bestD d).length)).2.1), (20, B (rollM words ((bestD d).length)).2.2), (21, I i1)], [(0, .row 3 1 (encI (bestD d))), (1, .row 3 1 (encI (rollM words ((bestD d).length)).1))], 2, [], 231, 0⟩ : St)
               refine sem_seq (sem_seq (sem_region rfl (step_r rfl rfl trivial (step_r rfl rfl trivial (step_r rfl rfl trivial (step_bin rfl rfl rfl rfl rfl trivial (step_r rfl rfl trivial ?_)))))))
               refine step_gs rfl (fun h73 => ?_) (fun h73 => ?_)
               ·have g73 : (i1 : Int) < ((bestD d).length) := of_decide_eq_true h73
                refine step_g1 rfl h73 (step_r rfl rfl trivial (step_g1 rfl h73 (step_r rfl rfl trivial (step_g1 rfl h73 (step_bin rfl rfl rfl rfl rfl trivial (step_pickT rfl h73 rfl rfl (step_nil (seqK_n ?_))))))))
                refine sem_cond rfl (fun h75 => ?_) (fun h75 => ?_)
                ·have g75 : ((bestD d).length : Int) > 1 := of_decide_eq_true h75
                 refine sem_skip (seqK_n (sem_seq (sem_block (sem_seq (sem_seq (sem_region rfl (step_r rfl rfl trivial (step_r rfl rfl trivial (step_r rfl rfl trivial ?_)))))))))
                 refine step_gs rfl (fun h78 => ?_) (fun h78 => ?_)
                 ·have g78 : ¬ ((rollM words ((bestD d).length)).2.2 = true) := boo_f (not_t h78)
                  refine step_g0 rfl h78 rfl (step_g0 rfl h78 rfl (step_g0 rfl h78 rfl (step_pickT rfl h78 rfl rfl (step_r rfl rfl trivial (step_gf rfl rfl (step_gf rfl rfl (step_gf rfl rfl (step_gf rfl rfl (step_r rfl rfl trivial (step_r rfl rfl trivial (step_gf rfl rfl ?_)))))))))))
                  refine step_gf rfl rfl (step_gf rfl rfl (step_gf rfl rfl (step_gf rfl rfl (step_r rfl rfl trivial (step_r rfl rfl trivial (step_gf rfl rfl (step_gf rfl rfl (step_gf rfl rfl (step_gf rfl rfl (step_gf rfl rfl (step_r rfl rfl trivial ?_)))))))))))
                  refine step_nil (seqK_n (sem_condT rfl (sem_seq (sem_region rfl (step_r rfl rfl trivial (step_nil (seqK_n (sem_ret (seqK_r (blkK_r (seqK_r ?_)))))))))))
                  refine lupK_r (blkK_r (cutW_r (seqK_r ?_)))
                  have e79 : fair21_L1 d words (200) 0 = .inl false := by
                   rewrite [← hI1]
                   rewrite [fair21_L1]
                   try dsimp only
                   rewrite [if_pos g73, if_pos g75, if_neg g78]
                   all_goals rfl
                  have e80 : fair21 d words more = false := by
                   unfold fair21
                   try dsimp only
                   rewrite [if_pos g3, if_neg g6, if_neg g9, if_pos g12, if_pos g17, if_neg g29, if_neg g32, if_pos g38, if_pos g41, if_pos g44, hJ46]
                   try dsimp only
                   rewrite [if_neg g64, e79]
                   try dsimp only
                   all_goals rfl
                  rw [e80]
                  exact answersR rfl ⟨trivial, trivial⟩ (rfl) rfl
                 ·have g78 : (rollM words ((bestD d).length)).2.2 = true := (not_f h78)
                  refine step_g1 rfl h78 (step_r rfl rfl trivial (step_g1 rfl h78 (step_r rfl rfl trivial (step_g1 rfl h78 (step_bin rfl rfl rfl rfl rfl trivial (step_pickF rfl h78 rfl rfl (step_r rfl rfl trivial ?_)))))))
                  refine step_gs rfl (fun h84 => ?_) (fun h84 => ?_)
                  ·have g84 : ¬ (((rollM words ((bestD d).length)).2.1 : Int) = ((awardD d words).2.1)) := bne_t h84
                   refine step_g0 rfl h84 rfl (step_g0 rfl h84 rfl (step_g0 rfl h84 rfl (step_g0 rfl h84 rfl (step_pickT rfl h84 rfl rfl (step_r rfl rfl trivial (step_gf rfl rfl (step_gf rfl rfl (step_gf rfl rfl (step_gf rfl rfl (step_gf rfl rfl (step_r rfl rfl trivial ?_)))))))))))
                   refine step_r rfl rfl trivial (step_gf rfl rfl (step_gf rfl rfl (step_gf rfl rfl (step_gf rfl rfl (step_gf rfl rfl (step_r rfl rfl trivial (step_nil (seqK_n (sem_condT rfl (sem_seq (sem_region rfl ?_)))))))))))
                   refine step_r rfl rfl trivial (step_nil (seqK_n (sem_ret (seqK_r (blkK_r (seqK_r (lupK_r (blkK_r (cutW_r (seqK_r ?_))))))))))
                   have e85 : fair21_L1 d words (200) 0 = .inl false := by
                    rewrite [← hI1]
                    rewrite [fair21_L1]
                    try dsimp only
                    rewrite [if_pos g73, if_pos g75, if_pos g78, if_neg g84]
                    all_goals rfl
                   have e86 : fair21 d words more = false := by
                    unfold fair21
                    try dsimp only
                    rewrite [if_pos g3, if_neg g6, if_neg g9, if_pos g12, if_pos g17, if_neg g29, if_neg g32, if_pos g38, if_pos g41, if_pos g44, hJ46]
                    try dsimp only
                    rewrite [if_neg g64, e85]
                    try dsimp only
                    all_goals rfl
                   rw [e86]
                   exact answersR rfl ⟨trivial, trivial⟩ (rfl) rfl
                  ·have g84 : ((rollM words ((bestD d).length)).2.1 : Int) = ((awardD d words).2.1) := bne_f h84
                   refine step_g1 rfl h84 (step_r rfl rfl trivial (step_g1 rfl h84 (step_r rfl rfl trivial (step_g1 rfl h84 (step_r rfl rfl trivial (step_g1 rfl h84 (step_bin rfl rfl rfl rfl rfl trivial (step_pickF rfl h84 rfl rfl (step_r rfl rfl trivial ?_)))))))))
                   refine step_gs rfl (fun h88 => ?_) (fun h88 => ?_)
                   ·have g88 : (i1 : Int) ≥ ((rollM words ((bestD d).length)).1.length) := of_decide_eq_true h88
                    refine step_g0 rfl h88 rfl (step_g0 rfl h88 rfl (step_g0 rfl h88 rfl (step_g0 rfl h88 rfl (step_g0 rfl h88 rfl (step_pickT rfl h88 rfl rfl (step_r rfl rfl trivial (step_gf rfl rfl (step_gf rfl rfl (step_gf rfl rfl (step_gf rfl rfl (step_gf rfl rfl ?_)))))))))))
                    refine step_r rfl rfl trivial (step_nil (seqK_n (sem_condT rfl (sem_seq (sem_region rfl (step_r rfl rfl trivial (step_nil (seqK_n (sem_ret (seqK_r (blkK_r ?_)))))))))))
                    refine seqK_r (lupK_r (blkK_r (cutW_r (seqK_r ?_))))
                    have e89 : fair21_L1 d words (200) 0 = .inl false := by
                     rewrite [← hI1]
                     rewrite [fair21_L1]
                     try dsimp only
                     rewrite [if_pos g73, if_pos g75, if_pos g78, if_pos g84, if_pos g88]
                     all_goals rfl
                    have e90 : fair21 d words more = false := by
                     unfold fair21
                     try dsimp only
                     rewrite [if_pos g3, if_neg g6, if_neg g9, if_pos g12, if_pos g17, if_neg g29, if_neg g32, if_pos g38, if_pos g41, if_pos g44, hJ46]
                     try dsimp only
                     rewrite [if_neg g64, e89]
                     try dsimp only
                     all_goals rfl
                    rw [e90]
                    exact answersR rfl ⟨trivial, trivial⟩ (rfl) rfl
                   ·have g88 : ¬ ((i1 : Int) ≥ ((rollM words ((bestD d).length)).1.length)) := of_decide_eq_false h88
                    refine step_g1 rfl h88 (step_r rfl rfl trivial (step_g1 rfl h88 (step_r rfl rfl trivial (step_g1 rfl h88 ?_))))
                    have jk91 : i1.toNat < ((rollM words ((bestD d).length)).1).length := by first | assumption | omega | (simp only [List.length_set, List.length_append]; omega) | (simp only [IntKind.wrap_i64] at *; omega) | (simp; omega) | simp_all
                    refine step_idxR' (k := i1.toNat) rfl rfl (Int.toNat_of_nonneg (by first | omega | (simp only [IntKind.wrap_i64]; omega) | (simp only [IntKind.wrap_i64] at *; omega) | (simp; omega))).symm rfl rfl jk91 rfl ?_
                    refine step_g1 rfl h88 ?_
                    refine step_load_oneR rfl rfl rfl rfl (encI_get (get_getD jk91)) rfl ?_
                    refine step_g1 rfl h88 (step_bin rfl rfl rfl rfl rfl trivial (step_pickF rfl h88 rfl rfl (step_r rfl rfl trivial ?_)))
                    refine step_gs rfl (fun h93 => ?_) (fun h93 => ?_)
                    ·have g93 : (((rollM words ((bestD d).length)).1).getD i1.toNat default : Int) < 1 := of_decide_eq_true h93
                     refine step_g0 rfl h93 rfl (step_g0 rfl h93 rfl (step_g0 rfl h93 rfl (step_g0 rfl h93 rfl (step_g0 rfl h93 rfl (step_pickT rfl h93 rfl rfl (step_nil (seqK_n (sem_condT rfl (sem_seq (sem_region rfl (step_r rfl rfl trivial ?_)))))))))))
                     refine step_nil (seqK_n (sem_ret (seqK_r (blkK_r (seqK_r (lupK_r (blkK_r (cutW_r (seqK_r ?_)))))))))
                     have e94 : fair21_L1 d words (200) 0 = .inl false := by
                      rewrite [← hI1]
                      rewrite [fair21_L1]
                      try dsimp only
                      rewrite [if_pos g73, if_pos g75, if_pos g78, if_pos g84, if_neg g88, if_pos g93]
                      all_goals rfl
                     have e95 : fair21 d words more = false := by
                      unfold fair21
                      try dsimp only
                      rewrite [if_pos g3, if_neg g6, if_neg g9, if_pos g12, if_pos g17, if_neg g29, if_neg g32, if_pos g38, if_pos g41, if_pos g44, hJ46]
                      try dsimp only
                      rewrite [if_neg g64, e94]
                      try dsimp only
                      all_goals rfl
                     rw [e95]
                     exact answersR rfl ⟨trivial, trivial⟩ (rfl) rfl
                    ·have g93 : ¬ ((((rollM words ((bestD d).length)).1).getD i1.toNat default : Int) < 1) := of_decide_eq_false h93
                     refine step_g1 rfl h93 (step_r rfl rfl trivial (step_g1 rfl h93 (step_r rfl rfl trivial (step_g1 rfl h93 ?_))))
                     refine step_idxR' (k := i1.toNat) rfl rfl (Int.toNat_of_nonneg (by first | omega | (simp only [IntKind.wrap_i64]; omega) | (simp only [IntKind.wrap_i64] at *; omega) | (simp; omega))).symm rfl rfl jk91 rfl ?_
                     refine step_g1 rfl h93 ?_
                     refine step_load_oneR rfl rfl rfl rfl (encI_get (get_getD jk91)) rfl ?_
                     refine step_g1 rfl h93 (step_bin rfl rfl rfl rfl rfl trivial (step_pickF rfl h93 rfl rfl (step_nil (seqK_n ?_))))
                     refine sem_cond rfl (fun h97 => ?_) (fun h97 => ?_)
                     ·have g97 : (((rollM words ((bestD d).length)).1).getD i1.toNat default : Int) > 100 := of_decide_eq_true h97
                      refine sem_seq (sem_region rfl (step_r rfl rfl trivial (step_nil (seqK_n (sem_ret (seqK_r (blkK_r (seqK_r (lupK_r (blkK_r (cutW_r ?_)))))))))))
                      refine seqK_r ?_
                      have e98 : fair21_L1 d words (200) 0 = .inl false := by
                       rewrite [← hI1]
                       rewrite [fair21_L1]
                       try dsimp only
                       rewrite [if_pos g73, if_pos g75, if_pos g78, if_pos g84, if_neg g88, if_neg g93, if_pos g97]
                       all_goals rfl
                      have e99 : fair21 d words more = false := by
                       unfold fair21
                       try dsimp only
                       rewrite [if_pos g3, if_neg g6, if_neg g9, if_pos g12, if_pos g17, if_neg g29, if_neg g32, if_pos g38, if_pos g41, if_pos g44, hJ46]
                       try dsimp only
                       rewrite [if_neg g64, e98]
                       try dsimp only
                       all_goals rfl
                      rw [e99]
                      exact answersR rfl ⟨trivial, trivial⟩ (rfl) rfl
                     ·have g97 : ¬ ((((rollM words ((bestD d).length)).1).getD i1.toNat default : Int) > 100) := of_decide_eq_false h97
                      refine sem_skip (seqK_n (sem_seq (sem_region rfl (step_r rfl rfl trivial (step_nil (seqK_n ?_))))))
                      refine sem_cutW (fun w_ : Unit => match w_ with | () => (⟨[(7, B true), (9, I (awardD d words).1), (10, I (awardD d words).2.1), (14, I mine_0), (15, I most_0), (17, .ref 0 1 0 (bestD d).length), (18, .ref 1 1 0 (rollM words ((bestD d).length)).1.length), (19, I (rollM words ((bestD d).length)).2.1), (20, B (rollM words ((bestD d).length)).2.2), (21, I i1)], [(0, .row 3 1 (encI (bestD d))), (1, .row 3 1 (encI (rollM words ((bestD d).length)).1))], 2, [], 231, 0⟩ : St)) (fun w_ => fair21_L2 d words i1 (200) 0 = .inr w_) ?_ ?_
                      ·refine sem_block ?_
                       refine sem_loopT (fun w_ : Nat × Int => match w_ with | (f2, j2) => (⟨[(7, B true), (9, I (awardD d words).1), (10, I (awardD d words).2.1), (14, I mine_0), (15, I most_0), (17, .ref 0 1 0 (bestD d).length), (18, .ref 1 1 0 (rollM words ((bestD d).length)).1.length), (19, I (rollM words ((bestD d).length)).2.1), (20, B (rollM words ((bestD d).length)).2.2), (21, I i1), (22, I j2)], [(0, .row 3 1 (encI (bestD d))), (1, .row 3 1 (encI (rollM words ((bestD d).length)).1))], 2, [], 231, 0⟩ : St)) (fun w_ : Nat × Int => match w_ with | (f2, j2) => fair21_L2 d words i1 f2 j2 = fair21_L2 d words i1 (200) 0 ∧ ((rollM words (bestD d).length).1.length - j2).toNat < f2 ∧ 0 ≤ j2) (fun w_ : Nat × Int => match w_ with | (f2, j2) => f2) (200, 0) (⟨rfl, (by have := @rollM_le words (bestD d).length; omega), by first | omega | simp | (simp; omega)⟩) ?_ (fun w_ hh_ => ?_)
                       ·exact (Trans.ren [] (by decide +kernel) (by decide +kernel) rfl ⟨⟨rfl, rfl⟩, ⟨rfl, rfl⟩, ⟨rfl, rfl⟩, ⟨rfl, rfl⟩, ⟨rfl, rfl⟩, ⟨rfl, rfl⟩, ⟨rfl, rfl⟩, ⟨rfl, rfl⟩, ⟨rfl, rfl⟩, ⟨rfl, rfl⟩, ⟨rfl, rfl⟩, trivial⟩ ⟨⟨rfl, rfl, rfl⟩, ⟨rfl, rfl, rfl⟩, trivial⟩ (by decide))
                       obtain ⟨f2, j2⟩ := w_
                       obtain ⟨hI2, hb2, hv2⟩ := hh_
                       obtain ⟨f2, rfl⟩ : ∃ z_, f2 = z_ + 1 := ⟨f2 - 1, by omega⟩
                       show Walks Try.prog _ _ (⟨[(7, B true), (9, I (awardD d words).1), (10, I (awardD d words).2.1), (14, I mine_0), (15, I most_0), (17, .ref 0 1 0 (bestD d).length), (18, .ref 1 1 0 (rollM words ((bestD d).length)).1.length), (19, I (rollM words ((bestD d).length)).2.1), (20, B (rollM words ((bestD d).length)).2.2), (21, I i1), (22, I j2)], [(0, .row 3 1 (encI (bestD d))), (1, .row 3 1 (encI (rollM words ((bestD d).length)).1))], 2, [], 231, 0⟩ : St)
                       refine sem_seq (sem_seq (sem_region rfl (step_r rfl rfl trivial (step_r rfl rfl trivial (step_r rfl rfl trivial (step_bin rfl rfl rfl rfl rfl trivial (step_r rfl rfl trivial ?_)))))))
                       refine step_gs rfl (fun h103 => ?_) (fun h103 => ?_)
                       ·have g103 : (j2 : Int) < ((rollM words ((bestD d).length)).1.length) := of_decide_eq_true h103
                        refine step_g1 rfl h103 (step_r rfl rfl trivial (step_g1 rfl h103 (step_r rfl rfl trivial (step_g1 rfl h103 ?_))))
                        have jk105 : i1.toNat < (bestD d).length := by first | assumption | omega | (simp only [List.length_set, List.length_append]; omega) | (simp only [IntKind.wrap_i64] at *; omega) | (simp; omega) | simp_all
                        refine step_idxR' (k := i1.toNat) rfl rfl (Int.toNat_of_nonneg (by first | omega | (simp only [IntKind.wrap_i64]; omega) | (simp only [IntKind.wrap_i64] at *; omega) | (simp; omega))).symm rfl rfl jk105 rfl ?_
                        refine step_g1 rfl h103 ?_
                        refine step_load_oneR rfl rfl rfl rfl (encI_get (get_getD jk105)) rfl ?_
                        refine step_g1 rfl h103 (step_r rfl rfl trivial (step_g1 rfl h103 (step_bin rfl rfl rfl rfl rfl trivial (step_pickT rfl h103 rfl rfl (step_nil (seqK_n ?_))))))
                        refine sem_cond rfl (fun h108 => ?_) (fun h108 => ?_)
                        ·have g108 : ((bestD d).getD i1.toNat default : Int) = ((awardD d words).1) := beq_t h108
                         refine sem_skip (seqK_n (sem_seq (sem_block (sem_seq ?_))))
                         refine sem_drawn rfl (by decide +kernel) rfl ?_
                         refine step_r rfl rfl trivial (step_r rfl rfl trivial ?_)
                         have jk109 : j2.toNat < ((rollM words ((bestD d).length)).1).length := by first | assumption | omega | (simp only [List.length_set, List.length_append]; omega) | (simp only [IntKind.wrap_i64] at *; omega) | (simp; omega) | simp_all
                         refine step_idxR' (k := j2.toNat) rfl rfl (Int.toNat_of_nonneg (by first | omega | (simp only [IntKind.wrap_i64]; omega) | (simp only [IntKind.wrap_i64] at *; omega) | (simp; omega))).symm rfl rfl jk109 rfl ?_
                         refine step_load_oneR rfl rfl rfl rfl (encI_get (get_getD jk109)) rfl ?_
                         refine step_r rfl rfl trivial (step_r rfl rfl trivial ?_)
                         refine step_idxR' (k := i1.toNat) rfl rfl (Int.toNat_of_nonneg (by first | omega | (simp only [IntKind.wrap_i64]; omega) | (simp only [IntKind.wrap_i64] at *; omega) | (simp; omega))).symm rfl rfl jk91 rfl ?_
                         refine step_load_oneR rfl rfl rfl rfl (encI_get (get_getD jk91)) rfl ?_
                         refine step_bin rfl rfl rfl rfl rfl trivial (step_r rfl rfl trivial ?_)
                         refine step_gs rfl (fun h111 => ?_) (fun h111 => ?_)
                         ·have g111 : (((rollM words ((bestD d).length)).1).getD j2.toNat default : Int) > (((rollM words ((bestD d).length)).1).getD i1.toNat default) := of_decide_eq_true h111
                          refine step_g0 rfl h111 rfl (step_g0 rfl h111 rfl (step_g0 rfl h111 rfl (step_g0 rfl h111 rfl (step_g0 rfl h111 rfl (step_g0 rfl h111 rfl (step_g0 rfl h111 rfl (step_g0 rfl h111 rfl (step_g0 rfl h111 rfl (step_g0 rfl h111 rfl (step_gf rfl rfl (step_gf rfl rfl ?_)))))))))))
                          refine step_gf rfl rfl (step_g0 rfl h111 rfl (step_pickT rfl h111 rfl rfl (step_nil (seqK_n (sem_condT rfl (sem_seq (sem_region rfl (step_r rfl rfl trivial (step_nil (seqK_n (sem_ret ?_)))))))))))
                          refine blkK_r (seqK_r (lupK_r (blkK_r (cutW_r (blkK_r (seqK_r (lupK_r (blkK_r (cutW_r (seqK_r ?_))))))))))
                          have e112 : fair21_L2 d words i1 (200) 0 = .inl false := by
                           rewrite [← hI2]
                           rewrite [fair21_L2]
                           try dsimp only
                           rewrite [if_pos g103, if_pos g108, if_pos g111]
                           all_goals rfl
                          have e113 : fair21_L1 d words (200) 0 = .inl false := by
                           rewrite [← hI1]
                           rewrite [fair21_L1]
                           try dsimp only
                           rewrite [if_pos g73, if_pos g75, if_pos g78, if_pos g84, if_neg g88, if_neg g93, if_neg g97, e112]
                           try dsimp only
                           all_goals rfl
                          have e114 : fair21 d words more = false := by
                           unfold fair21
                           try dsimp only
                           rewrite [if_pos g3, if_neg g6, if_neg g9, if_pos g12, if_pos g17, if_neg g29, if_neg g32, if_pos g38, if_pos g41, if_pos g44, hJ46]
                           try dsimp only
                           rewrite [if_neg g64, e113]
                           try dsimp only
                           all_goals rfl
                          rw [e114]
                          exact answersR rfl ⟨trivial, trivial⟩ (rfl) rfl
                         ·have g111 : ¬ ((((rollM words ((bestD d).length)).1).getD j2.toNat default : Int) > (((rollM words ((bestD d).length)).1).getD i1.toNat default)) := of_decide_eq_false h111
                          refine step_g1 rfl h111 (step_r rfl rfl trivial (step_g1 rfl h111 (step_r rfl rfl trivial (step_g1 rfl h111 ?_))))
                          refine step_idxR' (k := j2.toNat) rfl rfl (Int.toNat_of_nonneg (by first | omega | (simp only [IntKind.wrap_i64]; omega) | (simp only [IntKind.wrap_i64] at *; omega) | (simp; omega))).symm rfl rfl jk109 rfl ?_
                          refine step_g1 rfl h111 ?_
                          refine step_load_oneR rfl rfl rfl rfl (encI_get (get_getD jk109)) rfl ?_
                          refine step_g1 rfl h111 (step_r rfl rfl trivial (step_g1 rfl h111 (step_r rfl rfl trivial (step_g1 rfl h111 ?_))))
                          refine step_idxR' (k := i1.toNat) rfl rfl (Int.toNat_of_nonneg (by first | omega | (simp only [IntKind.wrap_i64]; omega) | (simp only [IntKind.wrap_i64] at *; omega) | (simp; omega))).symm rfl rfl jk91 rfl ?_
                          refine step_g1 rfl h111 ?_
                          refine step_load_oneR rfl rfl rfl rfl (encI_get (get_getD jk91)) rfl ?_
                          refine step_g1 rfl h111 (step_bin rfl rfl rfl rfl rfl trivial (step_g1 rfl h111 (step_r rfl rfl trivial ?_)))
                          refine step_gs rfl (fun h116 => ?_) (fun h116 => ?_)
                          ·have g116 : (((rollM words ((bestD d).length)).1).getD j2.toNat default : Int) = (((rollM words ((bestD d).length)).1).getD i1.toNat default) := beq_t h116
                           refine step_g1 rfl h116 (step_r rfl rfl trivial (step_g1 rfl h116 (step_r rfl rfl trivial (step_g1 rfl h116 (step_bin rfl rfl rfl rfl rfl trivial (step_g1 rfl h111 (step_pickT rfl h116 rfl rfl (step_pickF rfl h111 rfl rfl (step_nil (seqK_n ?_))))))))))
                           refine sem_cond rfl (fun h118 => ?_) (fun h118 => ?_)
                           ·have g118 : (j2 : Int) < i1 := of_decide_eq_true h118
                            refine sem_seq (sem_region rfl (step_r rfl rfl trivial (step_nil (seqK_n (sem_ret (blkK_r (seqK_r (lupK_r (blkK_r (cutW_r (blkK_r ?_)))))))))))
                            refine seqK_r (lupK_r (blkK_r (cutW_r (seqK_r ?_))))
                            have e119 : fair21_L2 d words i1 (200) 0 = .inl false := by
                             rewrite [← hI2]
                             rewrite [fair21_L2]
                             try dsimp only
                             rewrite [if_pos g103, if_pos g108, if_neg g111, if_pos g116, if_pos g118]
                             all_goals rfl
                            have e120 : fair21_L1 d words (200) 0 = .inl false := by
                             rewrite [← hI1]
                             rewrite [fair21_L1]
                             try dsimp only
                             rewrite [if_pos g73, if_pos g75, if_pos g78, if_pos g84, if_neg g88, if_neg g93, if_neg g97, e119]
                             try dsimp only
                             all_goals rfl
                            have e121 : fair21 d words more = false := by
                             unfold fair21
                             try dsimp only
                             rewrite [if_pos g3, if_neg g6, if_neg g9, if_pos g12, if_pos g17, if_neg g29, if_neg g32, if_pos g38, if_pos g41, if_pos g44, hJ46]
                             try dsimp only
                             rewrite [if_neg g64, e120]
                             try dsimp only
                             all_goals rfl
                            rw [e121]
                            exact answersR rfl ⟨trivial, trivial⟩ (rfl) rfl
                           ·have g118 : ¬ ((j2 : Int) < i1) := of_decide_eq_false h118
                            refine sem_skip (blkK_n (seqK_n (sem_region rfl (step_r rfl rfl trivial (step_bin rfl rfl rfl rfl rfl trivial (step_r rfl rfl trivial (step_nil ?_)))))))
                            have e123 : fair21_L2 d words i1 (f2 + 1) j2 = fair21_L2 d words i1 f2 (IntKind.i64.wrap (j2 + 1)) := by
                             rewrite [fair21_L2]
                             try dsimp only
                             rewrite [if_pos g103, if_pos g108, if_neg g111, if_pos g116, if_neg g118]
                             all_goals rfl
                            exact lup_againT (f2, (IntKind.i64.wrap (j2 + 1))) ⟨e123.symm.trans hI2, (by have := @rollM_le words (bestD d).length; simp only [IntKind.wrap_i64] at *; omega), (by have := @rollM_le words (bestD d).length; simp only [IntKind.wrap_i64] at *; omega)⟩ (Nat.lt_succ_self _) (Trans.ren [] (by decide +kernel) (by decide +kernel) rfl ⟨⟨rfl, rfl⟩, ⟨rfl, rfl⟩, ⟨rfl, rfl⟩, ⟨rfl, rfl⟩, ⟨rfl, rfl⟩, ⟨rfl, rfl⟩, ⟨rfl, rfl⟩, ⟨rfl, rfl⟩, ⟨rfl, rfl⟩, ⟨rfl, rfl⟩, ⟨rfl, rfl⟩, trivial⟩ ⟨⟨rfl, rfl, rfl⟩, ⟨rfl, rfl, rfl⟩, trivial⟩ (by decide))
                          ·have g116 : ¬ ((((rollM words ((bestD d).length)).1).getD j2.toNat default : Int) = (((rollM words ((bestD d).length)).1).getD i1.toNat default)) := beq_f h116
                           refine step_g0 rfl h116 rfl (step_g0 rfl h116 rfl (step_g0 rfl h116 rfl (step_g1 rfl h111 (step_pickF rfl h116 rfl rfl (step_pickF rfl h111 rfl rfl (step_nil (seqK_n (sem_condF rfl (sem_skip (blkK_n (seqK_n ?_)))))))))))
                           refine sem_region rfl (step_r rfl rfl trivial (step_bin rfl rfl rfl rfl rfl trivial (step_r rfl rfl trivial (step_nil ?_))))
                           have e125 : fair21_L2 d words i1 (f2 + 1) j2 = fair21_L2 d words i1 f2 (IntKind.i64.wrap (j2 + 1)) := by
                            rewrite [fair21_L2]
                            try dsimp only
                            rewrite [if_pos g103, if_pos g108, if_neg g111, if_neg g116]
                            all_goals rfl
                           exact lup_againT (f2, (IntKind.i64.wrap (j2 + 1))) ⟨e125.symm.trans hI2, (by have := @rollM_le words (bestD d).length; simp only [IntKind.wrap_i64] at *; omega), (by have := @rollM_le words (bestD d).length; simp only [IntKind.wrap_i64] at *; omega)⟩ (Nat.lt_succ_self _) (Trans.ren [] (by decide +kernel) (by decide +kernel) rfl ⟨⟨rfl, rfl⟩, ⟨rfl, rfl⟩, ⟨rfl, rfl⟩, ⟨rfl, rfl⟩, ⟨rfl, rfl⟩, ⟨rfl, rfl⟩, ⟨rfl, rfl⟩, ⟨rfl, rfl⟩, ⟨rfl, rfl⟩, ⟨rfl, rfl⟩, ⟨rfl, rfl⟩, trivial⟩ ⟨⟨rfl, rfl, rfl⟩, ⟨rfl, rfl, rfl⟩, trivial⟩ (by decide))
                        ·have g108 : ¬ (((bestD d).getD i1.toNat default : Int) = ((awardD d words).1)) := beq_f h108
                         refine sem_exit (seqK_e (lupK_e (blkK_t rfl ?_)))
                         have e126 : fair21_L2 d words i1 (200) 0 = .inr () := by
                          rewrite [← hI2]
                          rewrite [fair21_L2]
                          try dsimp only
                          rewrite [if_pos g103, if_neg g108]
                          all_goals rfl
                         exact cutW_n () e126 (Trans.ren [] (by decide +kernel) (by decide +kernel) rfl ⟨⟨rfl, rfl⟩, ⟨rfl, rfl⟩, ⟨rfl, rfl⟩, ⟨rfl, rfl⟩, ⟨rfl, rfl⟩, ⟨rfl, rfl⟩, ⟨rfl, rfl⟩, ⟨rfl, rfl⟩, ⟨rfl, rfl⟩, ⟨rfl, rfl⟩, trivial⟩ ⟨⟨rfl, rfl, rfl⟩, ⟨rfl, rfl, rfl⟩, trivial⟩ (by decide))
                       ·have g103 : ¬ ((j2 : Int) < ((rollM words ((bestD d).length)).1.length)) := of_decide_eq_false h103
                        refine step_g0 rfl h103 rfl (step_g0 rfl h103 rfl (step_g0 rfl h103 rfl (step_g0 rfl h103 rfl (step_g0 rfl h103 rfl (step_g0 rfl h103 rfl (step_pickF rfl h103 rfl rfl (step_nil (seqK_n (sem_condF rfl (sem_exit (seqK_e ?_)))))))))))
                        refine lupK_e (blkK_t rfl ?_)
                        have e127 : fair21_L2 d words i1 (200) 0 = .inr () := by
                         rewrite [← hI2]
                         rewrite [fair21_L2]
                         try dsimp only
                         rewrite [if_neg g103]
                         all_goals rfl
                        exact cutW_n () e127 (Trans.ren [] (by decide +kernel) (by decide +kernel) rfl ⟨⟨rfl, rfl⟩, ⟨rfl, rfl⟩, ⟨rfl, rfl⟩, ⟨rfl, rfl⟩, ⟨rfl, rfl⟩, ⟨rfl, rfl⟩, ⟨rfl, rfl⟩, ⟨rfl, rfl⟩, ⟨rfl, rfl⟩, ⟨rfl, rfl⟩, trivial⟩ ⟨⟨rfl, rfl, rfl⟩, ⟨rfl, rfl, rfl⟩, trivial⟩ (by decide))
                      ·rintro ⟨⟩ (hJ100 : fair21_L2 d words i1 (200) 0 = .inr ())
                       show blkK _ _ .normal (⟨[(7, B true), (9, I (awardD d words).1), (10, I (awardD d words).2.1), (14, I mine_0), (15, I most_0), (17, .ref 0 1 0 (bestD d).length), (18, .ref 1 1 0 (rollM words ((bestD d).length)).1.length), (19, I (rollM words ((bestD d).length)).2.1), (20, B (rollM words ((bestD d).length)).2.2), (21, I i1)], [(0, .row 3 1 (encI (bestD d))), (1, .row 3 1 (encI (rollM words ((bestD d).length)).1))], 2, [], 231, 0⟩ : St)
                       refine blkK_n (seqK_n (sem_region rfl (step_r rfl rfl trivial (step_bin rfl rfl rfl rfl rfl trivial (step_r rfl rfl trivial (step_nil ?_))))))
                       have e130 : fair21_L1 d words (f1 + 1) i1 = fair21_L1 d words f1 (IntKind.i64.wrap (i1 + 1)) := by
                        rewrite [fair21_L1]
                        try dsimp only
                        rewrite [if_pos g73, if_pos g75, if_pos g78, if_pos g84, if_neg g88, if_neg g93, if_neg g97, hJ100]
                        try dsimp only
                        all_goals rfl
                       exact lup_againT (f1, (IntKind.i64.wrap (i1 + 1))) ⟨e130.symm.trans hI1, (by simp only [IntKind.wrap_i64] at *; omega), (by simp only [IntKind.wrap_i64] at *; omega)⟩ (Nat.lt_succ_self _) (Trans.ren [] (by decide +kernel) (by decide +kernel) rfl ⟨⟨rfl, rfl⟩, ⟨rfl, rfl⟩, ⟨rfl, rfl⟩, ⟨rfl, rfl⟩, ⟨rfl, rfl⟩, ⟨rfl, rfl⟩, ⟨rfl, rfl⟩, ⟨rfl, rfl⟩, ⟨rfl, rfl⟩, ⟨rfl, rfl⟩, trivial⟩ ⟨⟨rfl, rfl, rfl⟩, ⟨rfl, rfl, rfl⟩, trivial⟩ (by decide))
                ·have g75 : ¬ (((bestD d).length : Int) > 1) := of_decide_eq_false h75
                 refine sem_exit (seqK_e (lupK_e (blkK_t rfl ?_)))
                 have e131 : fair21_L1 d words (200) 0 = .inr () := by
                  rewrite [← hI1]
                  rewrite [fair21_L1]
                  try dsimp only
                  rewrite [if_pos g73, if_neg g75]
                  all_goals rfl
                 exact cutW_n () e131 (Trans.ren [] (by decide +kernel) (by decide +kernel) rfl ⟨⟨rfl, rfl⟩, ⟨rfl, rfl⟩, ⟨rfl, rfl⟩, trivial⟩ trivial (by decide))
               ·have g73 : ¬ ((i1 : Int) < ((bestD d).length)) := of_decide_eq_false h73
                refine step_g0 rfl h73 rfl (step_g0 rfl h73 rfl (step_g0 rfl h73 rfl (step_pickF rfl h73 rfl rfl (step_nil (seqK_n (sem_condF rfl (sem_exit (seqK_e (lupK_e (blkK_t rfl ?_))))))))))
                have e132 : fair21_L1 d words (200) 0 = .inr () := by
                 rewrite [← hI1]
                 rewrite [fair21_L1]
                 try dsimp only
                 rewrite [if_neg g73]
                 all_goals rfl
                exact cutW_n () e132 (Trans.ren [] (by decide +kernel) (by decide +kernel) rfl ⟨⟨rfl, rfl⟩, ⟨rfl, rfl⟩, ⟨rfl, rfl⟩, trivial⟩ trivial (by decide))
              ·rintro ⟨⟩ (hJ70 : fair21_L1 d words (200) 0 = .inr ())
               show seqK _ _ _ .normal (⟨[(7, B true), (14, I mine_0), (15, I most_0)], [], 0, [], 231, 0⟩ : St)
               refine seqK_n (sem_seq (sem_region rfl (step_r rfl rfl trivial (step_r rfl rfl trivial (step_gt rfl (step_r rfl rfl trivial (step_gt rfl (step_r rfl rfl trivial (step_gt rfl (step_bin rfl rfl rfl rfl rfl trivial (step_r rfl rfl trivial ?_)))))))))))
               refine step_r rfl rfl trivial ?_
               refine step_gs rfl (fun h136 => ?_) (fun h136 => ?_)
               ·have g136 : (mine_0 : Int) = most_0 := beq_t h136
                refine step_g1 rfl h136 (step_r rfl rfl trivial (step_g1 rfl h136 (step_bin rfl rfl rfl rfl rfl trivial (step_pickT rfl h136 rfl rfl (step_r rfl rfl trivial (step_nil (seqK_n (sem_ret ?_))))))))
                have e138 : fair21 d words more = (decide ((mine_0 : Int) ≥ 2)) := by
                 unfold fair21
                 try dsimp only
                 rewrite [if_pos g3, if_neg g6, if_neg g9, if_pos g12, if_pos g17, if_neg g29, if_neg g32, if_pos g38, if_pos g41, if_pos g44, hJ46]
                 try dsimp only
                 rewrite [if_neg g64, hJ70]
                 try dsimp only
                 rewrite [if_pos g136]
                 all_goals rfl
                rw [e138]
                exact answersR rfl ⟨trivial, trivial⟩ (rfl) rfl
               ·have g136 : ¬ ((mine_0 : Int) = most_0) := beq_f h136
                refine step_g0 rfl h136 rfl (step_g0 rfl h136 rfl (step_pickF rfl h136 rfl rfl (step_r rfl rfl trivial (step_nil (seqK_n (sem_ret ?_))))))
                have e139 : fair21 d words more = false := by
                 unfold fair21
                 try dsimp only
                 rewrite [if_pos g3, if_neg g6, if_neg g9, if_pos g12, if_pos g17, if_neg g29, if_neg g32, if_pos g38, if_pos g41, if_pos g44, hJ46]
                 try dsimp only
                 rewrite [if_neg g64, hJ70]
                 try dsimp only
                 rewrite [if_neg g136]
                 all_goals rfl
                rw [e139]
                exact answersR rfl ⟨trivial, trivial⟩ (rfl) rfl
        ·refine draw_perm [1, 2, 3, 4, 5, 6, 7, 0, 8, 9, 10, 11, 12, 13, 14, 15] (by decide +kernel) (draw_walk (by decide +kernel) rfl ?_)
         refine step_r rfl rfl ⟨by decide, rfl⟩ (step_r rfl rfl trivial (step_r rfl rfl trivial ?_))
         refine step_slcTo (k := ((awardD d words).2.1).toNat) (n' := (words.take (((awardD d words).2.1).toNat)).length) (cs' := encI (words.take (((awardD d words).2.1).toNat))) rfl rfl (Int.toNat_of_nonneg (by first | omega | (simp only [IntKind.wrap_i64]; omega))).symm rfl rfl (by first | omega | (simp only [IntKind.wrap_i64]; omega) | (simp; omega)) (by rw [List.length_take]; first | omega | (simp only [IntKind.wrap_i64]; omega)) (encI_upto words (((awardD d words).2.1).toNat)) rfl ?_
         refine step_appendN (m := (words.take (((awardD d words).2.1).toNat)).length) (new := encI (words.take (((awardD d words).2.1).toNat))) (cs' := encI (words.take (((awardD d words).2.1).toNat))) (n' := (words.take (((awardD d words).2.1).toNat)).length) rfl rfl (rfl) rfl rfl rfl rfl rfl rfl (encI_len (words.take (((awardD d words).2.1).toNat))) (by first | decide | (unfold maxGrow; omega) | (unfold maxGrow; simp; omega) | (unfold maxGrow; simp only [List.length_append, List.length_take, List.length_drop, List.length_cons, List.length_nil, IntKind.wrap_i64] at *; omega)) rfl rfl rfl rfl ?_
         refine step_r rfl rfl trivial ?_
         refine step_appendC (m := more.length) (new := encI more) (cs' := encI ((words.take (((awardD d words).2.1).toNat)) ++ more)) (n' := ((words.take (((awardD d words).2.1).toNat)) ++ more).length) (H' := [(1, .row _ _ _), (0, .box [_, _, _, _, _])]) rfl rfl rfl (rfl) rfl rfl rfl rfl rfl rfl (encI_len (words.take (((awardD d words).2.1).toNat))) (encI_len more) (by first | decide | (unfold maxGrow; omega) | (unfold maxGrow; simp; omega) | (unfold maxGrow; simp only [List.length_append, List.length_take, List.length_drop, List.length_cons, List.length_nil, IntKind.wrap_i64] at *; omega)) (len_append (words.take (((awardD d words).2.1).toNat)) more) (encI_append _ _) (.inr (by decide +kernel)) rfl rfl (.keep rfl (.keep rfl .nil)) (.keep rfl (.lose (v' := .undef) rfl (.keep rfl (.keep rfl (.keep rfl (.keep rfl (.keep rfl (.keep rfl (.keep rfl (.keep rfl (.keep rfl (.keep rfl (.keep rfl (.keep rfl (.keep rfl (.keep rfl (.keep rfl (.keep rfl (.keep rfl (.keep rfl (.keep rfl (.keep rfl (.keep rfl (.keep rfl (.keep rfl (.keep rfl (.keep rfl (.keep rfl (.keep rfl (.keep rfl (.keep rfl (.keep rfl (.keep rfl (.keep rfl (.keep rfl (.keep rfl (.keep rfl (.keep rfl (.keep rfl (.keep rfl (.keep rfl (.keep rfl (.keep rfl (.keep rfl (.keep rfl (.keep rfl (.keep rfl (.keep rfl (.keep rfl (.keep rfl (.keep rfl (.keep rfl (.keep rfl .nil))))))))))))))))))))))))))))))))))))))))))))))))))))) ?_
         refine step_r (v := (.agg [_, _, _, _, _])) rfl rfl (Nat.le_of_ble_eq_true rfl) ?_
         refine step_callJ (Hin := [.row _ _ _]) (out' := .tup [_, _, _]) (H' := [(1, _), (0, _)]) (nx' := 2) [1] rfl rfl rfl rfl rfl rfl rfl rfl rfl (by (repeat' apply And.intro) <;> first | trivial | rfl | exact flat_len (fun _ => rfl) _ | exact encI_len _ | exact Nat.le_of_ble_eq_true rfl | assumption) (award_ok d ((words.take (((awardD d words).2.1).toNat)) ++ more) false) rfl (by decide) rfl rfl trivial rfl rfl rfl rfl ?_
         refine step_r rfl rfl trivial (step_r rfl rfl trivial (step_r rfl rfl trivial (step_r rfl rfl trivial (step_r rfl rfl trivial (step_r rfl rfl trivial (step_r rfl rfl trivial (step_nil (seqK_n (sem_seq (sem_seq (sem_region rfl ?_)))))))))))
         refine step_r rfl rfl trivial (step_r rfl rfl trivial (step_bin rfl rfl rfl rfl rfl trivial (step_r rfl rfl trivial ?_)))
         refine step_gs rfl (fun h144 => ?_) (fun h144 => ?_)
         ·have g144 : ¬ (((awardD d ((words.take (((awardD d words).2.1).toNat)) ++ more)).1 : Int) = ((awardD d words).1)) := bne_t h144
          refine step_g0 rfl h144 rfl (step_g0 rfl h144 rfl (step_g0 rfl h144 rfl (step_pickT rfl h144 rfl rfl (step_r rfl rfl trivial (step_gf rfl rfl (step_gf rfl rfl (step_r rfl rfl trivial (step_nil (seqK_n (sem_condT rfl (sem_seq ?_)))))))))))
          refine sem_region rfl (step_r rfl rfl trivial (step_nil (seqK_n (sem_ret (seqK_r ?_)))))
          have e145 : fair21 d words more = false := by
           unfold fair21
           try dsimp only
           rewrite [if_pos g3, if_neg g6, if_neg g9, if_pos g12, if_pos g17, if_neg g29, if_neg g32, if_neg g144]
           all_goals rfl
          rw [e145]
          exact answersR rfl ⟨trivial, trivial⟩ (rfl) rfl
         ·have g144 : ((awardD d ((words.take (((awardD d words).2.1).toNat)) ++ more)).1 : Int) = ((awardD d words).1) := bne_f h144
          refine step_g1 rfl h144 (step_r rfl rfl trivial (step_g1 rfl h144 (step_r rfl rfl trivial (step_g1 rfl h144 (step_bin rfl rfl rfl rfl rfl trivial (step_pickF rfl h144 rfl rfl (step_r rfl rfl trivial ?_)))))))
          refine step_gs rfl (fun h147 => ?_) (fun h147 => ?_)
          ·have g147 : ¬ (((awardD d ((words.take (((awardD d words).2.1).toNat)) ++ more)).2.1 : Int) = ((awardD d words).2.1)) := bne_t h147
           refine step_g0 rfl h147 rfl (step_g0 rfl h147 rfl (step_pickT rfl h147 rfl rfl (step_nil (seqK_n (sem_condT rfl (sem_seq (sem_region rfl (step_r rfl rfl trivial (step_nil (seqK_n (sem_ret ?_)))))))))))
           refine seqK_r ?_
           have e148 : fair21 d words more = false := by
            unfold fair21
            try dsimp only
            rewrite [if_pos g3, if_neg g6, if_neg g9, if_pos g12, if_pos g17, if_neg g29, if_neg g32, if_pos g144, if_neg g147]
            all_goals rfl
           rw [e148]
           exact answersR rfl ⟨trivial, trivial⟩ (rfl) rfl
          ·have g147 : ((awardD d ((words.take (((awardD d words).2.1).toNat)) ++ more)).2.1 : Int) = ((awardD d words).2.1) := bne_f h147
           refine step_g1 rfl h147 (step_r rfl rfl trivial (step_g1 rfl h147 (step_r rfl rfl trivial (step_pickF rfl h147 rfl rfl (step_nil (seqK_n ?_))))))
           refine sem_cond rfl (fun h150 => ?_) (fun h150 => ?_)
           ·have g150 : ¬ ((awardD d ((words.take (((awardD d words).2.1).toNat)) ++ more)).2.2 = true) := boo_f (not_t h150)
            refine sem_seq (sem_region rfl (step_r rfl rfl trivial (step_nil (seqK_n (sem_ret (seqK_r ?_))))))
            have e151 : fair21 d words more = false := by
             unfold fair21
             try dsimp only
             rewrite [if_pos g3, if_neg g6, if_neg g9, if_pos g12, if_pos g17, if_neg g29, if_neg g32, if_pos g144, if_pos g147, if_neg g150]
             all_goals rfl
            rw [e151]
            exact answersR rfl ⟨trivial, trivial⟩ (rfl) rfl
           ·have g150 : (awardD d ((words.take (((awardD d words).2.1).toNat)) ++ more)).2.2 = true := (not_f h150)
            refine sem_skip (seqK_n (sem_seq (sem_region rfl (step_r rfl rfl trivial (step_nil (seqK_n (sem_seq (sem_region rfl (step_r rfl rfl trivial (step_nil (seqK_n ?_)))))))))))
            refine sem_seq (sem_seq (sem_region rfl (step_r rfl rfl trivial (step_nil (seqK_n ?_)))))
            refine sem_cutW (fun w_ : Int × Int => match w_ with | (mine_0, most_0) => (⟨[(1, .pv (.slc words.length words_f (encI words))), (3, .ptr 0 0), (7, B true), (9, I (awardD d words).1), (10, I (awardD d words).2.1), (14, I mine_0), (15, I most_0)], [(0, .box [I d.Id, I d.Item, I d.Until, .pv (.slc d.Units.length false (encI d.Units)), .pv (.slc d.Choices.length false (encI d.Choices))])], 1, [], 231, 0⟩ : St)) (fun w_ => fair21_L0 d words d.Units 0 0 0 = w_) ?_ ?_
            ·refine sem_block ?_
             refine sem_loopT (fun w_ : Nat × Int × Int => match w_ with | (k0, mine0, most0) => (⟨[(1, .pv (.slc words.length words_f (encI words))), (3, .ptr 0 0), (7, B true), (9, I (awardD d words).1), (10, I (awardD d words).2.1), (14, I mine0), (15, I most0), (16, I k0)], [(0, .box [I d.Id, I d.Item, I d.Until, .pv (.slc d.Units.length false (encI d.Units)), .pv (.slc d.Choices.length false (encI d.Choices))])], 1, [], 231, 0⟩ : St)) (fun w_ : Nat × Int × Int => match w_ with | (k0, mine0, most0) => fair21_L0 d words (d.Units.drop k0) k0 mine0 most0 = fair21_L0 d words d.Units 0 0 0 ∧ k0 ≤ d.Units.length) (fun w_ : Nat × Int × Int => match w_ with | (k0, mine0, most0) => d.Units.length - k0) (0, 0, 0) (⟨rfl, Nat.zero_le _⟩) ?_ (fun w_ hh_ => ?_)
             ·exact (Trans.ren [] (by decide +kernel) (by decide +kernel) rfl ⟨⟨rfl, rfl⟩, ⟨rfl, rfl⟩, ⟨rfl, rfl⟩, ⟨rfl, rfl⟩, ⟨rfl, rfl⟩, ⟨rfl, rfl⟩, ⟨rfl, rfl⟩, ⟨rfl, rfl⟩, trivial⟩ ⟨⟨rfl, rfl, rfl⟩, trivial⟩ (by decide))
             obtain ⟨k0, mine0, most0⟩ := w_
             obtain ⟨hI0, hb0⟩ := hh_
             show Walks Try.prog _ _ (⟨[(1, .pv (.slc words.length words_f (encI words))), (3, .ptr 0 0), (7, B true), (9, I (awardD d words).1), (10, I (awardD d words).2.1), (14, I mine0), (15, I most0), (16, I k0)], [(0, .box [I d.Id, I d.Item, I d.Until, .pv (.slc d.Units.length false (encI d.Units)), .pv (.slc d.Choices.length false (encI d.Choices))])], 1, [], 231, 0⟩ : St)
             refine sem_seq (sem_seq (sem_region rfl (step_r rfl rfl trivial (step_r rfl rfl (by decide) (step_r rfl rfl trivial (step_r rfl rfl trivial (step_bin rfl rfl rfl rfl rfl trivial (step_nil (seqK_n ?_)))))))))
             refine sem_cond rfl (fun h154 => ?_) (fun h154 => ?_)
             ·have g154 : (k0 : Int) < d.Units.length := of_decide_eq_true h154
              have hk0 : k0 < d.Units.length := by omega
              obtain ⟨x0, hx0⟩ : ∃ z_, d.Units[k0]? = some z_ := ⟨_, List.getElem?_eq_getElem hk0⟩
              refine sem_skip (seqK_n (sem_seq (sem_block (sem_seq ?_))))
              refine sem_cutW (fun mine_108 : Int => (⟨[(1, .pv (.slc words.length words_f (encI words))), (3, .ptr 0 0), (7, B true), (9, I (awardD d words).1), (10, I (awardD d words).2.1), (14, I mine_108), (15, I most0), (16, I k0)], [(0, .box [I d.Id, I d.Item, I d.Until, .pv (.slc d.Units.length false (encI d.Units)), .pv (.slc d.Choices.length false (encI d.Choices))])], 1, [], 231, 0⟩ : St)) (fun w_ => fair21_J108 d words mine0 k0 x0 = w_) ?_ ?_
              ·refine sem_seq (sem_region rfl (step_r rfl rfl (by decide) (step_r rfl rfl trivial (step_r rfl rfl trivial (step_idxS (k := k0) rfl rfl rfl rfl hk0 (encI_ne hk0) rfl (step_load_one rfl rfl rfl (encI_get hx0) rfl (step_r rfl rfl trivial (step_bin rfl rfl rfl rfl rfl trivial (step_nil (seqK_n ?_))))))))))
               refine sem_cond rfl (fun h157 => ?_) (fun h157 => ?_)
               ·have g157 : (x0 : Int) = ((awardD d words).1) := beq_t h157
                refine sem_region rfl (step_r rfl rfl (by decide) (step_r rfl rfl trivial (step_r rfl rfl trivial ?_)))
                have jk158 : k0 < d.Choices.length := by first | assumption | omega | (simp only [List.length_set, List.length_append]; omega) | (simp only [IntKind.wrap_i64] at *; omega) | (simp; omega) | simp_all
                refine step_idxS (k := k0) rfl rfl rfl rfl jk158 (encI_ne jk158) rfl (step_load_one rfl rfl rfl (encI_get (get_getD jk158)) rfl (step_r rfl rfl trivial (step_nil ?_)))
                have e160 : fair21_J108 d words mine0 k0 x0 = (d.Choices.getD k0 default) := by
                 unfold fair21_J108
                 try dsimp only
                 rewrite [if_pos g157]
                 all_goals rfl
                exact cutW_n (d.Choices.getD k0 default) e160 (Trans.ren [] (by decide +kernel) (by decide +kernel) rfl ⟨⟨rfl, rfl⟩, ⟨rfl, rfl⟩, ⟨rfl, rfl⟩, ⟨rfl, rfl⟩, ⟨rfl, rfl⟩, ⟨rfl, rfl⟩, ⟨rfl, rfl⟩, ⟨rfl, rfl⟩, trivial⟩ ⟨⟨rfl, rfl, rfl⟩, trivial⟩ (by decide))
               ·have g157 : ¬ ((x0 : Int) = ((awardD d words).1)) := beq_f h157
                refine sem_skip ?_
                have e161 : fair21_J108 d words mine0 k0 x0 = mine0 := by
                 unfold fair21_J108
                 try dsimp only
                 rewrite [if_neg g157]
                 all_goals rfl
                exact cutW_n mine0 e161 (Trans.ren [] (by decide +kernel) (by decide +kernel) rfl ⟨⟨rfl, rfl⟩, ⟨rfl, rfl⟩, ⟨rfl, rfl⟩, ⟨rfl, rfl⟩, ⟨rfl, rfl⟩, ⟨rfl, rfl⟩, ⟨rfl, rfl⟩, ⟨rfl, rfl⟩, trivial⟩ ⟨⟨rfl, rfl, rfl⟩, trivial⟩ (by decide))
              ·rintro mine_108 (hJ155 : fair21_J108 d words mine0 k0 x0 = mine_108)
               show seqK _ _ _ .normal (⟨[(1, .pv (.slc words.length words_f (encI words))), (3, .ptr 0 0), (7, B true), (9, I (awardD d words).1), (10, I (awardD d words).2.1), (14, I mine_108), (15, I most0), (16, I k0)], [(0, .box [I d.Id, I d.Item, I d.Until, .pv (.slc d.Units.length false (encI d.Units)), .pv (.slc d.Choices.length false (encI d.Choices))])], 1, [], 231, 0⟩ : St)
               refine seqK_n (sem_region rfl (step_r rfl rfl trivial (step_r rfl rfl (by decide) (step_r rfl rfl trivial (step_r rfl rfl trivial ?_)))))
               have jk164 : k0 < d.Choices.length := by first | assumption | omega | (simp only [List.length_set, List.length_append]; omega) | (simp only [IntKind.wrap_i64] at *; omega) | (simp; omega) | simp_all
               refine step_idxS (k := k0) rfl rfl rfl rfl jk164 (encI_ne jk164) rfl (step_load_one rfl rfl rfl (encI_get (get_getD jk164)) rfl ?_)
               refine step_max rfl rfl rfl ?_
               refine step_r rfl rfl trivial (step_nil (blkK_n (seqK_n (sem_region rfl (step_r rfl rfl trivial (step_bin rfl rfl rfl rfl rfl trivial (step_r rfl rfl trivial (step_nil ?_))))))))
               have e167 : fair21_L0 d words (d.Units.drop k0) k0 mine0 most0 = fair21_L0 d words (d.Units.drop (k0 + 1)) (k0 + 1) mine_108 (max most0 (d.Choices.getD k0 default)) := by
                rewrite [drop_cons hx0]
                rewrite [fair21_L0]
                try dsimp only
                rewrite [hJ155]
                try dsimp only
                all_goals rfl
               exact lup_againT (k0 + 1, mine_108, (max most0 (d.Choices.getD k0 default))) ⟨e167.symm.trans hI0, hk0⟩ (by show d.Units.length - (k0 + 1) < d.Units.length - k0; omega) (Trans.ren [] (by decide +kernel) (by decide +kernel) rfl ⟨⟨rfl, rfl⟩, ⟨rfl, rfl⟩, ⟨rfl, rfl⟩, ⟨rfl, rfl⟩, ⟨rfl, rfl⟩, ⟨rfl, rfl⟩, ⟨rfl, rfl⟩, ⟨congrArg (fun n => some (I n)) (wrapI (k := k0) (by first | omega | (simp; omega))), rfl⟩, trivial⟩ ⟨⟨rfl, rfl, rfl⟩, trivial⟩ (by decide))
             ·have g154 : ¬ ((k0 : Int) < d.Units.length) := of_decide_eq_false h154
              have hk0 : k0 = d.Units.length := by omega
              refine sem_exit (seqK_e (lupK_e (blkK_t rfl ?_)))
              have e168 : fair21_L0 d words d.Units 0 0 0 = (mine0, most0) := by
               rewrite [← hI0, hk0, List.drop_length]
               rewrite [fair21_L0]
               try dsimp only
               all_goals rfl
              exact cutW_n (mine0, most0) e168 (Trans.ren [] (by decide +kernel) (by decide +kernel) rfl ⟨⟨rfl, rfl⟩, ⟨rfl, rfl⟩, ⟨rfl, rfl⟩, ⟨rfl, rfl⟩, ⟨rfl, rfl⟩, ⟨rfl, rfl⟩, ⟨rfl, rfl⟩, trivial⟩ ⟨⟨rfl, rfl, rfl⟩, trivial⟩ (by decide))
            ·rintro ⟨mine_0, most_0⟩ (hJ152 : fair21_L0 d words d.Units 0 0 0 = (mine_0, most_0))
             show seqK _ _ _ .normal (⟨[(1, .pv (.slc words.length words_f (encI words))), (3, .ptr 0 0), (7, B true), (9, I (awardD d words).1), (10, I (awardD d words).2.1), (14, I mine_0), (15, I most_0)], [(0, .box [I d.Id, I d.Item, I d.Until, .pv (.slc d.Units.length false (encI d.Units)), .pv (.slc d.Choices.length false (encI d.Choices))])], 1, [], 231, 0⟩ : St)
             refine seqK_n (sem_seq (sem_seq (sem_region rfl (step_r rfl rfl trivial (step_bin rfl rfl rfl rfl rfl trivial (step_nil (seqK_n ?_)))))))
             refine sem_cond rfl (fun h170 => ?_) (fun h170 => ?_)
             ·have g170 : ((awardD d words).1 : Int) = 0 := beq_t h170
              refine sem_seq (sem_region rfl (step_r rfl rfl trivial (step_r rfl rfl trivial (step_gt rfl (step_r rfl rfl trivial (step_gt rfl (step_bin rfl rfl rfl rfl rfl trivial (step_r rfl rfl trivial (step_r rfl rfl trivial (step_nil (seqK_n ?_)))))))))))
              refine sem_ret (seqK_r ?_)
              have e173 : fair21 d words more = (decide ((most_0 : Int) < 2)) := by
               unfold fair21
               try dsimp only
               rewrite [if_pos g3, if_neg g6, if_neg g9, if_pos g12, if_pos g17, if_neg g29, if_neg g32, if_pos g144, if_pos g147, if_pos g150, hJ152]
               try dsimp only
               rewrite [if_pos g170]
               all_goals rfl
              rw [e173]
              exact answersR rfl ⟨trivial, trivial⟩ (rfl) rfl
             ·have g170 : ¬ (((awardD d words).1 : Int) = 0) := beq_f h170
              refine sem_skip (seqK_n (sem_seq (sem_region rfl (step_r (v := (.agg [_, _, _, _, _])) rfl rfl (Nat.le_of_ble_eq_true rfl) ?_))))
              refine step_callN (out' := .ref 1 _ _ _) (H' := [(1, .row _ _ _), (0, _)]) (nx' := 2) rfl rfl rfl rfl rfl rfl rfl (by (repeat' apply And.intro) <;> first | trivial | rfl | exact flat_len (fun _ => rfl) _ | exact encI_len _ | exact Nat.le_of_ble_eq_true rfl | assumption) (best_ok d) rfl rfl rfl rfl ?_
              refine step_r rfl rfl trivial (step_nil (seqK_n (sem_seq (sem_region rfl (step_r rfl rfl trivial (step_r rfl rfl trivial (step_r rfl rfl trivial ?_)))))))
              refine step_callN (out' := .tup [.ref 2 _ _ _, _, _]) (H' := [(2, .row _ _ _), (1, _), (0, _)]) (nx' := 3) rfl rfl rfl rfl rfl rfl rfl (by (repeat' apply And.intro) <;> first | trivial | rfl | exact flat_len (fun _ => rfl) _ | exact encI_len _ | exact Nat.le_of_ble_eq_true rfl | assumption) (roll_ok words false ((bestD d).length)) rfl rfl rfl rfl ?_
              refine step_r rfl rfl trivial (step_r rfl rfl trivial (step_r rfl rfl trivial (step_r rfl rfl trivial (step_r rfl rfl trivial (step_r rfl rfl trivial (step_r rfl rfl trivial (step_nil (seqK_n (sem_seq (sem_seq (sem_region rfl ?_)))))))))))
              refine step_r rfl rfl trivial (step_nil (seqK_n ?_))
              refine sem_cutW (fun w_ : Unit => match w_ with | () => (⟨[(7, B true), (14, I mine_0), (15, I most_0)], [], 0, [], 231, 0⟩ : St)) (fun w_ => fair21_L1 d words (200) 0 = .inr w_) ?_ ?_
              ·refine sem_block ?_
               refine sem_loopT (fun w_ : Nat × Int => match w_ with | (f1, i1) => (⟨[(7, B true), (9, I (awardD d words).1), (10, I (awardD d words).2.1), (14, I mine_0), (15, I most_0), (17, .ref 0 1 0 (bestD d).length), (18, .ref 1 1 0 (rollM words ((bestD d).length)).1.length), (19, I (rollM words ((bestD d).length)).2.1), (20, B (rollM words ((bestD d).length)).2.2), (21, I i1)], [(0, .row 3 1 (encI (bestD d))), (1, .row 3 1 (encI (rollM words ((bestD d).length)).1))], 2, [], 231, 0⟩ : St)) (fun w_ : Nat × Int => match w_ with | (f1, i1) => fair21_L1 d words f1 i1 = fair21_L1 d words (200) 0 ∧ ((bestD d).length - i1).toNat < f1 ∧ 0 ≤ i1) (fun w_ : Nat × Int => match w_ with | (f1, i1) => f1) (200, 0) (⟨rfl, (by first | omega | (simp; omega)), by first | omega | simp | (simp; omega)⟩) ?_ (fun w_ hh_ => ?_)
               ·exact (Trans.ren [(0, 1), (1, 2), (2, 0)] (by decide +kernel) (by decide +kernel) rfl ⟨⟨rfl, rfl⟩, ⟨rfl, rfl⟩, ⟨rfl, rfl⟩, ⟨rfl, rfl⟩, ⟨rfl, rfl⟩, ⟨rfl, rfl⟩, ⟨rfl, rfl⟩, ⟨rfl, rfl⟩, ⟨rfl, rfl⟩, ⟨rfl, rfl⟩, trivial⟩ ⟨⟨rfl, rfl, rfl⟩, ⟨rfl, rfl, rfl⟩, trivial⟩ (by decide))
               obtain ⟨f1, i1⟩ := w_
               obtain ⟨hI1, hb1, hv1⟩ := hh_
               obtain ⟨f1, rfl⟩ : ∃ z_, f1 = z_ + 1 := ⟨f1 - 1, by omega⟩
               show Walks Try.prog _ _ (⟨[(7, B true), (9, I (awardD d words).1), (10, I (awardD d words).2.1), (14, I mine_0), (15, I most_0), (17, .ref 0 1 0 (bestD d).length), (18, .ref 1 1 0 (rollM words ((bestD d).length)).1.length), (19, I (rollM words ((bestD d).length)).2.1), (20, B (rollM words ((bestD d).length)).2.2), (21, I i1)], [(0, .row 3 1 (encI (bestD d))), (1, .row 3 1 (encI (rollM words ((bestD d).length)).1))], 2, [], 231, 0⟩ : St)
               refine sem_seq (sem_seq (sem_region rfl (step_r rfl rfl trivial (step_r rfl rfl trivial (step_r rfl rfl trivial (step_bin rfl rfl rfl rfl rfl trivial (step_r rfl rfl trivial ?_)))))))
               refine step_gs rfl (fun h179 => ?_) (fun h179 => ?_)
               ·have g179 : (i1 : Int) < ((bestD d).length) := of_decide_eq_true h179
                refine step_g1 rfl h179 (step_r rfl rfl trivial (step_g1 rfl h179 (step_r rfl rfl trivial (step_g1 rfl h179 (step_bin rfl rfl rfl rfl rfl trivial (step_pickT rfl h179 rfl rfl (step_nil (seqK_n ?_))))))))
                refine sem_cond rfl (fun h181 => ?_) (fun h181 => ?_)
                ·have g181 : ((bestD d).length : Int) > 1 := of_decide_eq_true h181
                 refine sem_skip (seqK_n (sem_seq (sem_block (sem_seq (sem_seq (sem_region rfl (step_r rfl rfl trivial (step_r rfl rfl trivial (step_r rfl rfl trivial ?_)))))))))
                 refine step_gs rfl (fun h184 => ?_) (fun h184 => ?_)
                 ·have g184 : ¬ ((rollM words ((bestD d).length)).2.2 = true) := boo_f (not_t h184)
                  refine step_g0 rfl h184 rfl (step_g0 rfl h184 rfl (step_g0 rfl h184 rfl (step_pickT rfl h184 rfl rfl (step_r rfl rfl trivial (step_gf rfl rfl (step_gf rfl rfl (step_gf rfl rfl (step_gf rfl rfl (step_r rfl rfl trivial (step_r rfl rfl trivial (step_gf rfl rfl ?_)))))))))))
                  refine step_gf rfl rfl (step_gf rfl rfl (step_gf rfl rfl (step_gf rfl rfl (step_r rfl rfl trivial (step_r rfl rfl trivial (step_gf rfl rfl (step_gf rfl rfl (step_gf rfl rfl (step_gf rfl rfl (step_gf rfl rfl (step_r rfl rfl trivial ?_)))))))))))
                  refine step_nil (seqK_n (sem_condT rfl (sem_seq (sem_region rfl (step_r rfl rfl trivial (step_nil (seqK_n (sem_ret (seqK_r (blkK_r (seqK_r ?_)))))))))))
                  refine lupK_r (blkK_r (cutW_r (seqK_r ?_)))
                  have e185 : fair21_L1 d words (200) 0 = .inl false := by
                   rewrite [← hI1]
                   rewrite [fair21_L1]
                   try dsimp only
                   rewrite [if_pos g179, if_pos g181, if_neg g184]
                   all_goals rfl
                  have e186 : fair21 d words more = false := by
                   unfold fair21
                   try dsimp only
                   rewrite [if_pos g3, if_neg g6, if_neg g9, if_pos g12, if_pos g17, if_neg g29, if_neg g32, if_pos g144, if_pos g147, if_pos g150, hJ152]
                   try dsimp only
                   rewrite [if_neg g170, e185]
                   try dsimp only
                   all_goals rfl
                  rw [e186]
                  exact answersR rfl ⟨trivial, trivial⟩ (rfl) rfl
                 ·have g184 : (rollM words ((bestD d).length)).2.2 = true := (not_f h184)
                  refine step_g1 rfl h184 (step_r rfl rfl trivial (step_g1 rfl h184 (step_r rfl rfl trivial (step_g1 rfl h184 (step_bin rfl rfl rfl rfl rfl trivial (step_pickF rfl h184 rfl rfl (step_r rfl rfl trivial ?_)))))))
                  refine step_gs rfl (fun h190 => ?_) (fun h190 => ?_)
                  ·have g190 : ¬ (((rollM words ((bestD d).length)).2.1 : Int) = ((awardD d words).2.1)) := bne_t h190
                   refine step_g0 rfl h190 rfl (step_g0 rfl h190 rfl (step_g0 rfl h190 rfl (step_g0 rfl h190 rfl (step_pickT rfl h190 rfl rfl (step_r rfl rfl trivial (step_gf rfl rfl (step_gf rfl rfl (step_gf rfl rfl (step_gf rfl rfl (step_gf rfl rfl (step_r rfl rfl trivial ?_)))))))))))
                   refine step_r rfl rfl trivial (step_gf rfl rfl (step_gf rfl rfl (step_gf rfl rfl (step_gf rfl rfl (step_gf rfl rfl (step_r rfl rfl trivial (step_nil (seqK_n (sem_condT rfl (sem_seq (sem_region rfl ?_)))))))))))
                   refine step_r rfl rfl trivial (step_nil (seqK_n (sem_ret (seqK_r (blkK_r (seqK_r (lupK_r (blkK_r (cutW_r (seqK_r ?_))))))))))
                   have e191 : fair21_L1 d words (200) 0 = .inl false := by
                    rewrite [← hI1]
                    rewrite [fair21_L1]
                    try dsimp only
                    rewrite [if_pos g179, if_pos g181, if_pos g184, if_neg g190]
                    all_goals rfl
                   have e192 : fair21 d words more = false := by
                    unfold fair21
                    try dsimp only
                    rewrite [if_pos g3, if_neg g6, if_neg g9, if_pos g12, if_pos g17, if_neg g29, if_neg g32, if_pos g144, if_pos g147, if_pos g150, hJ152]
                    try dsimp only
                    rewrite [if_neg g170, e191]
                    try dsimp only
                    all_goals rfl
                   rw [e192]
                   exact answersR rfl ⟨trivial, trivial⟩ (rfl) rfl
                  ·have g190 : ((rollM words ((bestD d).length)).2.1 : Int) = ((awardD d words).2.1) := bne_f h190
                   refine step_g1 rfl h190 (step_r rfl rfl trivial (step_g1 rfl h190 (step_r rfl rfl trivial (step_g1 rfl h190 (step_r rfl rfl trivial (step_g1 rfl h190 (step_bin rfl rfl rfl rfl rfl trivial (step_pickF rfl h190 rfl rfl (step_r rfl rfl trivial ?_)))))))))
                   refine step_gs rfl (fun h194 => ?_) (fun h194 => ?_)
                   ·have g194 : (i1 : Int) ≥ ((rollM words ((bestD d).length)).1.length) := of_decide_eq_true h194
                    refine step_g0 rfl h194 rfl (step_g0 rfl h194 rfl (step_g0 rfl h194 rfl (step_g0 rfl h194 rfl (step_g0 rfl h194 rfl (step_pickT rfl h194 rfl rfl (step_r rfl rfl trivial (step_gf rfl rfl (step_gf rfl rfl (step_gf rfl rfl (step_gf rfl rfl (step_gf rfl rfl ?_)))))))))))
                    refine step_r rfl rfl trivial (step_nil (seqK_n (sem_condT rfl (sem_seq (sem_region rfl (step_r rfl rfl trivial (step_nil (seqK_n (sem_ret (seqK_r (blkK_r ?_)))))))))))
                    refine seqK_r (lupK_r (blkK_r (cutW_r (seqK_r ?_))))
                    have e195 : fair21_L1 d words (200) 0 = .inl false := by
                     rewrite [← hI1]
                     rewrite [fair21_L1]
                     try dsimp only
                     rewrite [if_pos g179, if_pos g181, if_pos g184, if_pos g190, if_pos g194]
                     all_goals rfl
                    have e196 : fair21 d words more = false := by
                     unfold fair21
                     try dsimp only
                     rewrite [if_pos g3, if_neg g6, if_neg g9, if_pos g12, if_pos g17, if_neg g29, if_neg g32, if_pos g144, if_pos g147, if_pos g150, hJ152]
                     try dsimp only
                     rewrite [if_neg g170, e195]
                     try dsimp only
                     all_goals rfl
                    rw [e196]
                    exact answersR rfl ⟨trivial, trivial⟩ (rfl) rfl
                   ·have g194 : ¬ ((i1 : Int) ≥ ((rollM words ((bestD d).length)).1.length)) := of_decide_eq_false h194
                    refine step_g1 rfl h194 (step_r rfl rfl trivial (step_g1 rfl h194 (step_r rfl rfl trivial (step_g1 rfl h194 ?_))))
                    have jk197 : i1.toNat < ((rollM words ((bestD d).length)).1).length := by first | assumption | omega | (simp only [List.length_set, List.length_append]; omega) | (simp only [IntKind.wrap_i64] at *; omega) | (simp; omega) | simp_all
                    refine step_idxR' (k := i1.toNat) rfl rfl (Int.toNat_of_nonneg (by first | omega | (simp only [IntKind.wrap_i64]; omega) | (simp only [IntKind.wrap_i64] at *; omega) | (simp; omega))).symm rfl rfl jk197 rfl ?_
                    refine step_g1 rfl h194 ?_
                    refine step_load_oneR rfl rfl rfl rfl (encI_get (get_getD jk197)) rfl ?_
                    refine step_g1 rfl h194 (step_bin rfl rfl rfl rfl rfl trivial (step_pickF rfl h194 rfl rfl (step_r rfl rfl trivial ?_)))
                    refine step_gs rfl (fun h199 => ?_) (fun h199 => ?_)
                    ·have g199 : (((rollM words ((bestD d).length)).1).getD i1.toNat default : Int) < 1 := of_decide_eq_true h199
                     refine step_g0 rfl h199 rfl (step_g0 rfl h199 rfl (step_g0 rfl h199 rfl (step_g0 rfl h199 rfl (step_g0 rfl h199 rfl (step_pickT rfl h199 rfl rfl (step_nil (seqK_n (sem_condT rfl (sem_seq (sem_region rfl (step_r rfl rfl trivial ?_)))))))))))
                     refine step_nil (seqK_n (sem_ret (seqK_r (blkK_r (seqK_r (lupK_r (blkK_r (cutW_r (seqK_r ?_)))))))))
                     have e200 : fair21_L1 d words (200) 0 = .inl false := by
                      rewrite [← hI1]
                      rewrite [fair21_L1]
                      try dsimp only
                      rewrite [if_pos g179, if_pos g181, if_pos g184, if_pos g190, if_neg g194, if_pos g199]
                      all_goals rfl
                     have e201 : fair21 d words more = false := by
                      unfold fair21
                      try dsimp only
                      rewrite [if_pos g3, if_neg g6, if_neg g9, if_pos g12, if_pos g17, if_neg g29, if_neg g32, if_pos g144, if_pos g147, if_pos g150, hJ152]
                      try dsimp only
                      rewrite [if_neg g170, e200]
                      try dsimp only
                      all_goals rfl
                     rw [e201]
                     exact answersR rfl ⟨trivial, trivial⟩ (rfl) rfl
                    ·have g199 : ¬ ((((rollM words ((bestD d).length)).1).getD i1.toNat default : Int) < 1) := of_decide_eq_false h199
                     refine step_g1 rfl h199 (step_r rfl rfl trivial (step_g1 rfl h199 (step_r rfl rfl trivial (step_g1 rfl h199 ?_))))
                     refine step_idxR' (k := i1.toNat) rfl rfl (Int.toNat_of_nonneg (by first | omega | (simp only [IntKind.wrap_i64]; omega) | (simp only [IntKind.wrap_i64] at *; omega) | (simp; omega))).symm rfl rfl jk197 rfl ?_
                     refine step_g1 rfl h199 ?_
                     refine step_load_oneR rfl rfl rfl rfl (encI_get (get_getD jk197)) rfl ?_
                     refine step_g1 rfl h199 (step_bin rfl rfl rfl rfl rfl trivial (step_pickF rfl h199 rfl rfl (step_nil (seqK_n ?_))))
                     refine sem_cond rfl (fun h203 => ?_) (fun h203 => ?_)
                     ·have g203 : (((rollM words ((bestD d).length)).1).getD i1.toNat default : Int) > 100 := of_decide_eq_true h203
                      refine sem_seq (sem_region rfl (step_r rfl rfl trivial (step_nil (seqK_n (sem_ret (seqK_r (blkK_r (seqK_r (lupK_r (blkK_r (cutW_r ?_)))))))))))
                      refine seqK_r ?_
                      have e204 : fair21_L1 d words (200) 0 = .inl false := by
                       rewrite [← hI1]
                       rewrite [fair21_L1]
                       try dsimp only
                       rewrite [if_pos g179, if_pos g181, if_pos g184, if_pos g190, if_neg g194, if_neg g199, if_pos g203]
                       all_goals rfl
                      have e205 : fair21 d words more = false := by
                       unfold fair21
                       try dsimp only
                       rewrite [if_pos g3, if_neg g6, if_neg g9, if_pos g12, if_pos g17, if_neg g29, if_neg g32, if_pos g144, if_pos g147, if_pos g150, hJ152]
                       try dsimp only
                       rewrite [if_neg g170, e204]
                       try dsimp only
                       all_goals rfl
                      rw [e205]
                      exact answersR rfl ⟨trivial, trivial⟩ (rfl) rfl
                     ·have g203 : ¬ ((((rollM words ((bestD d).length)).1).getD i1.toNat default : Int) > 100) := of_decide_eq_false h203
                      refine sem_skip (seqK_n (sem_seq (sem_region rfl (step_r rfl rfl trivial (step_nil (seqK_n ?_))))))
                      refine sem_cutW (fun w_ : Unit => match w_ with | () => (⟨[(7, B true), (9, I (awardD d words).1), (10, I (awardD d words).2.1), (14, I mine_0), (15, I most_0), (17, .ref 0 1 0 (bestD d).length), (18, .ref 1 1 0 (rollM words ((bestD d).length)).1.length), (19, I (rollM words ((bestD d).length)).2.1), (20, B (rollM words ((bestD d).length)).2.2), (21, I i1)], [(0, .row 3 1 (encI (bestD d))), (1, .row 3 1 (encI (rollM words ((bestD d).length)).1))], 2, [], 231, 0⟩ : St)) (fun w_ => fair21_L2 d words i1 (200) 0 = .inr w_) ?_ ?_
                      ·refine sem_block ?_
                       refine sem_loopT (fun w_ : Nat × Int => match w_ with | (f2, j2) => (⟨[(7, B true), (9, I (awardD d words).1), (10, I (awardD d words).2.1), (14, I mine_0), (15, I most_0), (17, .ref 0 1 0 (bestD d).length), (18, .ref 1 1 0 (rollM words ((bestD d).length)).1.length), (19, I (rollM words ((bestD d).length)).2.1), (20, B (rollM words ((bestD d).length)).2.2), (21, I i1), (22, I j2)], [(0, .row 3 1 (encI (bestD d))), (1, .row 3 1 (encI (rollM words ((bestD d).length)).1))], 2, [], 231, 0⟩ : St)) (fun w_ : Nat × Int => match w_ with | (f2, j2) => fair21_L2 d words i1 f2 j2 = fair21_L2 d words i1 (200) 0 ∧ ((rollM words (bestD d).length).1.length - j2).toNat < f2 ∧ 0 ≤ j2) (fun w_ : Nat × Int => match w_ with | (f2, j2) => f2) (200, 0) (⟨rfl, (by have := @rollM_le words (bestD d).length; omega), by first | omega | simp | (simp; omega)⟩) ?_ (fun w_ hh_ => ?_)
                       ·exact (Trans.ren [] (by decide +kernel) (by decide +kernel) rfl ⟨⟨rfl, rfl⟩, ⟨rfl, rfl⟩, ⟨rfl, rfl⟩, ⟨rfl, rfl⟩, ⟨rfl, rfl⟩, ⟨rfl, rfl⟩, ⟨rfl, rfl⟩, ⟨rfl, rfl⟩, ⟨rfl, rfl⟩, ⟨rfl, rfl⟩, ⟨rfl, rfl⟩, trivial⟩ ⟨⟨rfl, rfl, rfl⟩, ⟨rfl, rfl, rfl⟩, trivial⟩ (by decide))
                       obtain ⟨f2, j2⟩ := w_
                       obtain ⟨hI2, hb2, hv2⟩ := hh_
                       obtain ⟨f2, rfl⟩ : ∃ z_, f2 = z_ + 1 := ⟨f2 - 1, by omega⟩
                       show Walks Try.prog _ _ (⟨[(7, B true), (9, I (awardD d words).1), (10, I (awardD d words).2.1), (14, I mine_0), (15, I most_0), (17, .ref 0 1 0 (bestD d).length), (18, .ref 1 1 0 (rollM words ((bestD d).length)).1.length), (19, I (rollM words ((bestD d).length)).2.1), (20, B (rollM words ((bestD d).length)).2.2), (21, I i1), (22, I j2)], [(0, .row 3 1 (encI (bestD d))), (1, .row 3 1 (encI (rollM words ((bestD d).length)).1))], 2, [], 231, 0⟩ : St)
                       refine sem_seq (sem_seq (sem_region rfl (step_r rfl rfl trivial (step_r rfl rfl trivial (step_r rfl rfl trivial (step_bin rfl rfl rfl rfl rfl trivial (step_r rfl rfl trivial ?_)))))))
                       refine step_gs rfl (fun h209 => ?_) (fun h209 => ?_)
                       ·have g209 : (j2 : Int) < ((rollM words ((bestD d).length)).1.length) := of_decide_eq_true h209
                        refine step_g1 rfl h209 (step_r rfl rfl trivial (step_g1 rfl h209 (step_r rfl rfl trivial (step_g1 rfl h209 ?_))))
                        have jk211 : i1.toNat < (bestD d).length := by first | assumption | omega | (simp only [List.length_set, List.length_append]; omega) | (simp only [IntKind.wrap_i64] at *; omega) | (simp; omega) | simp_all
                        refine step_idxR' (k := i1.toNat) rfl rfl (Int.toNat_of_nonneg (by first | omega | (simp only [IntKind.wrap_i64]; omega) | (simp only [IntKind.wrap_i64] at *; omega) | (simp; omega))).symm rfl rfl jk211 rfl ?_
                        refine step_g1 rfl h209 ?_
                        refine step_load_oneR rfl rfl rfl rfl (encI_get (get_getD jk211)) rfl ?_
                        refine step_g1 rfl h209 (step_r rfl rfl trivial (step_g1 rfl h209 (step_bin rfl rfl rfl rfl rfl trivial (step_pickT rfl h209 rfl rfl (step_nil (seqK_n ?_))))))
                        refine sem_cond rfl (fun h214 => ?_) (fun h214 => ?_)
                        ·have g214 : ((bestD d).getD i1.toNat default : Int) = ((awardD d words).1) := beq_t h214
                         refine sem_skip (seqK_n (sem_seq (sem_block (sem_seq ?_))))
                         refine sem_drawn rfl (by decide +kernel) rfl ?_
                         refine step_r rfl rfl trivial (step_r rfl rfl trivial ?_)
                         have jk215 : j2.toNat < ((rollM words ((bestD d).length)).1).length := by first | assumption | omega | (simp only [List.length_set, List.length_append]; omega) | (simp only [IntKind.wrap_i64] at *; omega) | (simp; omega) | simp_all
                         refine step_idxR' (k := j2.toNat) rfl rfl (Int.toNat_of_nonneg (by first | omega | (simp only [IntKind.wrap_i64]; omega) | (simp only [IntKind.wrap_i64] at *; omega) | (simp; omega))).symm rfl rfl jk215 rfl ?_
                         refine step_load_oneR rfl rfl rfl rfl (encI_get (get_getD jk215)) rfl ?_
                         refine step_r rfl rfl trivial (step_r rfl rfl trivial ?_)
                         refine step_idxR' (k := i1.toNat) rfl rfl (Int.toNat_of_nonneg (by first | omega | (simp only [IntKind.wrap_i64]; omega) | (simp only [IntKind.wrap_i64] at *; omega) | (simp; omega))).symm rfl rfl jk197 rfl ?_
                         refine step_load_oneR rfl rfl rfl rfl (encI_get (get_getD jk197)) rfl ?_
                         refine step_bin rfl rfl rfl rfl rfl trivial (step_r rfl rfl trivial ?_)
                         refine step_gs rfl (fun h217 => ?_) (fun h217 => ?_)
                         ·have g217 : (((rollM words ((bestD d).length)).1).getD j2.toNat default : Int) > (((rollM words ((bestD d).length)).1).getD i1.toNat default) := of_decide_eq_true h217
                          refine step_g0 rfl h217 rfl (step_g0 rfl h217 rfl (step_g0 rfl h217 rfl (step_g0 rfl h217 rfl (step_g0 rfl h217 rfl (step_g0 rfl h217 rfl (step_g0 rfl h217 rfl (step_g0 rfl h217 rfl (step_g0 rfl h217 rfl (step_g0 rfl h217 rfl (step_gf rfl rfl (step_gf rfl rfl ?_)))))))))))
                          refine step_gf rfl rfl (step_g0 rfl h217 rfl (step_pickT rfl h217 rfl rfl (step_nil (seqK_n (sem_condT rfl (sem_seq (sem_region rfl (step_r rfl rfl trivial (step_nil (seqK_n (sem_ret ?_)))))))))))
                          refine blkK_r (seqK_r (lupK_r (blkK_r (cutW_r (blkK_r (seqK_r (lupK_r (blkK_r (cutW_r (seqK_r ?_))))))))))
                          have e218 : fair21_L2 d words i1 (200) 0 = .inl false := by
                           rewrite [← hI2]
                           rewrite [fair21_L2]
                           try dsimp only
                           rewrite [if_pos g209, if_pos g214, if_pos g217]
                           all_goals rfl
                          have e219 : fair21_L1 d words (200) 0 = .inl false := by
                           rewrite [← hI1]
                           rewrite [fair21_L1]
                           try dsimp only
                           rewrite [if_pos g179, if_pos g181, if_pos g184, if_pos g190, if_neg g194, if_neg g199, if_neg g203, e218]
                           try dsimp only
                           all_goals rfl
                          have e220 : fair21 d words more = false := by
                           unfold fair21
                           try dsimp only
                           rewrite [if_pos g3, if_neg g6, if_neg g9, if_pos g12, if_pos g17, if_neg g29, if_neg g32, if_pos g144, if_pos g147, if_pos g150, hJ152]
                           try dsimp only
                           rewrite [if_neg g170, e219]
                           try dsimp only
                           all_goals rfl
                          rw [e220]
                          exact answersR rfl ⟨trivial, trivial⟩ (rfl) rfl
                         ·have g217 : ¬ ((((rollM words ((bestD d).length)).1).getD j2.toNat default : Int) > (((rollM words ((bestD d).length)).1).getD i1.toNat default)) := of_decide_eq_false h217
                          refine step_g1 rfl h217 (step_r rfl rfl trivial (step_g1 rfl h217 (step_r rfl rfl trivial (step_g1 rfl h217 ?_))))
                          refine step_idxR' (k := j2.toNat) rfl rfl (Int.toNat_of_nonneg (by first | omega | (simp only [IntKind.wrap_i64]; omega) | (simp only [IntKind.wrap_i64] at *; omega) | (simp; omega))).symm rfl rfl jk215 rfl ?_
                          refine step_g1 rfl h217 ?_
                          refine step_load_oneR rfl rfl rfl rfl (encI_get (get_getD jk215)) rfl ?_
                          refine step_g1 rfl h217 (step_r rfl rfl trivial (step_g1 rfl h217 (step_r rfl rfl trivial (step_g1 rfl h217 ?_))))
                          refine step_idxR' (k := i1.toNat) rfl rfl (Int.toNat_of_nonneg (by first | omega | (simp only [IntKind.wrap_i64]; omega) | (simp only [IntKind.wrap_i64] at *; omega) | (simp; omega))).symm rfl rfl jk197 rfl ?_
                          refine step_g1 rfl h217 ?_
                          refine step_load_oneR rfl rfl rfl rfl (encI_get (get_getD jk197)) rfl ?_
                          refine step_g1 rfl h217 (step_bin rfl rfl rfl rfl rfl trivial (step_g1 rfl h217 (step_r rfl rfl trivial ?_)))
                          refine step_gs rfl (fun h222 => ?_) (fun h222 => ?_)
                          ·have g222 : (((rollM words ((bestD d).length)).1).getD j2.toNat default : Int) = (((rollM words ((bestD d).length)).1).getD i1.toNat default) := beq_t h222
                           refine step_g1 rfl h222 (step_r rfl rfl trivial (step_g1 rfl h222 (step_r rfl rfl trivial (step_g1 rfl h222 (step_bin rfl rfl rfl rfl rfl trivial (step_g1 rfl h217 (step_pickT rfl h222 rfl rfl (step_pickF rfl h217 rfl rfl (step_nil (seqK_n ?_))))))))))
                           refine sem_cond rfl (fun h224 => ?_) (fun h224 => ?_)
                           ·have g224 : (j2 : Int) < i1 := of_decide_eq_true h224
                            refine sem_seq (sem_region rfl (step_r rfl rfl trivial (step_nil (seqK_n (sem_ret (blkK_r (seqK_r (lupK_r (blkK_r (cutW_r (blkK_r ?_)))))))))))
                            refine seqK_r (lupK_r (blkK_r (cutW_r (seqK_r ?_))))
                            have e225 : fair21_L2 d words i1 (200) 0 = .inl false := by
                             rewrite [← hI2]
                             rewrite [fair21_L2]
                             try dsimp only
                             rewrite [if_pos g209, if_pos g214, if_neg g217, if_pos g222, if_pos g224]
                             all_goals rfl
                            have e226 : fair21_L1 d words (200) 0 = .inl false := by
                             rewrite [← hI1]
                             rewrite [fair21_L1]
                             try dsimp only
                             rewrite [if_pos g179, if_pos g181, if_pos g184, if_pos g190, if_neg g194, if_neg g199, if_neg g203, e225]
                             try dsimp only
                             all_goals rfl
                            have e227 : fair21 d words more = false := by
                             unfold fair21
                             try dsimp only
                             rewrite [if_pos g3, if_neg g6, if_neg g9, if_pos g12, if_pos g17, if_neg g29, if_neg g32, if_pos g144, if_pos g147, if_pos g150, hJ152]
                             try dsimp only
                             rewrite [if_neg g170, e226]
                             try dsimp only
                             all_goals rfl
                            rw [e227]
                            exact answersR rfl ⟨trivial, trivial⟩ (rfl) rfl
                           ·have g224 : ¬ ((j2 : Int) < i1) := of_decide_eq_false h224
                            refine sem_skip (blkK_n (seqK_n (sem_region rfl (step_r rfl rfl trivial (step_bin rfl rfl rfl rfl rfl trivial (step_r rfl rfl trivial (step_nil ?_)))))))
                            have e229 : fair21_L2 d words i1 (f2 + 1) j2 = fair21_L2 d words i1 f2 (IntKind.i64.wrap (j2 + 1)) := by
                             rewrite [fair21_L2]
                             try dsimp only
                             rewrite [if_pos g209, if_pos g214, if_neg g217, if_pos g222, if_neg g224]
                             all_goals rfl
                            exact lup_againT (f2, (IntKind.i64.wrap (j2 + 1))) ⟨e229.symm.trans hI2, (by have := @rollM_le words (bestD d).length; simp only [IntKind.wrap_i64] at *; omega), (by have := @rollM_le words (bestD d).length; simp only [IntKind.wrap_i64] at *; omega)⟩ (Nat.lt_succ_self _) (Trans.ren [] (by decide +kernel) (by decide +kernel) rfl ⟨⟨rfl, rfl⟩, ⟨rfl, rfl⟩, ⟨rfl, rfl⟩, ⟨rfl, rfl⟩, ⟨rfl, rfl⟩, ⟨rfl, rfl⟩, ⟨rfl, rfl⟩, ⟨rfl, rfl⟩, ⟨rfl, rfl⟩, ⟨rfl, rfl⟩, ⟨rfl, rfl⟩, trivial⟩ ⟨⟨rfl, rfl, rfl⟩, ⟨rfl, rfl, rfl⟩, trivial⟩ (by decide))
                          ·have g222 : ¬ ((((rollM words ((bestD d).length)).1).getD j2.toNat default : Int) = (((rollM words ((bestD d).length)).1).getD i1.toNat default)) := beq_f h222
                           refine step_g0 rfl h222 rfl (step_g0 rfl h222 rfl (step_g0 rfl h222 rfl (step_g1 rfl h217 (step_pickF rfl h222 rfl rfl (step_pickF rfl h217 rfl rfl (step_nil (seqK_n (sem_condF rfl (sem_skip (blkK_n (seqK_n ?_)))))))))))
                           refine sem_region rfl (step_r rfl rfl trivial (step_bin rfl rfl rfl rfl rfl trivial (step_r rfl rfl trivial (step_nil ?_))))
                           have e231 : fair21_L2 d words i1 (f2 + 1) j2 = fair21_L2 d words i1 f2 (IntKind.i64.wrap (j2 + 1)) := by
                            rewrite [fair21_L2]
                            try dsimp only
                            rewrite [if_pos g209, if_pos g214, if_neg g217, if_neg g222]
                            all_goals rfl
                           exact lup_againT (f2, (IntKind.i64.wrap (j2 + 1))) ⟨e231.symm.trans hI2, (by have := @rollM_le words (bestD d).length; simp only [IntKind.wrap_i64] at *; omega), (by have := @rollM_le words (bestD d).length; simp only [IntKind.wrap_i64] at *; omega)⟩ (Nat.lt_succ_self _) (Trans.ren [] (by decide +kernel) (by decide +kernel) rfl ⟨⟨rfl, rfl⟩, ⟨rfl, rfl⟩, ⟨rfl, rfl⟩, ⟨rfl, rfl⟩, ⟨rfl, rfl⟩, ⟨rfl, rfl⟩, ⟨rfl, rfl⟩, ⟨rfl, rfl⟩, ⟨rfl, rfl⟩, ⟨rfl, rfl⟩, ⟨rfl, rfl⟩, trivial⟩ ⟨⟨rfl, rfl, rfl⟩, ⟨rfl, rfl, rfl⟩, trivial⟩ (by decide))
                        ·have g214 : ¬ (((bestD d).getD i1.toNat default : Int) = ((awardD d words).1)) := beq_f h214
                         refine sem_exit (seqK_e (lupK_e (blkK_t rfl ?_)))
                         have e232 : fair21_L2 d words i1 (200) 0 = .inr () := by
                          rewrite [← hI2]
                          rewrite [fair21_L2]
                          try dsimp only
                          rewrite [if_pos g209, if_neg g214]
                          all_goals rfl
                         exact cutW_n () e232 (Trans.ren [] (by decide +kernel) (by decide +kernel) rfl ⟨⟨rfl, rfl⟩, ⟨rfl, rfl⟩, ⟨rfl, rfl⟩, ⟨rfl, rfl⟩, ⟨rfl, rfl⟩, ⟨rfl, rfl⟩, ⟨rfl, rfl⟩, ⟨rfl, rfl⟩, ⟨rfl, rfl⟩, ⟨rfl, rfl⟩, trivial⟩ ⟨⟨rfl, rfl, rfl⟩, ⟨rfl, rfl, rfl⟩, trivial⟩ (by decide))
                       ·have g209 : ¬ ((j2 : Int) < ((rollM words ((bestD d).length)).1.length)) := of_decide_eq_false h209
                        refine step_g0 rfl h209 rfl (step_g0 rfl h209 rfl (step_g0 rfl h209 rfl (step_g0 rfl h209 rfl (step_g0 rfl h209 rfl (step_g0 rfl h209 rfl (step_pickF rfl h209 rfl rfl (step_nil (seqK_n (sem_condF rfl (sem_exit (seqK_e ?_)))))))))))
                        refine lupK_e (blkK_t rfl ?_)
                        have e233 : fair21_L2 d words i1 (200) 0 = .inr () := by
                         rewrite [← hI2]
                         rewrite [fair21_L2]
                         try dsimp only
                         rewrite [if_neg g209]
                         all_goals rfl
                        exact cutW_n () e233 (Trans.ren [] (by decide +kernel) (by decide +kernel) rfl ⟨⟨rfl, rfl⟩, ⟨rfl, rfl⟩, ⟨rfl, rfl⟩, ⟨rfl, rfl⟩, ⟨rfl, rfl⟩, ⟨rfl, rfl⟩, ⟨rfl, rfl⟩, ⟨rfl, rfl⟩, ⟨rfl, rfl⟩, ⟨rfl, rfl⟩, trivial⟩ ⟨⟨rfl, rfl, rfl⟩, ⟨rfl, rfl, rfl⟩, trivial⟩ (by decide))
                      ·rintro ⟨⟩ (hJ206 : fair21_L2 d words i1 (200) 0 = .inr ())
                       show blkK _ _ .normal (⟨[(7, B true), (9, I (awardD d words).1), (10, I (awardD d words).2.1), (14, I mine_0), (15, I most_0), (17, .ref 0 1 0 (bestD d).length), (18, .ref 1 1 0 (rollM words ((bestD d).length)).1.length), (19, I (rollM words ((bestD d).length)).2.1), (20, B (rollM words ((bestD d).length)).2.2), (21, I i1)], [(0, .row 3 1 (encI (bestD d))), (1, .row 3 1 (encI (rollM words ((bestD d).length)).1))], 2, [], 231, 0⟩ : St)
                       refine blkK_n (seqK_n (sem_region rfl (step_r rfl rfl trivial (step_bin rfl rfl rfl rfl rfl trivial (step_r rfl rfl trivial (step_nil ?_))))))
                       have e236 : fair21_L1 d words (f1 + 1) i1 = fair21_L1 d words f1 (IntKind.i64.wrap (i1 + 1)) := by
                        rewrite [fair21_L1]
                        try dsimp only
                        rewrite [if_pos g179, if_pos g181, if_pos g184, if_pos g190, if_neg g194, if_neg g199, if_neg g203, hJ206]
                        try dsimp only
                        all_goals rfl
                       exact lup_againT (f1, (IntKind.i64.wrap (i1 + 1))) ⟨e236.symm.trans hI1, (by simp only [IntKind.wrap_i64] at *; omega), (by simp only [IntKind.wrap_i64] at *; omega)⟩ (Nat.lt_succ_self _) (Trans.ren [] (by decide +kernel) (by decide +kernel) rfl ⟨⟨rfl, rfl⟩, ⟨rfl, rfl⟩, ⟨rfl, rfl⟩, ⟨rfl, rfl⟩, ⟨rfl, rfl⟩, ⟨rfl, rfl⟩, ⟨rfl, rfl⟩, ⟨rfl, rfl⟩, ⟨rfl, rfl⟩, ⟨rfl, rfl⟩, trivial⟩ ⟨⟨rfl, rfl, rfl⟩, ⟨rfl, rfl, rfl⟩, trivial⟩ (by decide))
                ·have g181 : ¬ (((bestD d).length : Int) > 1) := of_decide_eq_false h181
                 refine sem_exit (seqK_e (lupK_e (blkK_t rfl ?_)))
                 have e237 : fair21_L1 d words (200) 0 = .inr () := by
                  rewrite [← hI1]
                  rewrite [fair21_L1]
                  try dsimp only
                  rewrite [if_pos g179, if_neg g181]
                  all_goals rfl
                 exact cutW_n () e237 (Trans.ren [] (by decide +kernel) (by decide +kernel) rfl ⟨⟨rfl, rfl⟩, ⟨rfl, rfl⟩, ⟨rfl, rfl⟩, trivial⟩ trivial (by decide))
               ·have g179 : ¬ ((i1 : Int) < ((bestD d).length)) := of_decide_eq_false h179
                refine step_g0 rfl h179 rfl (step_g0 rfl h179 rfl (step_g0 rfl h179 rfl (step_pickF rfl h179 rfl rfl (step_nil (seqK_n (sem_condF rfl (sem_exit (seqK_e (lupK_e (blkK_t rfl ?_))))))))))
                have e238 : fair21_L1 d words (200) 0 = .inr () := by
                 rewrite [← hI1]
                 rewrite [fair21_L1]
                 try dsimp only
                 rewrite [if_neg g179]
                 all_goals rfl
                exact cutW_n () e238 (Trans.ren [] (by decide +kernel) (by decide +kernel) rfl ⟨⟨rfl, rfl⟩, ⟨rfl, rfl⟩, ⟨rfl, rfl⟩, trivial⟩ trivial (by decide))
              ·rintro ⟨⟩ (hJ176 : fair21_L1 d words (200) 0 = .inr ())
               show seqK _ _ _ .normal (⟨[(7, B true), (14, I mine_0), (15, I most_0)], [], 0, [], 231, 0⟩ : St)
               refine seqK_n (sem_seq (sem_region rfl (step_r rfl rfl trivial (step_r rfl rfl trivial (step_gt rfl (step_r rfl rfl trivial (step_gt rfl (step_r rfl rfl trivial (step_gt rfl (step_bin rfl rfl rfl rfl rfl trivial (step_r rfl rfl trivial ?_)))))))))))
               refine step_r rfl rfl trivial ?_
               refine step_gs rfl (fun h242 => ?_) (fun h242 => ?_)
               ·have g242 : (mine_0 : Int) = most_0 := beq_t h242
                refine step_g1 rfl h242 (step_r rfl rfl trivial (step_g1 rfl h242 (step_bin rfl rfl rfl rfl rfl trivial (step_pickT rfl h242 rfl rfl (step_r rfl rfl trivial (step_nil (seqK_n (sem_ret ?_))))))))
                have e244 : fair21 d words more = (decide ((mine_0 : Int) ≥ 2)) := by
                 unfold fair21
                 try dsimp only
                 rewrite [if_pos g3, if_neg g6, if_neg g9, if_pos g12, if_pos g17, if_neg g29, if_neg g32, if_pos g144, if_pos g147, if_pos g150, hJ152]
                 try dsimp only
                 rewrite [if_neg g170, hJ176]
                 try dsimp only
                 rewrite [if_pos g242]
                 all_goals rfl
                rw [e244]
                exact answersR rfl ⟨trivial, trivial⟩ (rfl) rfl
               ·have g242 : ¬ ((mine_0 : Int) = most_0) := beq_f h242
                refine step_g0 rfl h242 rfl (step_g0 rfl h242 rfl (step_pickF rfl h242 rfl rfl (step_r rfl rfl trivial (step_nil (seqK_n (sem_ret ?_))))))
                have e245 : fair21 d words more = false := by
                 unfold fair21
                 try dsimp only
                 rewrite [if_pos g3, if_neg g6, if_neg g9, if_pos g12, if_pos g17, if_neg g29, if_neg g32, if_pos g144, if_pos g147, if_pos g150, hJ152]
                 try dsimp only
                 rewrite [if_neg g170, hJ176]
                 try dsimp only
                 rewrite [if_neg g242]
                 all_goals rfl
                rw [e245]
                exact answersR rfl ⟨trivial, trivial⟩ (rfl) rfl
end Go.Proofs.Ytkaikflohpbcnaa

import Derived.Test.YtmijbjpdjggppaaAura
namespace Go.Proofs.Ytmijbjpdjggppaa
open Go Go.RowKit Go.Proofs.YtmijbjpdjggppaaVm
attribute [local irreducible] opsWp AnswersE OpsS
set_option maxHeartbeats 400000
set_option maxRecDepth 100000
set_option linter.all false
def take14_L0 : List GShield → Nat → (List GShield) → (List Int) → Int → (List GShield) × (List Int) × Int
  | [], k0, left0, gone0, n0 => (left0, gone0, n0)
  | x0 :: l_, k0, left0, gone0, n0 => if (x0.Left : Int) ≤ (clampM n0 0 (max x0.Left 0)) then take14_L0 l_ (k0 + 1) left0 (gone0 ++ [x0.Aura]) (IntKind.i64.wrap (n0 - (clampM n0 0 (max x0.Left 0)))) else take14_L0 l_ (k0 + 1) (left0 ++ [(⟨x0.Aura, (IntKind.i64.wrap (x0.Left - (clampM n0 0 (max x0.Left 0))))⟩ : GShield)]) gone0 (IntKind.i64.wrap (n0 - (clampM n0 0 (max x0.Left 0))))
def take14 (l : List GShield) (n : Int) : (List GShield) × Int × (List Int) :=
  if (n : Int) < 1 then (l, 0, []) else (match take14_L0 l 0 ([]) ([]) n with
    | (left_0, gone_0, n_0) => (left_0, n_0, gone_0))
theorem take14_ok (l : List GShield) (l_f : Bool) (n : Int) (hl : l.length ≤ 16777215) : Ok Try.prog 61 [.pv (.slc l.length l_f (l.flatMap encGShield)), I n] [] (.tup [.ref 0 2 0 (take14 l n).1.length, I (take14 l n).2.1, .ref 1 1 0 (take14 l n).2.2.length]) [.row 125 2 ((take14 l n).1.flatMap encGShield), .row 3 1 (encI (take14 l n).2.2)] [] := by
 refine Ok.len fun hlen => ?_
 have hl_l : l.length ≤ maxLen := hlen _ (by simp [lensL, lens, lensP])
 unfold maxLen at hl_l
 refine ok_of_sem Try.func61 rfl ?_
 show Walks Try.prog _ _ ⟨[(0, .pv (.slc l.length l_f (l.flatMap encGShield))), (1, I n)], [], 0, [], 51, 0⟩
 refine sem_seq (sem_region rfl (step_n (nx' := 1) rfl rfl rfl trivial (step_r rfl rfl trivial (step_n (nx' := 2) rfl rfl rfl trivial (step_nil (seqK_n ?_))))))
 refine sem_scope ?_
 refine sem_seq (sem_seq (sem_region rfl (step_r rfl rfl trivial (step_bin rfl rfl rfl rfl rfl trivial (step_nil (seqK_n ?_))))))
 refine sem_cond rfl (fun h2 => ?_) (fun h2 => ?_)
 ·have g2 : (n : Int) < 1 := of_decide_eq_true h2
  refine sem_seq (sem_region rfl (step_r rfl rfl trivial ?_))
  refine step_callN (out' := .ref 2 _ _ _) (H' := [(2, .row _ _ _), (1, _), (0, _)]) (nx' := 3) rfl rfl rfl rfl rfl rfl rfl (by (repeat' apply And.intro) <;> first | trivial | rfl | exact flat_len (fun _ => rfl) _ | exact encI_len _ | exact Nat.le_of_ble_eq_true rfl | assumption) (clone_GShield l false (by first | assumption | omega | (simp; omega) | simp_all)) rfl rfl rfl rfl ?_
  refine step_r rfl rfl trivial (step_r rfl rfl trivial (step_n (nx' := 4) rfl rfl rfl trivial (step_nil (seqK_n (sem_ret (seqK_r ?_))))))
  refine scpK_r ?_
  have e3 : take14 l n = (l, 0, []) := by
   unfold take14
   try dsimp only
   rewrite [if_pos g2]
   all_goals rfl
  rw [e3]
  exact answersGR [] [2, 3] rfl ⟨trivial, trivial, trivial, trivial⟩ rfl (by (repeat' apply And.intro) <;> first | trivial | rfl | exact flat_len (fun _ => rfl) _ | exact encI_len _ | assumption) (rfl) rfl rfl rfl (by decide) rfl rfl ⟨⟨rfl, rfl⟩, ⟨rfl, rfl⟩, trivial⟩
 ·have g2 : ¬ ((n : Int) < 1) := of_decide_eq_false h2
  refine sem_skip (seqK_n (sem_seq ?_))
  refine sem_label ?_
  refine seqK_n (sem_seq (sem_seq (sem_region rfl (step_r rfl rfl trivial (step_r rfl rfl trivial (step_r rfl rfl trivial (step_nil (seqK_n ?_))))))))
  refine sem_cutW (fun w_ : (List GShield) × (List Int) × Int => match w_ with | (left_0, gone_0, n_0) => (⟨[(1, I n_0), (4, .ref 0 2 0 left_0.length), (6, .ref 1 1 0 gone_0.length)], [(0, .row 125 2 (left_0.flatMap encGShield)), (1, .row 3 1 (encI gone_0))], 2, [], 51, 0⟩ : St)) (fun w_ => take14_L0 l 0 ([]) ([]) n = w_) ?_ ?_
  ·refine sem_block ?_
   refine sem_loopT (fun w_ : Nat × (List GShield) × (List Int) × Int => match w_ with | (k0, left0, gone0, n0) => (⟨[(1, I n0), (4, .ref 0 2 0 left0.length), (6, .ref 1 1 0 gone0.length), (14, .pv (.slc l.length l_f (l.flatMap encGShield))), (15, I l.length), (16, I k0)], [(0, .row 125 2 (left0.flatMap encGShield)), (1, .row 3 1 (encI gone0))], 2, [], 51, 0⟩ : St)) (fun w_ : Nat × (List GShield) × (List Int) × Int => match w_ with | (k0, left0, gone0, n0) => take14_L0 (l.drop k0) k0 left0 gone0 n0 = take14_L0 l 0 ([]) ([]) n ∧ k0 ≤ l.length ∧ left0.length ≤ k0 ∧ gone0.length ≤ k0) (fun w_ : Nat × (List GShield) × (List Int) × Int => match w_ with | (k0, left0, gone0, n0) => l.length - k0) (0, [], [], n) (⟨rfl, Nat.zero_le _, by first | omega | simp | (simp; omega)⟩) ?_ (fun w_ hh_ => ?_)
   ·exact (Trans.ren [] (by decide +kernel) (by decide +kernel) rfl ⟨⟨rfl, rfl⟩, ⟨congrArg (fun n => some (AV.ref 0 2 0 n)) (by first | rfl | simp only [List.length_set] | simp | omega | (simp; omega)), rfl⟩, ⟨congrArg (fun n => some (AV.ref 1 1 0 n)) (by first | rfl | simp only [List.length_set] | simp | omega | (simp; omega)), rfl⟩, ⟨rfl, rfl⟩, ⟨rfl, rfl⟩, ⟨rfl, rfl⟩, trivial⟩ ⟨⟨rfl, rfl, rfl⟩, ⟨rfl, rfl, rfl⟩, trivial⟩ (by decide))
   obtain ⟨k0, left0, gone0, n0⟩ := w_
   obtain ⟨hI0, hb0, hv0⟩ := hh_
   show Walks Try.prog _ _ (⟨[(1, I n0), (4, .ref 0 2 0 left0.length), (6, .ref 1 1 0 gone0.length), (14, .pv (.slc l.length l_f (l.flatMap encGShield))), (15, I l.length), (16, I k0)], [(0, .row 125 2 (left0.flatMap encGShield)), (1, .row 3 1 (encI gone0))], 2, [], 51, 0⟩ : St)
   refine sem_seq (sem_region rfl (step_bin rfl rfl rfl rfl rfl trivial (step_nil (seqK_n (sem_seq ?_)))))
   refine sem_cond rfl (fun h5 => ?_) (fun h5 => ?_)
   ·have g5 : (k0 : Int) < l.length := of_decide_eq_true h5
    have hk0 : k0 < l.length := by omega
    obtain ⟨x0, hx0⟩ : ∃ z_, l[k0]? = some z_ := ⟨_, List.getElem?_eq_getElem hk0⟩
    refine sem_skip (seqK_n (sem_seq (sem_block (sem_seq (sem_region rfl (step_idxS (k := k0) rfl rfl rfl rfl hk0 (flat_ne (s := 2) (enc := encGShield) (fun _ => rfl) (by decide) hk0) rfl (step_load_row rfl rfl rfl (flat_lt (s := 2) (enc := encGShield) (fun _ => rfl) hk0) (flat_take (s := 2) (enc := encGShield) (fun _ => rfl) hx0) rfl (step_n (o := .box [_, _]) (nx' := 3) rfl rfl rfl trivial ?_))))))))
    refine step_storeB (H' := [(2, .box [_, _]), (0, _), (1, _)]) rfl rfl rfl rfl rfl rfl (.inl rfl) rfl ?_
    refine step_nil (seqK_n (sem_seq (sem_region rfl (step_r rfl rfl trivial (step_r rfl rfl (by decide) (step_r rfl rfl trivial ?_))))))
    refine step_max rfl rfl rfl ?_
    refine step_call rfl rfl rfl rfl (clamp_ok n0 0 (max x0.Left 0)) rfl rfl rfl (step_r rfl rfl trivial (step_nil (seqK_n (sem_seq (sem_region rfl (step_r rfl rfl trivial (step_r rfl rfl trivial (step_bin rfl rfl rfl rfl rfl trivial (step_r rfl rfl trivial (step_nil (seqK_n ?_)))))))))))
    refine sem_seq (sem_seq (sem_region rfl (step_r rfl rfl (by decide) (step_r rfl rfl trivial (step_r rfl rfl trivial (step_bin rfl rfl rfl rfl rfl trivial (step_nil (seqK_n ?_))))))))
    refine sem_cond rfl (fun h9 => ?_) (fun h9 => ?_)
    ·have g9 : (x0.Left : Int) ≤ (clampM n0 0 (max x0.Left 0)) := of_decide_eq_true h9
     refine sem_seq (sem_region rfl (step_r rfl rfl trivial (step_r rfl rfl (by decide) (step_r rfl rfl trivial (step_n (o := .row _ _ [_]) (nx' := 4) rfl rfl rfl (by decide) ?_)))))
     refine step_appendC (m := 1) (new := [_]) (cs' := encI (gone0 ++ [x0.Aura])) (n' := (gone0 ++ [x0.Aura]).length) (H' := [(3, .row _ _ _), (2, .box [_, _]), (0, .row _ _ _), (1, .row _ _ _)]) rfl rfl rfl (rfl) rfl rfl rfl rfl rfl rfl (encI_len gone0) (rfl) (by first | decide | (unfold maxGrow; omega) | (unfold maxGrow; simp; omega) | (unfold maxGrow; simp only [List.length_append, List.length_take, List.length_drop, List.length_cons, List.length_nil, IntKind.wrap_i64] at *; omega)) (len_snoc gone0 _) (((encI_snoc gone0 x0.Aura)).symm) (.inl rfl) rfl rfl (.keep rfl (.keep rfl (.keep rfl (.keep rfl .nil)))) (.keep rfl (.keep rfl (.keep rfl (.lose (v' := .undef) rfl (.keep rfl (.keep rfl (.keep rfl (.keep rfl (.keep rfl (.keep rfl (.keep rfl (.keep rfl (.keep rfl (.keep rfl (.keep rfl (.keep rfl (.keep rfl (.keep rfl (.keep rfl (.keep rfl (.keep rfl (.keep rfl (.keep rfl (.keep rfl (.lose (v' := .undef) rfl (.keep rfl (.keep rfl (.keep rfl .nil)))))))))))))))))))))))))))) ?_
     refine step_r rfl rfl trivial (step_nil (seqK_n (sem_exit (seqK_e (blkK_t rfl (seqK_n (sem_region rfl (step_bin rfl rfl rfl rfl rfl trivial (step_r rfl rfl trivial (step_nil ?_))))))))))
     have e11 : take14_L0 (l.drop k0) k0 left0 gone0 n0 = take14_L0 (l.drop (k0 + 1)) (k0 + 1) left0 (gone0 ++ [x0.Aura]) (IntKind.i64.wrap (n0 - (clampM n0 0 (max x0.Left 0)))) := by
      rewrite [drop_cons hx0]
      rewrite [take14_L0]
      try dsimp only
      rewrite [if_pos g9]
      all_goals rfl
     exact lup_againT (k0 + 1, left0, (gone0 ++ [x0.Aura]), (IntKind.i64.wrap (n0 - (clampM n0 0 (max x0.Left 0))))) ⟨e11.symm.trans hI0, hk0, by first | omega | assumption | (simp only [List.length_append, List.length_cons, List.length_nil, List.length_set]; omega) | (simp; omega) | grind⟩ (by show l.length - (k0 + 1) < l.length - k0; omega) (Trans.ren [] (by decide +kernel) (by decide +kernel) rfl ⟨⟨rfl, rfl⟩, ⟨rfl, rfl⟩, ⟨rfl, rfl⟩, ⟨rfl, rfl⟩, ⟨rfl, rfl⟩, ⟨congrArg (fun n => some (I n)) (wrapI (k := k0) (by first | omega | (simp; omega))), rfl⟩, trivial⟩ ⟨⟨rfl, rfl, rfl⟩, ⟨rfl, rfl, rfl⟩, trivial⟩ (by decide))
    ·have g9 : ¬ ((x0.Left : Int) ≤ (clampM n0 0 (max x0.Left 0))) := of_decide_eq_false h9
     refine sem_skip (seqK_n (sem_region rfl (step_r rfl rfl trivial (step_r rfl rfl (by decide) (step_r rfl rfl trivial (step_r rfl rfl (by decide) (step_r rfl rfl trivial (step_r rfl rfl trivial (step_bin rfl rfl rfl rfl rfl trivial (step_r (v := (.agg [_, _])) rfl rfl trivial (step_n (o := .row _ _ [_, _]) (nx' := 4) rfl rfl rfl (by decide) ?_)))))))))))
     refine step_appendC (m := 1) (new := [_, _]) (cs' := (left0 ++ [(⟨x0.Aura, (IntKind.i64.wrap (x0.Left - (clampM n0 0 (max x0.Left 0))))⟩ : GShield)]).flatMap encGShield) (n' := (left0 ++ [(⟨x0.Aura, (IntKind.i64.wrap (x0.Left - (clampM n0 0 (max x0.Left 0))))⟩ : GShield)]).length) (H' := [(3, .row _ _ _), (2, .box [_, _]), (0, .row _ _ _), (1, .row _ _ _)]) rfl rfl rfl (rfl) rfl rfl rfl rfl rfl rfl (flat_len (s := 2) (enc := encGShield) (fun _ => rfl) left0) (rfl) (by first | decide | (unfold maxGrow; omega) | (unfold maxGrow; simp; omega) | (unfold maxGrow; simp only [List.length_append, List.length_take, List.length_drop, List.length_cons, List.length_nil, IntKind.wrap_i64] at *; omega)) (len_snoc left0 _) (((flat_snoc (enc := encGShield) (l := left0) (⟨x0.Aura, (IntKind.i64.wrap (x0.Left - (clampM n0 0 (max x0.Left 0))))⟩ : GShield))).symm) (.inl rfl) rfl rfl (.keep rfl (.keep rfl (.keep rfl (.keep rfl .nil)))) (.keep rfl (.keep rfl (.keep rfl (.keep rfl (.keep rfl (.keep rfl (.keep rfl (.keep rfl (.lose (v' := .undef) rfl (.keep rfl (.keep rfl (.keep rfl (.keep rfl (.keep rfl (.keep rfl (.keep rfl (.keep rfl (.keep rfl (.keep rfl (.keep rfl (.keep rfl (.keep rfl (.keep rfl (.keep rfl (.keep rfl (.keep rfl (.keep rfl (.keep rfl (.lose (v' := .undef) rfl (.keep rfl (.keep rfl (.keep rfl (.keep rfl .nil))))))))))))))))))))))))))))))))) ?_
     refine step_r rfl rfl trivial (step_nil (blkK_n (seqK_n (sem_region rfl (step_bin rfl rfl rfl rfl rfl trivial (step_r rfl rfl trivial (step_nil ?_)))))))
     have e13 : take14_L0 (l.drop k0) k0 left0 gone0 n0 = take14_L0 (l.drop (k0 + 1)) (k0 + 1) (left0 ++ [(⟨x0.Aura, (IntKind.i64.wrap (x0.Left - (clampM n0 0 (max x0.Left 0))))⟩ : GShield)]) gone0 (IntKind.i64.wrap (n0 - (clampM n0 0 (max x0.Left 0)))) := by
      rewrite [drop_cons hx0]
      rewrite [take14_L0]
      try dsimp only
      rewrite [if_neg g9]
      all_goals rfl
     exact lup_againT (k0 + 1, (left0 ++ [(⟨x0.Aura, (IntKind.i64.wrap (x0.Left - (clampM n0 0 (max x0.Left 0))))⟩ : GShield)]), gone0, (IntKind.i64.wrap (n0 - (clampM n0 0 (max x0.Left 0))))) ⟨e13.symm.trans hI0, hk0, by first | omega | assumption | (simp only [List.length_append, List.length_cons, List.length_nil, List.length_set]; omega) | (simp; omega) | grind⟩ (by show l.length - (k0 + 1) < l.length - k0; omega) (Trans.ren [] (by decide +kernel) (by decide +kernel) rfl ⟨⟨rfl, rfl⟩, ⟨rfl, rfl⟩, ⟨rfl, rfl⟩, ⟨rfl, rfl⟩, ⟨rfl, rfl⟩, ⟨congrArg (fun n => some (I n)) (wrapI (k := k0) (by first | omega | (simp; omega))), rfl⟩, trivial⟩ ⟨⟨rfl, rfl, rfl⟩, ⟨rfl, rfl, rfl⟩, trivial⟩ (by decide))
   ·have g5 : ¬ ((k0 : Int) < l.length) := of_decide_eq_false h5
    have hk0 : k0 = l.length := by omega
    refine sem_exit (seqK_e (lupK_e (blkK_t rfl ?_)))
    have e14 : take14_L0 l 0 ([]) ([]) n = (left0, gone0, n0) := by
     rewrite [← hI0, hk0, List.drop_length]
     rewrite [take14_L0]
     try dsimp only
     all_goals rfl
    exact cutW_n (left0, gone0, n0) e14 (Trans.ren [] (by decide +kernel) (by decide +kernel) rfl ⟨⟨rfl, rfl⟩, ⟨rfl, rfl⟩, ⟨rfl, rfl⟩, trivial⟩ ⟨⟨rfl, rfl, rfl⟩, ⟨rfl, rfl, rfl⟩, trivial⟩ (by decide))
  ·rintro ⟨left_0, gone_0, n_0⟩ (hJ4 : take14_L0 l 0 ([]) ([]) n = (left_0, gone_0, n_0))
   show seqK _ _ _ .normal (⟨[(1, I n_0), (4, .ref 0 2 0 left_0.length), (6, .ref 1 1 0 gone_0.length)], [(0, .row 125 2 (left_0.flatMap encGShield)), (1, .row 3 1 (encI gone_0))], 2, [], 51, 0⟩ : St)
   refine seqK_n (sem_seq (sem_region rfl (step_r rfl rfl trivial (step_r rfl rfl trivial (step_r rfl rfl trivial (step_r rfl rfl trivial (step_r rfl rfl trivial (step_r rfl rfl trivial (step_nil (seqK_n (sem_ret ?_)))))))))))
   refine scpK_r ?_
   have e16 : take14 l n = (left_0, n_0, gone_0) := by
    unfold take14
    try dsimp only
    rewrite [if_neg g2, hJ4]
    try dsimp only
    all_goals rfl
   rw [e16]
   exact answersGR [] [0, 1] rfl ⟨trivial, trivial, trivial, trivial⟩ rfl (by (repeat' apply And.intro) <;> first | trivial | rfl | exact flat_len (fun _ => rfl) _ | exact encI_len _ | assumption) (rfl) rfl rfl rfl (by decide) rfl rfl ⟨⟨rfl, rfl⟩, ⟨rfl, rfl⟩, trivial⟩

theorem take14_go : ∀ (l : List GShield) (k : Nat) (left : List GShield) (gone : List Int) (n : Int), (∀ s ∈ (take14_L0 l k left gone n).1, s ∈ left ∨ ∃ q ∈ l, q.Aura = s.Aura) ∧ (take14_L0 l k left gone n).1.length ≤ left.length + l.length ∧ (take14_L0 l k left gone n).2.1.length ≤ gone.length + l.length
  | [], k, left, gone, n => by rw [take14_L0]; simp
  | x :: l, k, left, gone, n => by
    rw [take14_L0]
    split
    · obtain ⟨h1, h2, h3⟩ := take14_go l (k + 1) left (gone ++ [x.Aura]) (IntKind.i64.wrap (n - clampM n 0 (max x.Left 0)))
      refine ⟨fun s hs => ?_, by simp only [List.length_cons]; omega, by simp only [List.length_cons, List.length_append, List.length_nil] at h3 ⊢; omega⟩
      rcases h1 s hs with h | ⟨q, hq, e⟩
      · exact .inl h
      · exact .inr ⟨q, List.mem_cons_of_mem _ hq, e⟩
    · obtain ⟨h1, h2, h3⟩ := take14_go l (k + 1) (left ++ [⟨x.Aura, IntKind.i64.wrap (x.Left - clampM n 0 (max x.Left 0))⟩]) gone (IntKind.i64.wrap (n - clampM n 0 (max x.Left 0)))
      refine ⟨fun s hs => ?_, by simp only [List.length_cons, List.length_append, List.length_nil] at h2 ⊢; omega, by simp only [List.length_cons]; omega⟩
      rcases h1 s hs with h | ⟨q, hq, e⟩
      · rcases List.mem_append.1 h with h | h
        · exact .inl h
        · rw [List.mem_singleton.1 h]; exact .inr ⟨x, List.mem_cons_self .., rfl⟩
      · exact .inr ⟨q, List.mem_cons_of_mem _ hq, e⟩
theorem take14_mem (l : List GShield) (n : Int) : ∀ s ∈ (take14 l n).1, ∃ q ∈ l, q.Aura = s.Aura := by
  unfold take14
  split
  · exact fun s hs => ⟨s, hs, rfl⟩
  · intro s hs
    rcases (take14_go l 0 [] [] n).1 s hs with h | h
    · cases h
    · exact h
theorem take14_len (l : List GShield) (n : Int) : (take14 l n).1.length ≤ l.length ∧ (take14 l n).2.2.length ≤ l.length := by
  unfold take14
  split
  · simp
  · have h := (take14_go l 0 [] [] n).2
    simpa using h

def takeF (i : Int) (x_ : GActive) (v_ : GAura) (c3 : List GShield) : List GShield :=
  (c3 ++ [(⟨i, x_.Left⟩ : GShield)])
theorem takeF_ok (i : Int) (x_ : GActive) (v_ : GAura) (c3 : List GShield) (hl : c3.length ≤ 16777214) : Ok Try.prog 60 [I i, aGActive x_, aGAura v_, .ptr 1 0] [.row 125 2 (c3.flatMap encGShield), .box [.ref 0 2 0 c3.length]] (.tup []) [.row 125 2 ((takeF i x_ v_ c3).flatMap encGShield), .box [.ref 0 2 0 (takeF i x_ v_ c3).length]] [0] := by
 refine ok_of_sem Try.func60 rfl ?_
 show Walks Try.prog _ _ ⟨[(0, I i), (1, aGActive x_), (2, aGAura v_), (3, .ptr 1 0)], [(0, .row 125 2 (c3.flatMap encGShield)), (1, .box [.ref 0 2 0 c3.length])], 2, [], 14, 2⟩
 refine sem_seq (sem_region rfl (step_n (o := .box [_, _, _, _, _, _]) (nx' := 3) rfl rfl rfl trivial (step_n (o := .box [_, _, _, _, _, _, _]) (nx' := 4) rfl rfl rfl trivial (step_nil (seqK_n (sem_region rfl (step_r rfl rfl trivial (step_r rfl rfl trivial (step_r rfl rfl (by decide) (step_r rfl rfl trivial (step_r (v := (.agg [_, _])) rfl rfl trivial ?_)))))))))))
 refine step_n (o := .row _ _ [_, _]) (nx' := 5) rfl rfl rfl (by decide) ?_
 refine step_appendC (m := 1) (new := [_, _]) (cs' := (c3 ++ [(⟨i, x_.Left⟩ : GShield)]).flatMap encGShield) (n' := (c3 ++ [(⟨i, x_.Left⟩ : GShield)]).length) (H' := [(4, .row _ _ _), (3, .box [_, _, _, _, _, _, _]), (2, .box [_, _, _, _, _, _]), (0, .row _ _ _), (1, .box [_])]) rfl rfl rfl (rfl) rfl rfl rfl rfl rfl rfl (flat_len (s := 2) (enc := encGShield) (fun _ => rfl) c3) (rfl) (by first | decide | (unfold maxGrow; omega) | (unfold maxGrow; simp; omega) | (unfold maxGrow; simp only [List.length_append, List.length_take, List.length_drop, List.length_cons, List.length_nil, IntKind.wrap_i64] at *; omega)) (len_snoc c3 _) (((flat_snoc (enc := encGShield) (l := c3) (⟨i, x_.Left⟩ : GShield))).symm) (.inl rfl) rfl rfl (.keep rfl (.keep rfl (.keep rfl (.keep rfl (.lose rfl .nil))))) (.keep rfl (.keep rfl (.keep rfl (.keep rfl (.keep rfl (.lose (v' := .undef) rfl (.keep rfl (.keep rfl (.keep rfl (.keep rfl (.keep rfl (.keep rfl .nil)))))))))))) ?_
 refine step_storeB (H' := [(4, _), (3, _), (2, _), (0, _), (1, .box [_])]) rfl rfl rfl rfl rfl rfl (.inl rfl) rfl ?_
 refine step_nil ?_
 have e2 : takeF i x_ v_ c3 = (c3 ++ [(⟨i, x_.Left⟩ : GShield)]) := by
  unfold takeF
  try dsimp only
  all_goals rfl
 rw [e2]
 exact answersGN [] [] rfl trivial rfl (by (repeat' apply And.intro) <;> first | trivial | rfl | exact flat_len (fun _ => rfl) _ | exact encI_len _ | assumption) (rfl) rfl rfl rfl (by decide) rfl rfl ⟨⟨rfl, rfl⟩, ⟨rfl, rfl⟩, trivial⟩

theorem takeF_len (i : Int) (x : GActive) (a : GAura) (c : List GShield) : (takeF i x a c).length = c.length + 1 := by simp [takeF]

def ofTake_L0 (c : GContent) (kind : Int) : List GActive → Nat → (List GShield) → List GShield
  | [], k0, o00 => o00
  | x0 :: l_, k0, o00 => if (getU c x0.Aura).2 = true then (if (((getU c x0.Aura).1).Kind : Int) = kind then ofTake_L0 c kind l_ (k0 + 1) (takeF k0 x0 ((getU c x0.Aura).1) o00) else ofTake_L0 c kind l_ (k0 + 1) o00) else ofTake_L0 c kind l_ (k0 + 1) o00
def ofTake (c : GContent) (l : List GActive) (kind : Int) (shields : List GShield) : List GShield :=
  (let o0_0 := ofTake_L0 c kind l 0 shields; o0_0)
theorem ofTake_ok (c : GContent) (l : List GActive) (l_f : Bool) (kind : Int) (shields : List GShield) (hl : l.length + shields.length ≤ 16777215) : Ok Try.prog 47 [aGContent c, .pv (.slc l.length l_f (l.flatMap encGActive)), I kind, .fnc 60 [.ptr 1 0]] [.row 125 2 (shields.flatMap encGShield), .box [.ref 0 2 0 shields.length]] (.tup []) [.row 125 2 ((ofTake c l kind shields).flatMap encGShield), .box [.ref 0 2 0 (ofTake c l kind shields).length]] [0] := by
 refine Ok.len fun hlen => ?_
 have hl_c_Abilities : c.Abilities.length ≤ maxLen := hlen _ (by simp [lensL, lens, lensP])
 have hl_c_Auras : c.Auras.length ≤ maxLen := hlen _ (by simp [lensL, lens, lensP])
 have hl_c_Foes : c.Foes.length ≤ maxLen := hlen _ (by simp [lensL, lens, lensP])
 have hl_c_Map_Wall : c.Map.Wall.length ≤ maxLen := hlen _ (by simp [lensL, lens, lensP])
 have hl_l : l.length ≤ maxLen := hlen _ (by simp [lensL, lens, lensP])
 unfold maxLen at hl_c_Abilities hl_c_Auras hl_c_Foes hl_c_Map_Wall hl_l
 refine ok_of_sem Try.func47 rfl ?_
 show Walks Try.prog _ _ ⟨[(0, aGContent c), (1, .pv (.slc l.length l_f (l.flatMap encGActive))), (2, I kind), (3, .fnc 60 [.ptr 1 0])], [(0, .row 125 2 (shields.flatMap encGShield)), (1, .box [.ref 0 2 0 shields.length])], 2, [], 39, 2⟩
 refine sem_seq (sem_region rfl (step_n (o := .box [_, _, _, _, _, _, _, _, _, _]) (nx' := 3) rfl rfl rfl trivial (step_nil (seqK_n (sem_seq (sem_region rfl (step_r rfl rfl trivial (step_r rfl rfl trivial (step_r rfl rfl trivial (step_nil (seqK_n ?_)))))))))))
 refine sem_cutW (fun o0_0 : List GShield => (⟨[], [(0, .row 125 2 (o0_0.flatMap encGShield)), (1, .box [.ref 0 2 0 o0_0.length])], 2, [0], 39, 2⟩ : St)) (fun w_ => ofTake_L0 c kind l 0 shields = w_) ?_ ?_
 ·refine sem_block ?_
  refine sem_loopT (fun w_ : Nat × (List GShield) => match w_ with | (k0, o00) => (⟨[(2, I kind), (3, .fnc 60 [.ptr 1 0]), (4, .ptr 2 0), (12, .pv (.slc l.length l_f (l.flatMap encGActive))), (13, I l.length), (14, I k0)], [(0, .row 125 2 (o00.flatMap encGShield)), (1, .box [.ref 0 2 0 o00.length]), (2, .box [.pv (.slc c.Abilities.length false (c.Abilities.flatMap encGAbility)), .pv (.slc c.Auras.length false (c.Auras.flatMap encGAura)), .pv (.slc c.Foes.length false (c.Foes.flatMap encGFoe)), I c.Map.W, I c.Map.H, .pv (.slc c.Map.Wall.length false (encB c.Map.Wall)), I c.Door.X, I c.Door.Y, I c.Lair.X, I c.Lair.Y])], 3, [0], 39, 2⟩ : St)) (fun w_ : Nat × (List GShield) => match w_ with | (k0, o00) => ofTake_L0 c kind (l.drop k0) k0 o00 = ofTake_L0 c kind l 0 shields ∧ k0 ≤ l.length ∧ o00.length ≤ shields.length + k0) (fun w_ : Nat × (List GShield) => match w_ with | (k0, o00) => l.length - k0) (0, shields) (⟨rfl, Nat.zero_le _, by first | omega | simp | (simp; omega)⟩) ?_ (fun w_ hh_ => ?_)
  ·exact (Trans.ren [] (by decide +kernel) (by decide +kernel) rfl ⟨⟨rfl, rfl⟩, ⟨rfl, rfl⟩, ⟨rfl, rfl⟩, ⟨rfl, rfl⟩, ⟨rfl, rfl⟩, ⟨rfl, rfl⟩, trivial⟩ ⟨⟨rfl, rfl, rfl⟩, ⟨rfl, rfl, rfl⟩, ⟨rfl, rfl, rfl⟩, trivial⟩ (by decide))
  obtain ⟨k0, o00⟩ := w_
  obtain ⟨hI0, hb0, hv0⟩ := hh_
  show Walks Try.prog _ _ (⟨[(2, I kind), (3, .fnc 60 [.ptr 1 0]), (4, .ptr 2 0), (12, .pv (.slc l.length l_f (l.flatMap encGActive))), (13, I l.length), (14, I k0)], [(0, .row 125 2 (o00.flatMap encGShield)), (1, .box [.ref 0 2 0 o00.length]), (2, .box [.pv (.slc c.Abilities.length false (c.Abilities.flatMap encGAbility)), .pv (.slc c.Auras.length false (c.Auras.flatMap encGAura)), .pv (.slc c.Foes.length false (c.Foes.flatMap encGFoe)), I c.Map.W, I c.Map.H, .pv (.slc c.Map.Wall.length false (encB c.Map.Wall)), I c.Door.X, I c.Door.Y, I c.Lair.X, I c.Lair.Y])], 3, [0], 39, 2⟩ : St)
  refine sem_seq (sem_region rfl (step_bin rfl rfl rfl rfl rfl trivial (step_nil (seqK_n (sem_seq ?_)))))
  refine sem_cond rfl (fun h2 => ?_) (fun h2 => ?_)
  ·have g2 : (k0 : Int) < l.length := of_decide_eq_true h2
   have hk0 : k0 < l.length := by omega
   obtain ⟨x0, hx0⟩ : ∃ z_, l[k0]? = some z_ := ⟨_, List.getElem?_eq_getElem hk0⟩
   refine sem_skip (seqK_n (sem_seq (sem_block (sem_seq (sem_region rfl (step_r rfl rfl trivial (step_idxS (k := k0) rfl rfl rfl rfl hk0 (flat_ne (s := 6) (enc := encGActive) (fun _ => rfl) (by decide) hk0) rfl (step_load_row rfl rfl rfl (flat_lt (s := 6) (enc := encGActive) (fun _ => rfl) hk0) (flat_take (s := 6) (enc := encGActive) (fun _ => rfl) hx0) rfl (step_n (o := .box [_, _, _, _, _, _]) (nx' := 4) rfl rfl rfl trivial (step_r rfl rfl trivial ?_))))))))))
   refine step_storeB (H' := [(3, .box [_, _, _, _, _, _]), (0, _), (1, _), (2, _)]) rfl rfl rfl rfl rfl rfl (.inl rfl) rfl ?_
   refine step_nil (seqK_n (sem_seq (sem_region rfl (step_r (v := (.agg [_, _, _, _, _, _, _, _, _, _])) rfl rfl (Nat.le_of_ble_eq_true rfl) (step_r rfl rfl (by decide) (step_r rfl rfl trivial (step_call rfl rfl rfl rfl (getU_ok c x0.Aura) rfl rfl rfl (step_r rfl rfl trivial (step_r rfl rfl trivial (step_r rfl rfl trivial (step_n (o := .box [_, _, _, _, _, _, _]) (nx' := 5) rfl rfl rfl trivial ?_)))))))))))
   refine step_storeB (H' := [(4, .box [_, _, _, _, _, _, _]), (3, _), (0, _), (1, _), (2, _)]) rfl rfl rfl rfl rfl rfl (.inl rfl) rfl ?_
   refine step_r rfl rfl trivial (step_nil (seqK_n (sem_seq (sem_region rfl (step_r rfl rfl trivial (step_r rfl rfl trivial ?_))))))
   refine step_gs rfl (fun h5 => ?_) (fun h5 => ?_)
   ·have g5 : (getU c x0.Aura).2 = true := h5
    refine step_g1 rfl h5 (step_r rfl rfl (by decide) (step_g1 rfl h5 (step_r rfl rfl trivial (step_g1 rfl h5 (step_r rfl rfl trivial (step_g1 rfl h5 (step_bin rfl rfl rfl rfl rfl trivial (step_pickT rfl h5 rfl rfl (step_nil (seqK_n ?_))))))))))
    refine sem_cond rfl (fun h8 => ?_) (fun h8 => ?_)
    ·have g8 : (((getU c x0.Aura).1).Kind : Int) = kind := beq_t h8
     refine sem_region rfl (step_r rfl rfl trivial (step_r rfl rfl trivial (step_r (v := (.agg [_, _, _, _, _, _])) rfl rfl (Nat.le_of_ble_eq_true rfl) (step_r (v := (.agg [_, _, _, _, _, _, _])) rfl rfl (Nat.le_of_ble_eq_true rfl) ?_))))
     refine step_callV (Hin := [.row _ _ _, .box [.ref 0 _ _ _]]) (out' := .tup []) (H' := [(4, .box [_, _, _, _, _, _, _]), (3, .box [_, _, _, _, _, _]), (0, .row _ _ _), (1, .box [_]), (2, .box [_, _, _, _, _, _, _, _, _, _])]) (nx' := 5) [0, 1] rfl rfl rfl rfl (.inl rfl) rfl rfl rfl rfl (takeF_ok k0 x0 ((getU c x0.Aura).1) o00 (by omega)) rfl (by decide) rfl rfl (.keep rfl (.keep rfl (.keep rfl (.lose rfl (.keep rfl .nil))))) (.keep rfl (.keep rfl (.keep rfl (.keep rfl (.keep rfl (.keep rfl (.keep rfl (.keep rfl (.keep rfl (.keep rfl (.keep rfl (.keep rfl (.keep rfl (.keep rfl (.keep rfl (.keep rfl (.keep rfl (.keep rfl (.keep rfl (.keep rfl (.keep rfl (.keep rfl (.keep rfl (.keep rfl (.keep rfl (.keep rfl (.keep rfl (.keep rfl (.keep rfl (.keep rfl (.keep rfl (.keep rfl .nil)))))))))))))))))))))))))))))))) rfl rfl rfl rfl ?_
     have p9 := takeF_len k0 x0 ((getU c x0.Aura).1) o00
     refine step_nil (blkK_n (seqK_n (sem_region rfl (step_bin rfl rfl rfl rfl rfl trivial (step_r rfl rfl trivial (step_nil ?_))))))
     have e11 : ofTake_L0 c kind (l.drop k0) k0 o00 = ofTake_L0 c kind (l.drop (k0 + 1)) (k0 + 1) (takeF k0 x0 ((getU c x0.Aura).1) o00) := by
      rewrite [drop_cons hx0]
      rewrite [ofTake_L0]
      try dsimp only
      rewrite [if_pos g5, if_pos g8]
      all_goals rfl
     exact lup_againT (k0 + 1, (takeF k0 x0 ((getU c x0.Aura).1) o00)) ⟨e11.symm.trans hI0, hk0, by first | omega | assumption | (simp only [List.length_append, List.length_cons, List.length_nil, List.length_set]; omega) | (simp; omega) | grind⟩ (by show l.length - (k0 + 1) < l.length - k0; omega) (Trans.ren [] (by decide +kernel) (by decide +kernel) rfl ⟨⟨rfl, rfl⟩, ⟨rfl, rfl⟩, ⟨rfl, rfl⟩, ⟨rfl, rfl⟩, ⟨rfl, rfl⟩, ⟨congrArg (fun n => some (I n)) (wrapI (k := k0) (by first | omega | (simp; omega))), rfl⟩, trivial⟩ ⟨⟨rfl, rfl, rfl⟩, ⟨rfl, rfl, rfl⟩, ⟨rfl, rfl, rfl⟩, trivial⟩ (by decide))
    ·have g8 : ¬ ((((getU c x0.Aura).1).Kind : Int) = kind) := beq_f h8
     refine sem_skip (blkK_n (seqK_n (sem_region rfl (step_bin rfl rfl rfl rfl rfl trivial (step_r rfl rfl trivial (step_nil ?_))))))
     have e13 : ofTake_L0 c kind (l.drop k0) k0 o00 = ofTake_L0 c kind (l.drop (k0 + 1)) (k0 + 1) o00 := by
      rewrite [drop_cons hx0]
      rewrite [ofTake_L0]
      try dsimp only
      rewrite [if_pos g5, if_neg g8]
      all_goals rfl
     exact lup_againT (k0 + 1, o00) ⟨e13.symm.trans hI0, hk0, by first | omega | assumption | (simp only [List.length_append, List.length_cons, List.length_nil, List.length_set]; omega) | (simp; omega) | grind⟩ (by show l.length - (k0 + 1) < l.length - k0; omega) (Trans.ren [] (by decide +kernel) (by decide +kernel) rfl ⟨⟨rfl, rfl⟩, ⟨rfl, rfl⟩, ⟨rfl, rfl⟩, ⟨rfl, rfl⟩, ⟨rfl, rfl⟩, ⟨congrArg (fun n => some (I n)) (wrapI (k := k0) (by first | omega | (simp; omega))), rfl⟩, trivial⟩ ⟨⟨rfl, rfl, rfl⟩, ⟨rfl, rfl, rfl⟩, ⟨rfl, rfl, rfl⟩, trivial⟩ (by decide))
   ·have g5 : ¬ ((getU c x0.Aura).2 = true) := boo_f h5
    refine step_g0 rfl h5 rfl (step_g0 rfl h5 rfl (step_g0 rfl h5 rfl (step_g0 rfl h5 rfl (step_pickF rfl h5 rfl rfl (step_nil (seqK_n (sem_condF rfl (sem_skip (blkK_n (seqK_n (sem_region rfl ?_)))))))))))
    refine step_bin rfl rfl rfl rfl rfl trivial (step_r rfl rfl trivial (step_nil ?_))
    have e15 : ofTake_L0 c kind (l.drop k0) k0 o00 = ofTake_L0 c kind (l.drop (k0 + 1)) (k0 + 1) o00 := by
     rewrite [drop_cons hx0]
     rewrite [ofTake_L0]
     try dsimp only
     rewrite [if_neg g5]
     all_goals rfl
    exact lup_againT (k0 + 1, o00) ⟨e15.symm.trans hI0, hk0, by first | omega | assumption | (simp only [List.length_append, List.length_cons, List.length_nil, List.length_set]; omega) | (simp; omega) | grind⟩ (by show l.length - (k0 + 1) < l.length - k0; omega) (Trans.ren [] (by decide +kernel) (by decide +kernel) rfl ⟨⟨rfl, rfl⟩, ⟨rfl, rfl⟩, ⟨rfl, rfl⟩, ⟨rfl, rfl⟩, ⟨rfl, rfl⟩, ⟨congrArg (fun n => some (I n)) (wrapI (k := k0) (by first | omega | (simp; omega))), rfl⟩, trivial⟩ ⟨⟨rfl, rfl, rfl⟩, ⟨rfl, rfl, rfl⟩, ⟨rfl, rfl, rfl⟩, trivial⟩ (by decide))
  ·have g2 : ¬ ((k0 : Int) < l.length) := of_decide_eq_false h2
   have hk0 : k0 = l.length := by omega
   refine sem_exit (seqK_e (lupK_e (blkK_t rfl ?_)))
   have e16 : ofTake_L0 c kind l 0 shields = o00 := by
    rewrite [← hI0, hk0, List.drop_length]
    rewrite [ofTake_L0]
    try dsimp only
    all_goals rfl
   exact cutW_n o00 e16 (Trans.ren [] (by decide +kernel) (by decide +kernel) rfl trivial ⟨⟨rfl, rfl, rfl⟩, ⟨rfl, rfl, rfl⟩, trivial⟩ (by decide))
 ·rintro o0_0 (hJ1 : ofTake_L0 c kind l 0 shields = o0_0)
  show AnswersE _ _ _ _ _ _ .normal (⟨[], [(0, .row 125 2 (o0_0.flatMap encGShield)), (1, .box [.ref 0 2 0 o0_0.length])], 2, [0], 39, 2⟩ : St)
  have e17 : ofTake c l kind shields = o0_0 := by
   unfold ofTake
   try dsimp only
   rewrite [hJ1]
   try dsimp only
   all_goals rfl
  rw [e17]
  exact answersGN [] [] rfl trivial rfl (by (repeat' apply And.intro) <;> first | trivial | rfl | exact flat_len (fun _ => rfl) _ | exact encI_len _ | assumption) (rfl) rfl rfl rfl (by decide) rfl rfl ⟨⟨rfl, rfl⟩, ⟨rfl, rfl⟩, trivial⟩

def shieldsOf (c : GContent) (kind : Int) : List GActive → Nat → List GShield
  | [], _ => []
  | x :: l, k => if (getU c x.Aura).2 = true ∧ (getU c x.Aura).1.Kind = kind then ⟨k, x.Left⟩ :: shieldsOf c kind l (k + 1) else shieldsOf c kind l (k + 1)
theorem ofTake_go (c : GContent) (kind : Int) : ∀ (l : List GActive) (k : Nat) (s : List GShield), ofTake_L0 c kind l k s = s ++ shieldsOf c kind l k
  | [], k, s => by rw [ofTake_L0, shieldsOf]; simp
  | x :: l, k, s => by
    rw [ofTake_L0, shieldsOf]
    have ih := ofTake_go c kind l (k + 1)
    by_cases h1 : (getU c x.Aura).2 = true
    · by_cases h2 : (getU c x.Aura).1.Kind = kind
      · rw [if_pos h1, if_pos h2, if_pos ⟨h1, h2⟩, ih]; simp [takeF]
      · rw [if_pos h1, if_neg h2, if_neg (fun h => h2 h.2), ih]
    · rw [if_neg h1, if_neg (fun h => h1 h.1), ih]
theorem ofTake_is (c : GContent) (kind : Int) (l : List GActive) : ofTake c l kind [] = shieldsOf c kind l 0 := by
  unfold ofTake; rw [ofTake_go]; rfl
theorem shieldsOf_in {c : GContent} {kind : Int} : ∀ {l : List GActive} {k : Nat} {s : GShield}, s ∈ shieldsOf c kind l k → (k : Int) ≤ s.Aura ∧ s.Aura < k + l.length
  | [], k, s, h => by simp [shieldsOf] at h
  | x :: l, k, s, h => by
    rw [shieldsOf] at h
    have ih := @shieldsOf_in c kind l (k + 1) s
    simp only [List.length_cons]
    split at h
    · rcases List.mem_cons.1 h with rfl | h
      · constructor <;> simp only [] <;> omega
      · have := ih h; omega
    · have := ih h; omega
theorem shieldsOf_len {c : GContent} {kind : Int} : ∀ {l : List GActive} {k : Nat}, (shieldsOf c kind l k).length ≤ l.length
  | [], k => by simp [shieldsOf]
  | x :: l, k => by
    rw [shieldsOf]
    have ih := @shieldsOf_len c kind l (k + 1)
    split <;> simp only [List.length_cons] <;> omega
theorem shieldsOf_left {c : GContent} {kind : Int} : ∀ {l : List GActive} {k : Nat} {s : GShield}, s ∈ shieldsOf c kind l k → ∃ x ∈ l, s.Left = x.Left
  | [], k, s, h => by simp [shieldsOf] at h
  | x :: l, k, s, h => by
    rw [shieldsOf] at h
    have ih := @shieldsOf_left c kind l (k + 1) s
    split at h
    · rcases List.mem_cons.1 h with rfl | h
      · exact ⟨x, List.mem_cons_self .., rfl⟩
      · obtain ⟨y, hy, e⟩ := ih h; exact ⟨y, List.mem_cons_of_mem _ hy, e⟩
    · obtain ⟨y, hy, e⟩ := ih h; exact ⟨y, List.mem_cons_of_mem _ hy, e⟩
theorem ofTake_len (c : GContent) (l : List GActive) (kind : Int) (s : List GShield) : (ofTake c l kind s).length ≤ s.length + l.length := by
  unfold ofTake; simp only [ofTake_go, List.length_append]; have := @shieldsOf_len c kind l 0; omega
theorem ofTake_len0 (c : GContent) (l : List GActive) (kind : Int) (s : List GShield) (h : s = []) : (ofTake c l kind s).length ≤ l.length := by
  subst h; have := ofTake_len c l kind []; simpa using this
theorem take_in {c : GContent} {l : List GActive} {n : Int} {k : Nat} {s : GShield} (h : (take14 (ofTake c l 5 []) n).1[k]? = some s) : 0 ≤ s.Aura ∧ s.Aura < l.length := by
  obtain ⟨q, hq, e⟩ := take14_mem _ _ _ (List.mem_of_getElem? h)
  rw [ofTake_is] at hq
  have := shieldsOf_in hq
  rw [e] at this; omega

def take15_L0 : List GShield → Nat → (List GActive) → List GActive
  | [], k0, row0 => row0
  | x0 :: l_, k0, row0 => take15_L0 l_ (k0 + 1) (row0.set x0.Aura.toNat { (row0.getD x0.Aura.toNat default) with Left := x0.Left })
def take15_L1 (c : GContent) (l : List GActive) (n : Int) : List GActive → Nat → (List GActive) → List GActive
  | [], k1, out1 => out1
  | x1 :: l_, k1, out1 => if (k1 : Int) ∈ ((take14 (ofTake c l 5 ([])) n).2.2) then take15_L1 c l n l_ (k1 + 1) out1 else take15_L1 c l n l_ (k1 + 1) (out1 ++ [x1])
def take15 (c : GContent) (l : List GActive) (n : Int) : (List GActive) × Int :=
  (let row_0 := take15_L0 ((take14 (ofTake c l 5 ([])) n).1) 0 l; (let out_1 := take15_L1 c l n row_0 0 ([]); (out_1, (take14 (ofTake c l 5 ([])) n).2.1)))
theorem take15_ok (c : GContent) (l : List GActive) (l_f : Bool) (n : Int) (hl : l.length ≤ 16777215) : Ok Try.prog 45 [aGContent c, .pv (.slc l.length l_f (l.flatMap encGActive)), I n] [] (.tup [.ref 0 6 0 (take15 c l n).1.length, I (take15 c l n).2]) [.row 61 6 ((take15 c l n).1.flatMap encGActive)] [] := by
 refine Ok.len fun hlen => ?_
 have hl_c_Abilities : c.Abilities.length ≤ maxLen := hlen _ (by simp [lensL, lens, lensP])
 have hl_c_Auras : c.Auras.length ≤ maxLen := hlen _ (by simp [lensL, lens, lensP])
 have hl_c_Foes : c.Foes.length ≤ maxLen := hlen _ (by simp [lensL, lens, lensP])
 have hl_c_Map_Wall : c.Map.Wall.length ≤ maxLen := hlen _ (by simp [lensL, lens, lensP])
 have hl_l : l.length ≤ maxLen := hlen _ (by simp [lensL, lens, lensP])
 unfold maxLen at hl_c_Abilities hl_c_Auras hl_c_Foes hl_c_Map_Wall hl_l
 refine ok_of_sem Try.func45 rfl ?_
 show Walks Try.prog _ _ ⟨[(0, aGContent c), (1, .pv (.slc l.length l_f (l.flatMap encGActive))), (2, I n)], [], 0, [], 63, 0⟩
 refine sem_seq (sem_region rfl (step_n (o := .box [_, _, _, _, _, _, _, _, _, _]) (nx' := 1) rfl rfl rfl trivial (step_n (nx' := 2) rfl rfl rfl trivial (step_r rfl rfl trivial (step_nil (seqK_n (sem_seq ?_)))))))
 refine sem_regionS rfl (opsS_cut 1 (j := 0) ?_)
 simp only [List.take_succ_cons, List.take_zero, List.drop_succ_cons, List.drop_zero]
 refine step_n (o := .box [_]) (nx' := 3) rfl rfl rfl trivial (step_nil ?_)
 refine opsS_trans (Trans.virt (T' := [(0, aGContent c), (1, .pv (.slc l.length l_f (l.flatMap encGActive))), (2, I n), (3, .ptr 0 0), (6, .ref 1 6 0 0), (7, I 0), (8, .ptr 2 0)]) (H' := [(2, .box [.ref 3 2 0 0]), (1, .row 61 6 []), (0, .box [.pv (.slc c.Abilities.length false (c.Abilities.flatMap encGAbility)), .pv (.slc c.Auras.length false (c.Auras.flatMap encGAura)), .pv (.slc c.Foes.length false (c.Foes.flatMap encGFoe)), I c.Map.W, I c.Map.H, .pv (.slc c.Map.Wall.length false (encB c.Map.Wall)), I c.Door.X, I c.Door.Y, I c.Lair.X, I c.Lair.Y])]) 125 2 rfl ⟨⟨rfl, rfl⟩, ⟨rfl, rfl⟩, ⟨rfl, rfl⟩, ⟨rfl, rfl⟩, ⟨rfl, rfl⟩, ⟨rfl, rfl⟩, ⟨rfl, rfl⟩, trivial⟩ ⟨⟨rfl, rfl⟩, ⟨rfl, rfl⟩, ⟨rfl, rfl⟩, trivial⟩) ?_
 refine opsS_of (j := 1) ?_
 refine step_nil (seqK_n (sem_seq (sem_region rfl (step_r (v := (.agg [_, _, _, _, _, _, _, _, _, _])) rfl rfl (Nat.le_of_ble_eq_true rfl) (step_r rfl rfl trivial (step_r rfl rfl trivial ?_))))))
 refine step_callV (Hin := [.row _ _ _, .box [.ref 0 _ _ _]]) (out' := .tup []) (H' := [(3, .row _ _ _), (2, .box [_]), (1, .row _ _ _), (0, .box [_, _, _, _, _, _, _, _, _, _])]) (nx' := 4) [3, 2] rfl rfl rfl rfl (.inl rfl) rfl rfl rfl rfl (ofTake_ok c l l_f 5 ([]) (by first | omega | (simp; omega))) rfl (by decide) rfl rfl (.keep rfl (.lose rfl (.keep rfl (.keep rfl .nil)))) (.keep rfl (.keep rfl (.keep rfl (.keep rfl (.keep rfl (.keep rfl (.keep rfl (.keep rfl (.keep rfl (.keep rfl .nil)))))))))) rfl rfl rfl rfl ?_
 have p1 := ofTake_len0 c l 5 _ rfl
 refine step_nil (seqK_n (sem_seq (sem_region rfl (step_r rfl rfl trivial (step_r rfl rfl trivial ?_)))))
 refine step_callJ (Hin := [.row _ _ _]) (out' := .tup [.ref 4 _ _ _, _, .ref 5 _ _ _]) (H' := [(4, .row _ _ _), (5, .row _ _ _), (3, _), (2, _), (1, _), (0, _)]) (nx' := 6) [3] rfl rfl rfl rfl rfl rfl rfl rfl rfl (by (repeat' apply And.intro) <;> first | trivial | rfl | exact flat_len (s := 2) (enc := encGShield) (fun _ => rfl) _ | exact flat_len (fun _ => rfl) _ | exact encI_len _ | exact Nat.le_of_ble_eq_true rfl | assumption) (take14_ok (ofTake c l 5 ([])) false n (by first | assumption | omega | (simp only [List.length_nil, List.length_cons, List.length_append] at *; omega) | (simp; done) | (simp; omega))) rfl (by decide) rfl rfl ⟨encGShield_solid, encI_solid, trivial⟩ rfl rfl rfl rfl ?_
 have p3 := take14_len (ofTake c l 5 ([])) n
 refine step_r rfl rfl trivial (step_r rfl rfl trivial (step_r rfl rfl trivial (step_r rfl rfl trivial (step_r rfl rfl trivial (step_r rfl rfl trivial (step_r rfl rfl trivial (step_nil (seqK_n (sem_seq (sem_region rfl (step_r rfl rfl trivial ?_)))))))))))
 refine step_callN (out' := .ref 6 _ _ _) (H' := [(6, .row _ _ _), (4, _), (5, _), (3, _), (2, _), (1, _), (0, _)]) (nx' := 7) rfl rfl rfl rfl rfl rfl rfl (by (repeat' apply And.intro) <;> first | trivial | rfl | exact flat_len (fun _ => rfl) _ | exact encI_len _ | exact Nat.le_of_ble_eq_true rfl | assumption) (clone_GActive l false (by first | assumption | omega | (simp; omega) | simp_all)) rfl rfl rfl rfl ?_
 refine step_r rfl rfl trivial (step_nil (seqK_n (sem_seq (sem_seq (sem_region rfl (step_r rfl rfl trivial (step_r rfl rfl trivial (step_r rfl rfl trivial (step_nil (seqK_n ?_))))))))))
 refine sem_cutW (fun row_0 : List GActive => (⟨[(10, I (take14 (ofTake c l 5 ([])) n).2.1), (11, .ref 0 1 0 (take14 (ofTake c l 5 ([])) n).2.2.length), (12, .ref 1 6 0 row_0.length)], [(0, .row 3 1 (encI (take14 (ofTake c l 5 ([])) n).2.2)), (1, .row 61 6 (row_0.flatMap encGActive))], 2, [], 63, 0⟩ : St)) (fun row_0 : List GActive => take15_L0 ((take14 (ofTake c l 5 ([])) n).1) 0 l = row_0 ∧ (row_0.length = l.length)) ?_ ?_
 ·refine sem_block ?_
  refine sem_loopT (fun w_ : Nat × (List GActive) => match w_ with | (k0, row0) => (⟨[(10, I (take14 (ofTake c l 5 ([])) n).2.1), (11, .ref 0 1 0 (take14 (ofTake c l 5 ([])) n).2.2.length), (12, .ref 1 6 0 row0.length), (31, .ref 2 2 0 (take14 (ofTake c l 5 ([])) n).1.length), (32, I (take14 (ofTake c l 5 ([])) n).1.length), (33, I k0)], [(0, .row 3 1 (encI (take14 (ofTake c l 5 ([])) n).2.2)), (1, .row 61 6 (row0.flatMap encGActive)), (2, .row 125 2 ((take14 (ofTake c l 5 ([])) n).1.flatMap encGShield))], 3, [], 63, 0⟩ : St)) (fun w_ : Nat × (List GActive) => match w_ with | (k0, row0) => take15_L0 (((take14 (ofTake c l 5 ([])) n).1).drop k0) k0 row0 = take15_L0 ((take14 (ofTake c l 5 ([])) n).1) 0 l ∧ k0 ≤ ((take14 (ofTake c l 5 ([])) n).1).length ∧ row0.length = l.length) (fun w_ : Nat × (List GActive) => match w_ with | (k0, row0) => ((take14 (ofTake c l 5 ([])) n).1).length - k0) (0, l) (⟨rfl, Nat.zero_le _, by first | omega | simp | (simp; omega)⟩) ?_ (fun w_ hh_ => ?_)
  ·exact (Trans.ren [(0, 5), (1, 6), (2, 4), (4, 0), (5, 1), (6, 2)] (by decide +kernel) (by decide +kernel) rfl ⟨⟨rfl, rfl⟩, ⟨rfl, rfl⟩, ⟨rfl, rfl⟩, ⟨rfl, rfl⟩, ⟨rfl, rfl⟩, ⟨rfl, rfl⟩, trivial⟩ ⟨⟨rfl, rfl, rfl⟩, ⟨rfl, rfl, rfl⟩, ⟨rfl, rfl, rfl⟩, trivial⟩ (by decide))
  obtain ⟨k0, row0⟩ := w_
  obtain ⟨hI0, hb0, hv0⟩ := hh_
  show Walks Try.prog _ _ (⟨[(10, I (take14 (ofTake c l 5 ([])) n).2.1), (11, .ref 0 1 0 (take14 (ofTake c l 5 ([])) n).2.2.length), (12, .ref 1 6 0 row0.length), (31, .ref 2 2 0 (take14 (ofTake c l 5 ([])) n).1.length), (32, I (take14 (ofTake c l 5 ([])) n).1.length), (33, I k0)], [(0, .row 3 1 (encI (take14 (ofTake c l 5 ([])) n).2.2)), (1, .row 61 6 (row0.flatMap encGActive)), (2, .row 125 2 ((take14 (ofTake c l 5 ([])) n).1.flatMap encGShield))], 3, [], 63, 0⟩ : St)
  refine sem_seq (sem_region rfl (step_bin rfl rfl rfl rfl rfl trivial (step_nil (seqK_n (sem_seq ?_)))))
  refine sem_cond rfl (fun h6 => ?_) (fun h6 => ?_)
  ·have g6 : (k0 : Int) < ((take14 (ofTake c l 5 ([])) n).1.length) := of_decide_eq_true h6
   have hk0 : k0 < ((take14 (ofTake c l 5 ([])) n).1).length := by omega
   obtain ⟨x0, hx0⟩ : ∃ z_, ((take14 (ofTake c l 5 ([])) n).1)[k0]? = some z_ := ⟨_, List.getElem?_eq_getElem hk0⟩
   have hq0 : 0 ≤ x0.Aura ∧ x0.Aura < l.length := take_in hx0
   refine sem_skip (seqK_n (sem_seq (sem_block (sem_seq (sem_region rfl (step_idxR (k := k0) rfl rfl rfl rfl hk0 rfl ?_))))))
   refine step_load_rowR rfl rfl rfl rfl (flat_lt (s := 2) (enc := encGShield) (fun _ => rfl) hk0) (flat_take (s := 2) (enc := encGShield) (fun _ => rfl) hx0) rfl ?_
   refine step_n (o := .box [_, _]) (nx' := 4) rfl rfl rfl trivial ?_
   refine step_storeB (H' := [(3, .box [_, _]), (0, _), (1, _), (2, _)]) rfl rfl rfl rfl rfl rfl (.inl rfl) rfl ?_
   refine step_nil (seqK_n (sem_region rfl (step_r rfl rfl trivial (step_r rfl rfl (by decide) (step_r rfl rfl trivial (step_r rfl rfl (by decide) (step_r rfl rfl trivial ?_)))))))
   have jk7 : x0.Aura.toNat < row0.length := by first | assumption | omega | (simp only [List.length_set, List.length_append]; omega) | (simp only [IntKind.wrap_i64] at *; omega) | (simp; omega) | simp_all
   refine step_idxR' (k := x0.Aura.toNat) rfl rfl (Int.toNat_of_nonneg (by first | omega | (simp only [IntKind.wrap_i64]; omega) | (simp only [IntKind.wrap_i64] at *; omega) | (simp; omega))).symm rfl rfl jk7 rfl ?_
   refine step_r rfl rfl (by decide) ?_
   refine step_storeR rfl rfl rfl rfl (by first | decide | (have := flat_lt (s := 6) (enc := encGActive) (fun _ => rfl) jk7; show x0.Aura.toNat * 6 + 5 < _; omega)) (flat_set (enc := encGActive) (s := 6) (y := { (row0.getD x0.Aura.toNat default) with Left := x0.Left }) (fun _ => rfl) (get_getD jk7) (by decide) rfl) (.inl rfl) rfl ?_
   refine step_nil (blkK_n (seqK_n (sem_region rfl (step_bin rfl rfl rfl rfl rfl trivial (step_r rfl rfl trivial (step_nil ?_))))))
   have e9 : take15_L0 (((take14 (ofTake c l 5 ([])) n).1).drop k0) k0 row0 = take15_L0 (((take14 (ofTake c l 5 ([])) n).1).drop (k0 + 1)) (k0 + 1) (row0.set x0.Aura.toNat { (row0.getD x0.Aura.toNat default) with Left := x0.Left }) := by
    rewrite [drop_cons hx0]
    rewrite [take15_L0]
    try dsimp only
    all_goals rfl
   exact lup_againT (k0 + 1, (row0.set x0.Aura.toNat { (row0.getD x0.Aura.toNat default) with Left := x0.Left })) ⟨e9.symm.trans hI0, hk0, by first | omega | assumption | (simp only [List.length_append, List.length_cons, List.length_nil, List.length_set]; omega) | (simp; omega) | grind⟩ (by show ((take14 (ofTake c l 5 ([])) n).1).length - (k0 + 1) < ((take14 (ofTake c l 5 ([])) n).1).length - k0; omega) (Trans.ren [] (by decide +kernel) (by decide +kernel) rfl ⟨⟨rfl, rfl⟩, ⟨rfl, rfl⟩, ⟨congrArg (fun n => some (AV.ref 1 6 0 n)) (by first | rfl | simp only [List.length_set] | simp | omega | (simp; omega)), rfl⟩, ⟨rfl, rfl⟩, ⟨rfl, rfl⟩, ⟨congrArg (fun n => some (I n)) (wrapI (k := k0) (by first | omega | (simp; omega))), rfl⟩, trivial⟩ ⟨⟨rfl, rfl, rfl⟩, ⟨rfl, rfl, rfl⟩, ⟨rfl, rfl, rfl⟩, trivial⟩ (by decide))
  ·have g6 : ¬ ((k0 : Int) < ((take14 (ofTake c l 5 ([])) n).1.length)) := of_decide_eq_false h6
   have hk0 : k0 = ((take14 (ofTake c l 5 ([])) n).1).length := by omega
   refine sem_exit (seqK_e (lupK_e (blkK_t rfl ?_)))
   have e10 : take15_L0 ((take14 (ofTake c l 5 ([])) n).1) 0 l = row0 := by
    rewrite [← hI0, hk0, List.drop_length]
    rewrite [take15_L0]
    try dsimp only
    all_goals rfl
   exact cutW_n row0 ⟨e10, by first | assumption | omega | (simp; omega) | simp_all | grind⟩ (Trans.ren [] (by decide +kernel) (by decide +kernel) rfl ⟨⟨rfl, rfl⟩, ⟨rfl, rfl⟩, ⟨rfl, rfl⟩, trivial⟩ ⟨⟨rfl, rfl, rfl⟩, ⟨rfl, rfl, rfl⟩, trivial⟩ (by decide))
 ·rintro row_0 ⟨(hJ5 : take15_L0 ((take14 (ofTake c l 5 ([])) n).1) 0 l = row_0), hE0⟩
  show seqK _ _ _ .normal (⟨[(10, I (take14 (ofTake c l 5 ([])) n).2.1), (11, .ref 0 1 0 (take14 (ofTake c l 5 ([])) n).2.2.length), (12, .ref 1 6 0 row_0.length)], [(0, .row 3 1 (encI (take14 (ofTake c l 5 ([])) n).2.2)), (1, .row 61 6 (row_0.flatMap encGActive))], 2, [], 63, 0⟩ : St)
  refine seqK_n (sem_seq (sem_region rfl (step_n (nx' := 3) rfl rfl rfl trivial (step_nil (seqK_n (sem_seq (sem_seq (sem_region rfl (step_r rfl rfl trivial (step_r rfl rfl trivial (step_r rfl rfl trivial ?_)))))))))))
  refine step_nil (seqK_n ?_)
  refine sem_cutW (fun out_1 : List GActive => (⟨[(10, I (take14 (ofTake c l 5 ([])) n).2.1), (15, .ref 0 6 0 out_1.length)], [(0, .row 61 6 (out_1.flatMap encGActive))], 1, [], 63, 0⟩ : St)) (fun w_ => take15_L1 c l n row_0 0 ([]) = w_) ?_ ?_
  ·refine sem_block ?_
   refine sem_loopT (fun w_ : Nat × (List GActive) => match w_ with | (k1, out1) => (⟨[(10, I (take14 (ofTake c l 5 ([])) n).2.1), (11, .ref 0 1 0 (take14 (ofTake c l 5 ([])) n).2.2.length), (15, .ref 1 6 0 out1.length), (45, .ref 2 6 0 row_0.length), (46, I row_0.length), (47, I k1)], [(0, .row 3 1 (encI (take14 (ofTake c l 5 ([])) n).2.2)), (1, .row 61 6 (out1.flatMap encGActive)), (2, .row 61 6 (row_0.flatMap encGActive))], 3, [], 63, 0⟩ : St)) (fun w_ : Nat × (List GActive) => match w_ with | (k1, out1) => take15_L1 c l n (row_0.drop k1) k1 out1 = take15_L1 c l n row_0 0 ([]) ∧ k1 ≤ row_0.length ∧ out1.length ≤ k1) (fun w_ : Nat × (List GActive) => match w_ with | (k1, out1) => row_0.length - k1) (0, []) (⟨rfl, Nat.zero_le _, by first | omega | simp | (simp; omega)⟩) ?_ (fun w_ hh_ => ?_)
   ·exact (Trans.ren [(1, 2), (2, 1)] (by decide +kernel) (by decide +kernel) rfl ⟨⟨rfl, rfl⟩, ⟨rfl, rfl⟩, ⟨congrArg (fun n => some (AV.ref 2 6 0 n)) (by first | rfl | simp only [List.length_set] | simp | omega | (simp; omega)), rfl⟩, ⟨rfl, rfl⟩, ⟨rfl, rfl⟩, ⟨rfl, rfl⟩, trivial⟩ ⟨⟨rfl, rfl, rfl⟩, ⟨rfl, rfl, rfl⟩, ⟨rfl, rfl, rfl⟩, trivial⟩ (by decide))
   obtain ⟨k1, out1⟩ := w_
   obtain ⟨hI1, hb1, hv1⟩ := hh_
   show Walks Try.prog _ _ (⟨[(10, I (take14 (ofTake c l 5 ([])) n).2.1), (11, .ref 0 1 0 (take14 (ofTake c l 5 ([])) n).2.2.length), (15, .ref 1 6 0 out1.length), (45, .ref 2 6 0 row_0.length), (46, I row_0.length), (47, I k1)], [(0, .row 3 1 (encI (take14 (ofTake c l 5 ([])) n).2.2)), (1, .row 61 6 (out1.flatMap encGActive)), (2, .row 61 6 (row_0.flatMap encGActive))], 3, [], 63, 0⟩ : St)
   refine sem_seq (sem_region rfl (step_bin rfl rfl rfl rfl rfl trivial (step_nil (seqK_n (sem_seq ?_)))))
   refine sem_cond rfl (fun h12 => ?_) (fun h12 => ?_)
   ·have g12 : (k1 : Int) < row_0.length := of_decide_eq_true h12
    have hk1 : k1 < row_0.length := by omega
    obtain ⟨x1, hx1⟩ : ∃ z_, row_0[k1]? = some z_ := ⟨_, List.getElem?_eq_getElem hk1⟩
    refine sem_skip (seqK_n (sem_seq (sem_block (sem_seq (sem_region rfl (step_r rfl rfl trivial (step_idxR (k := k1) rfl rfl rfl rfl hk1 rfl ?_)))))))
    refine step_load_rowR rfl rfl rfl rfl (flat_lt (s := 6) (enc := encGActive) (fun _ => rfl) hk1) (flat_take (s := 6) (enc := encGActive) (fun _ => rfl) hx1) rfl ?_
    refine step_n (o := .box [_, _, _, _, _, _]) (nx' := 4) rfl rfl rfl trivial (step_r rfl rfl trivial ?_)
    refine step_storeB (H' := [(3, .box [_, _, _, _, _, _]), (0, _), (1, _), (2, _)]) rfl rfl rfl rfl rfl rfl (.inl rfl) rfl ?_
    refine step_nil (seqK_n (sem_seq (sem_region rfl (step_r rfl rfl trivial (step_r rfl rfl trivial ?_)))))
    refine step_callJ (Hin := [.row _ _ _]) (H' := [(3, _), (0, _), (1, _), (2, _)]) (nx' := 4) [0] rfl rfl rfl rfl rfl rfl rfl rfl rfl (by (repeat' apply And.intro) <;> first | trivial | rfl | exact flat_len (fun _ => rfl) _ | exact encI_len _ | exact Nat.le_of_ble_eq_true rfl | assumption) (has_Int ((take14 (ofTake c l 5 ([])) n).2.2) false k1) rfl (by decide) rfl rfl trivial rfl rfl rfl rfl ?_
    refine step_r rfl rfl trivial (step_nil (seqK_n ?_))
    refine sem_cond rfl (fun h14 => ?_) (fun h14 => ?_)
    ·have g14 : ¬ ((k1 : Int) ∈ ((take14 (ofTake c l 5 ([])) n).2.2)) := of_decide_eq_false (not_t h14)
     refine sem_region rfl (step_r rfl rfl trivial (step_r (v := (.agg [_, _, _, _, _, _])) rfl rfl (Nat.le_of_ble_eq_true rfl) (step_n (o := .row _ _ [_, _, _, _, _, _]) (nx' := 5) rfl rfl rfl (by decide) ?_)))
     refine step_appendC (m := 1) (new := [_, _, _, _, _, _]) (cs' := (out1 ++ [x1]).flatMap encGActive) (n' := (out1 ++ [x1]).length) (H' := [(4, .row _ _ _), (3, .box [_, _, _, _, _, _]), (0, .row _ _ _), (1, .row _ _ _), (2, .row _ _ _)]) rfl rfl rfl (rfl) rfl rfl rfl rfl rfl rfl (flat_len (s := 6) (enc := encGActive) (fun _ => rfl) out1) (rfl) (by first | decide | (unfold maxGrow; omega) | (unfold maxGrow; simp; omega) | (unfold maxGrow; simp only [List.length_append, List.length_take, List.length_drop, List.length_cons, List.length_nil, IntKind.wrap_i64] at *; omega)) (len_snoc out1 _) (((flat_snoc (enc := encGActive) (l := out1) x1)).symm) (.inl rfl) rfl rfl (.keep rfl (.keep rfl (.keep rfl (.keep rfl (.keep rfl .nil))))) (.keep rfl (.keep rfl (.lose (v' := .undef) rfl (.keep rfl (.keep rfl (.keep rfl (.keep rfl (.keep rfl (.keep rfl (.keep rfl (.keep rfl (.keep rfl (.keep rfl (.keep rfl (.keep rfl (.lose (v' := .undef) rfl (.keep rfl (.keep rfl (.keep rfl .nil))))))))))))))))))) ?_
     refine step_r rfl rfl trivial (step_nil (blkK_n (seqK_n (sem_region rfl (step_bin rfl rfl rfl rfl rfl trivial (step_r rfl rfl trivial (step_nil ?_)))))))
     have e16 : take15_L1 c l n (row_0.drop k1) k1 out1 = take15_L1 c l n (row_0.drop (k1 + 1)) (k1 + 1) (out1 ++ [x1]) := by
      rewrite [drop_cons hx1]
      rewrite [take15_L1]
      try dsimp only
      rewrite [if_neg g14]
      all_goals rfl
     exact lup_againT (k1 + 1, (out1 ++ [x1])) ⟨e16.symm.trans hI1, hk1, by first | omega | assumption | (simp only [List.length_append, List.length_cons, List.length_nil, List.length_set]; omega) | (simp; omega) | grind⟩ (by show row_0.length - (k1 + 1) < row_0.length - k1; omega) (Trans.ren [] (by decide +kernel) (by decide +kernel) rfl ⟨⟨rfl, rfl⟩, ⟨rfl, rfl⟩, ⟨rfl, rfl⟩, ⟨rfl, rfl⟩, ⟨rfl, rfl⟩, ⟨congrArg (fun n => some (I n)) (wrapI (k := k1) (by first | omega | (simp; omega))), rfl⟩, trivial⟩ ⟨⟨rfl, rfl, rfl⟩, ⟨rfl, rfl, rfl⟩, ⟨rfl, rfl, rfl⟩, trivial⟩ (by decide))
    ·have g14 : (k1 : Int) ∈ ((take14 (ofTake c l 5 ([])) n).2.2) := of_decide_eq_true (not_f h14)
     refine sem_skip (blkK_n (seqK_n (sem_region rfl (step_bin rfl rfl rfl rfl rfl trivial (step_r rfl rfl trivial (step_nil ?_))))))
     have e18 : take15_L1 c l n (row_0.drop k1) k1 out1 = take15_L1 c l n (row_0.drop (k1 + 1)) (k1 + 1) out1 := by
      rewrite [drop_cons hx1]
      rewrite [take15_L1]
      try dsimp only
      rewrite [if_pos g14]
      all_goals rfl
     exact lup_againT (k1 + 1, out1) ⟨e18.symm.trans hI1, hk1, by first | omega | assumption | (simp only [List.length_append, List.length_cons, List.length_nil, List.length_set]; omega) | (simp; omega) | grind⟩ (by show row_0.length - (k1 + 1) < row_0.length - k1; omega) (Trans.ren [] (by decide +kernel) (by decide +kernel) rfl ⟨⟨rfl, rfl⟩, ⟨rfl, rfl⟩, ⟨rfl, rfl⟩, ⟨rfl, rfl⟩, ⟨rfl, rfl⟩, ⟨congrArg (fun n => some (I n)) (wrapI (k := k1) (by first | omega | (simp; omega))), rfl⟩, trivial⟩ ⟨⟨rfl, rfl, rfl⟩, ⟨rfl, rfl, rfl⟩, ⟨rfl, rfl, rfl⟩, trivial⟩ (by decide))
   ·have g12 : ¬ ((k1 : Int) < row_0.length) := of_decide_eq_false h12
    have hk1 : k1 = row_0.length := by omega
    refine sem_exit (seqK_e (lupK_e (blkK_t rfl ?_)))
    have e19 : take15_L1 c l n row_0 0 ([]) = out1 := by
     rewrite [← hI1, hk1, List.drop_length]
     rewrite [take15_L1]
     try dsimp only
     all_goals rfl
    exact cutW_n out1 e19 (Trans.ren [(0, 1), (1, 0)] (by decide +kernel) (by decide +kernel) rfl ⟨⟨rfl, rfl⟩, ⟨rfl, rfl⟩, trivial⟩ ⟨⟨rfl, rfl, rfl⟩, trivial⟩ (by decide))
  ·rintro out_1 (hJ11 : take15_L1 c l n row_0 0 ([]) = out_1)
   show seqK _ _ _ .normal (⟨[(10, I (take14 (ofTake c l 5 ([])) n).2.1), (15, .ref 0 6 0 out_1.length)], [(0, .row 61 6 (out_1.flatMap encGActive))], 1, [], 63, 0⟩ : St)
   refine seqK_n (sem_seq (sem_region rfl (step_r rfl rfl trivial (step_r rfl rfl trivial (step_r rfl rfl trivial (step_r rfl rfl trivial (step_nil (seqK_n (sem_ret ?_)))))))))
   have e21 : take15 c l n = (out_1, (take14 (ofTake c l 5 ([])) n).2.1) := by
    unfold take15
    try dsimp only
    rewrite [hJ5]
    try dsimp only
    rewrite [hJ11]
    try dsimp only
    all_goals rfl
   rw [e21]
   exact answersGR [] [0] rfl ⟨trivial, trivial, trivial⟩ rfl (by (repeat' apply And.intro) <;> first | trivial | rfl | exact flat_len (fun _ => rfl) _ | exact encI_len _ | assumption) (rfl) rfl rfl rfl (by decide) rfl rfl ⟨⟨rfl, rfl⟩, trivial⟩

theorem take15_L1_len (c : GContent) (l : List GActive) (n : Int) : ∀ (r : List GActive) (k : Nat) (out : List GActive), (take15_L1 c l n r k out).length ≤ out.length + r.length
  | [], k, out => by rw [take15_L1]; simp
  | x :: r, k, out => by
    rw [take15_L1]
    split
    · have h := take15_L1_len c l n r (k + 1) out
      simp only [List.length_cons] at h ⊢; omega
    · have h := take15_L1_len c l n r (k + 1) (out ++ [x])
      simp only [List.length_cons, List.length_append, List.length_nil] at h ⊢; omega
theorem take15_L0_len : ∀ (s : List GShield) (k : Nat) (r : List GActive), (take15_L0 s k r).length = r.length
  | [], k, r => by rw [take15_L0]
  | x :: s, k, r => by rw [take15_L0, take15_L0_len s]; simp
theorem take15_len (c : GContent) (l : List GActive) (n : Int) : (take15 c l n).1.length ≤ l.length := by
  unfold take15
  have h := take15_L1_len c l n (take15_L0 (take14 (ofTake c l 5 []) n).1 0 l) 0 []
  rw [take15_L0_len] at h
  simpa using h
end Go.Proofs.Ytmijbjpdjggppaa

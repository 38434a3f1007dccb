import Derived.Test.YtkaikflohpbcnaaFair21
namespace Go.Proofs.Ytkaikflohpbcnaa
open Go Go.RowKit Go.Proofs.YtkaikflohpbcnaaVm
attribute [local irreducible] opsWp AnswersE OpsS
set_option maxHeartbeats 400000
set_option maxRecDepth 100000
set_option linter.all false
theorem getD_some {α : Type} [Inhabited α] {l : List α} {k : Nat} {x : α} (h : l[k]? = some x) : l.getD k default = x := by rw [List.getD_eq_getElem?_getD, h]; rfl
theorem fair21_go0 {d : GDrop} {words : List Int} (hn : d.Units.Nodup) (hl : d.Choices.length = d.Units.length) : ∀ (l : List Int) (k : Nat) (M W : Int), l = d.Units.drop k →
    (∀ i, i < k → d.Units[i]? = some (awardD d words).1 → d.Choices.getD i default = M) → (∀ i, i < k → d.Choices.getD i default ≤ W) → (W = 0 ∨ ∃ i, i < k ∧ i < d.Units.length ∧ W = d.Choices.getD i default) →
    (∀ i, i < d.Units.length → d.Units[i]? = some (awardD d words).1 → d.Choices.getD i default = (fair21_L0 d words l k M W).1) ∧ (∀ i, i < d.Units.length → d.Choices.getD i default ≤ (fair21_L0 d words l k M W).2) ∧ ((fair21_L0 d words l k M W).2 = 0 ∨ ∃ i, i < d.Units.length ∧ (fair21_L0 d words l k M W).2 = d.Choices.getD i default)
  | [], k, M, W, h, h1, h2, h3 => by
    rw [fair21_L0]
    have hk : d.Units.length ≤ k := List.drop_eq_nil_iff.1 h.symm
    exact ⟨fun i hi => h1 i (by omega), fun i hi => h2 i (by omega), h3.imp id fun ⟨i, _, h4, h5⟩ => ⟨i, h4, h5⟩⟩
  | x :: l, k, M, W, h, h1, h2, h3 => by
    have hk : k < d.Units.length := by
      rcases Nat.lt_or_ge k d.Units.length with h' | h'
      · exact h'
      · rw [List.drop_of_length_le h'] at h; cases h
    rw [List.drop_eq_getElem_cons hk] at h
    injection h with e1 e2
    have hx : d.Units[k]? = some x := by rw [List.getElem?_eq_getElem hk, e1]
    rw [fair21_L0]
    refine fair21_go0 hn hl l (k + 1) _ _ e2 (fun i hi hu => ?_) (fun i hi => ?_) ?_
    · unfold fair21_J108
      by_cases hxu : x = (awardD d words).1
      · rw [if_pos hxu]
        rw [← hxu] at hu
        rw [nodup_at hn hu hx]
      · rw [if_neg hxu]
        have hne : i ≠ k := fun e => by subst e; rw [hx] at hu; exact hxu (Option.some.inj hu)
        exact h1 i (by omega) hu
    · by_cases e : i = k
      · subst e; exact Int.le_max_right _ _
      · exact Int.le_trans (h2 i (by omega)) (Int.le_max_left _ _)
    · rcases Int.le_total W (d.Choices.getD k default) with h6 | h6
      · rw [Int.max_eq_right h6]; exact .inr ⟨k, by omega, hk, rfl⟩
      · rw [Int.max_eq_left h6]
        exact h3.imp id fun ⟨i, a, b, c⟩ => ⟨i, by omega, b, c⟩
theorem fair21_go2 {d : GDrop} {words : List Int} (f : Fair d words) (hb : 1 < (bestD d).length) {i1 : Int} (h0 : 0 ≤ i1) (h1 : i1 < (bestD d).length) : ∀ (n : Nat) (j : Int), 0 ≤ j → j ≤ (rollM words (bestD d).length).1.length → (rollM words (bestD d).length).1.length - j < n → fair21_L2 d words i1 n j = .inr ()
  | 0, j, _, h', h => by omega
  | n + 1, j, hj, _, h => by
    obtain ⟨r1, r2, r3, r4, kb, z, q1, q2, q3, q4⟩ := f.roll hb
    rw [fair21_L2]
    by_cases c1 : j < (rollM words (bestD d).length).1.length
    case neg => rw [if_neg c1]
    rw [if_pos c1]
    have ew : IntKind.i64.wrap (j + 1) = j + 1 := by have := @rollM_le words (bestD d).length; simp only [IntKind.wrap_i64]; omega
    by_cases c2 : (bestD d).getD i1.toNat default = (awardD d words).1
    case neg => rw [if_neg c2]
    rw [if_pos c2]
    have hik : i1.toNat = kb := by
      have : (bestD d)[i1.toNat]? = some (awardD d words).1 := by
        rw [← c2, List.getD_eq_getElem?_getD, List.getElem?_eq_getElem (by omega : i1.toNat < (bestD d).length)]; rfl
      exact nodup_at best_nodup this q1
    have ez : (rollM words (bestD d).length).1.getD i1.toNat default = z := by rw [hik]; exact getD_some q2
    have hjl : j.toNat < (rollM words (bestD d).length).1.length := by omega
    have ej : (rollM words (bestD d).length).1.getD j.toNat default = (rollM words (bestD d).length).1[j.toNat] := getD_some (List.getElem?_eq_getElem hjl)
    have hm := q3 _ (List.getElem_mem hjl)
    rw [ez, ej, ew, if_neg (by omega)]
    have ih := fair21_go2 f hb h0 h1 n (j + 1) (by omega) (by omega) (by omega)
    by_cases c3 : (rollM words (bestD d).length).1[j.toNat] = z
    · rw [if_pos c3]
      have hlt : ¬ j < i1 := fun hlt => by
        have : (rollM words (bestD d).length).1[j.toNat] ∈ (rollM words (bestD d).length).1.take kb := by
          rw [List.mem_take_iff_getElem]
          exact ⟨j.toNat, by omega, rfl⟩
        have := q4 _ this
        omega
      rw [if_neg hlt]; exact ih
    · rw [if_neg c3]; exact ih
theorem fair21_go1 {d : GDrop} {words : List Int} (f : Fair d words) : ∀ (n : Nat) (i1 : Int), 0 ≤ i1 → (bestD d).length - i1 < n → fair21_L1 d words (n + 1) i1 = .inr ()
  | n, i1, h0, h => by
    rw [fair21_L1]
    by_cases c1 : i1 < (bestD d).length
    case neg => rw [if_neg c1]
    rw [if_pos c1]
    by_cases c2 : ((bestD d).length : Int) > 1
    case neg => rw [if_neg c2]
    rw [if_pos c2]
    have hb : 1 < (bestD d).length := by omega
    obtain ⟨r1, r2, r3, r4, _⟩ := f.roll hb
    have hl := @rollM_le words (bestD d).length
    have hil : i1.toNat < (rollM words (bestD d).length).1.length := by omega
    have ei : (rollM words (bestD d).length).1.getD i1.toNat default = (rollM words (bestD d).length).1[i1.toNat] := getD_some (List.getElem?_eq_getElem hil)
    have hm := r4 _ (List.getElem_mem hil)
    have ew : IntKind.i64.wrap (i1 + 1) = i1 + 1 := by simp only [IntKind.wrap_i64]; omega
    rw [if_pos r1, if_pos r2, if_neg (by omega), ei, if_neg (by omega), if_neg (by omega), fair21_go2 f hb h0 c1 200 0 (Int.le_refl _) (by omega) (by omega), ew]
    match n, h with
    | n + 1, h => exact fair21_go1 f n (i1 + 1) (by omega) (by omega)
    | 0, h => omega
theorem fair21_true (d : GDrop) (words more : List Int) : fair21 d words more = true := by
  unfold fair21
  by_cases h1 : d.Units.length ≤ 100 ∧ d.Choices.length ≤ 100
  case neg => rw [if_neg h1]
  rw [if_pos h1]
  by_cases h2 : (words.length : Int) > 2048
  case pos => rw [if_pos h2]
  rw [if_neg h2]
  by_cases h3 : (more.length : Int) > 2048
  case pos => rw [if_pos h3]
  rw [if_neg h3]
  by_cases hr : rightD d
  case neg => rw [if_neg hr]
  rw [if_pos hr]
  have hl := hr.2.2.2.1
  have hbl := bestD_len d
  obtain ⟨_, hn, hc⟩ := rises_get hr.2.2.2.2 hl.symm
  rcases award_fair (d := d) (ws := words) with ⟨a1, a2, a3, a4⟩ | ⟨a1, f⟩
  · rw [a1, if_neg (by decide)]
    unfold fair21_J53
    rw [a2, a3, if_pos rfl, if_pos rfl]
    exact decide_eq_true (by omega)
  · rw [if_pos a1, if_neg (by have := f.n0; omega), if_neg (by have := f.n1; omega), f.again more, if_pos rfl, if_pos rfl, if_pos a1]
    obtain ⟨g1, g2, g3⟩ := fair21_go0 (words := words) hn (by omega) d.Units 0 0 0 (by simp) (fun i hi => by omega) (fun i hi => by omega) (.inl rfl)
    generalize fair21_L0 d words d.Units 0 0 0 = q at *
    obtain ⟨M, W⟩ := q
    dsimp only at g1 g2 g3 ⊢
    have hW : W = 0 ∨ W ∈ d.Choices := g3.imp id fun ⟨i, hi, e⟩ => by
      rw [e, List.getD_eq_getElem?_getD, List.getElem?_eq_getElem (by omega : i < d.Choices.length)]
      exact List.getElem_mem _
    by_cases h0 : (awardD d words).1 = 0
    · rw [if_pos h0]
      have hb := best_none hr (f.none h0)
      rcases hW with e | e
      · rw [e]; rfl
      · have := hb _ e; simp; omega
    · rw [if_neg h0, fair21_go1 f 199 0 (Int.le_refl _) (by omega)]
      dsimp only
      obtain ⟨b1, i, c, b2, b3, b4, b5⟩ := best_some (f.mem h0)
      have hi := (List.getElem?_eq_some_iff.1 b2).1
      have eM : M = c := by rw [← g1 i hi b2]; exact getD_some b3
      have hcW : c ≤ W := by have := g2 i hi; rwa [getD_some b3] at this
      have eW : W = c := by
        rcases hW with e | e
        · omega
        · have := b5 _ e; omega
      rw [eM, eW, if_pos rfl]
      simp; omega
theorem fair21_yes (d : GDrop) (words : List Int) (words_f : Bool) (more : List Int) (more_f : Bool) : Ok Try.prog 5 [aGDrop d, .pv (.slc words.length words_f (encI words)), .pv (.slc more.length more_f (encI more))] [] (B true) [] [] := by
  have h := fair21_ok d words words_f more more_f
  rwa [fair21_true d words more] at h

end Go.Proofs.Ytkaikflohpbcnaa

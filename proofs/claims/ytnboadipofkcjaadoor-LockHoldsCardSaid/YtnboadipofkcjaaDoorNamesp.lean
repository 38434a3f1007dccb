import Derived.Test.YtnboadipofkcjaaDoorNames
namespace Go.Proofs.YtnboadipofkcjaaDoor
open Go Go.RowKit Go.Proofs.YtnboadipofkcjaaDoorVm
attribute [local irreducible] opsWp AnswersE OpsS
set_option maxHeartbeats 400000
set_option maxRecDepth 100000
set_option linter.all false
/-! names -/
theorem isLet_is : ∀ c : UInt8, isLet c = (decide (c.toNat = 45) || (decide (48 ≤ c.toNat) && decide (c.toNat ≤ 57)) || (decide (65 ≤ c.toNat) && decide (c.toNat ≤ 90)) || (decide (97 ≤ c.toNat) && decide (c.toNat ≤ 122))) := by
  have h : ∀ n : Fin 256, isLet (UInt8.ofNat n.1) = (decide (n.1 = 45) || (decide (48 ≤ n.1) && decide (n.1 ≤ 57)) || (decide (65 ≤ n.1) && decide (n.1 ≤ 90)) || (decide (97 ≤ n.1) && decide (n.1 ≤ 122))) := by decide +kernel
  intro c
  have := h ⟨c.toNat, c.toNat_lt⟩
  simpa using this
theorem contains_is (c : UInt8) : contains c = isLet c := rfl
theorem trimL_L0_nil : ∀ (f : Nat) (s : List UInt8), s.length < f → (trimL_L0 f s = [] ↔ ∀ c ∈ s, isLet c = true)
  | 0, s, h => by omega
  | f + 1, [], h => by simp [trimL_L0]
  | f + 1, c :: s, h => by
    rw [trimL_L0, if_pos (by simp)]
    simp only [List.getD_cons_zero, List.drop_succ_cons, List.drop_zero, contains_is]
    split
    · rename_i h1
      rw [trimL_L0_nil f s (by simpa using h)]
      simp [h1]
    · rename_i h1
      simp [h1]
theorem trimR_L0_all : ∀ (f : Nat) (s : List UInt8), s.length < f → s.length ≤ 24 → ((∀ c ∈ trimR_L0 f s, isLet c = true) ↔ ∀ c ∈ s, isLet c = true)
  | 0, s, h, _ => by omega
  | f + 1, s, h, h24 => by
    rw [trimR_L0]
    split
    · rename_i h0
      have e : (IntKind.i64.wrap ((s.length : Int) - 1)).toNat = s.length - 1 := by rw [IntKind.wrap_i64]; omega
      rw [e]
      split
      · rename_i h1
        rw [trimR_L0_all f _ (by rw [List.length_take]; omega) (by rw [List.length_take]; omega)]
        have hlt : s.length - 1 < s.length := by omega
        have e2 : s = s.take (s.length - 1) ++ [s.getD (s.length - 1) 0] := by
          have := List.take_append_drop (s.length - 1) s
          rw [List.drop_eq_getElem_cons hlt] at this
          rw [List.getD_eq_getElem?_getD, List.getElem?_eq_getElem hlt, Option.getD_some]
          conv => lhs; rw [← this]
          congr 2
          exact List.drop_eq_nil_of_le (by omega)
        constructor
        · intro h2 c hc
          rw [e2] at hc
          rcases List.mem_append.1 hc with h3 | h3
          · exact h2 c h3
          · rw [List.mem_singleton.1 h3]; exact h1
        · intro h2 c hc
          exact h2 c (List.mem_of_mem_take hc)
      · exact Iff.rfl
    · exact Iff.rfl
theorem nameC_iff (s : List UInt8) : nameC s = true ↔ (s ≠ [] ∧ s.length ≤ 24 ∧ ∀ c ∈ s, isLet c = true) := by
  unfold nameC
  split
  · rename_i h; simp [h]
  · rename_i h
    split
    · rename_i h1
      have h2 : s.length ≤ 24 := by omega
      have e : trim s = trimL (trimR s) := by
        unfold trim
        rw [if_neg h, if_neg (by simp [letters])]
      have h3 := trimR_len s
      rw [e, beq_iff_eq]
      show trimL_L0 _ (trimR s) = [] ↔ _
      rw [trimL_L0_nil _ _ (by omega)]
      show (∀ c ∈ trimR_L0 _ s, _) ↔ _
      rw [trimR_L0_all _ _ (by omega) h2]
      simp [h, h2]
    · rename_i h1
      simp only [Bool.false_eq_true, false_iff]
      rintro ⟨_, h2, _⟩
      omega
theorem nameR_L0_iff (s : List UInt8) : ∀ (n k : Nat), k + n = s.length → (nameR_L0 s n k = .inr () ↔ ∀ c ∈ s.drop k, isLet c = true) ∧ (nameR_L0 s n k ≠ .inr () → nameR_L0 s n k = .inl false)
  | 0, k, h => by
    rw [nameR_L0, List.drop_eq_nil_of_le (by omega)]; simp
  | n + 1, k, h => by
    have hk : k < s.length := by omega
    have ih := nameR_L0_iff s n (k + 1) (by omega)
    have e : s.drop k = s.getD k 0 :: s.drop (k + 1) := by
      rw [List.drop_eq_getElem_cons hk, List.getD_eq_getElem?_getD, List.getElem?_eq_getElem hk, Option.getD_some]
    have hl := isLet_is (s.getD k 0)
    rw [nameR_L0, e]
    generalize s.getD k 0 = c at hl ⊢
    simp only [List.mem_cons, forall_eq_or_imp]
    by_cases hc : isLet c = true
    · have hgo : ∀ X : Sum Bool Unit, X = nameR_L0 s n (k + 1) → ((X = .inr () ↔ isLet c = true ∧ ∀ a ∈ s.drop (k + 1), isLet a = true) ∧ (X ≠ .inr () → X = .inl false)) := by
        rintro X rfl; simpa [hc] using ih
      rw [hc] at hl
      apply hgo
      have hl' := hl.symm
      simp only [Bool.or_eq_true, Bool.and_eq_true, decide_eq_true_eq] at hl'
      repeat' split
      all_goals first | rfl | (exfalso; omega)
    · have hgo : ∀ X : Sum Bool Unit, X = .inl false → ((X = .inr () ↔ isLet c = true ∧ ∀ a ∈ s.drop (k + 1), isLet a = true) ∧ (X ≠ .inr () → X = .inl false)) := by
        rintro X rfl; simp [hc]
      rw [Bool.eq_false_iff.2 hc] at hl
      apply hgo
      have hl' := hl.symm
      simp only [Bool.or_eq_false_iff, Bool.and_eq_false_iff, decide_eq_false_iff_not] at hl'
      repeat' split
      all_goals first | rfl | (exfalso; omega)
theorem nameR_iff (s : List UInt8) : nameR s = true ↔ (s ≠ [] ∧ s.length ≤ 24 ∧ ∀ c ∈ s, isLet c = true) := by
  have h := nameR_L0_iff s (s.length - 0) 0 (by omega)
  rw [List.drop_zero] at h
  unfold nameR
  split
  · rename_i r hr
    have h2 := h.2 (by rw [hr]; intro h; cases h)
    rw [hr] at h2; cases h2
    have h3 : ¬ ∀ c ∈ s, isLet c = true := fun h4 => by have := h.1.2 h4; rw [hr] at this; cases this
    simp [h3]
  · rename_i hr
    have h3 := h.1.1 hr
    have e : s ≠ [] ↔ 1 ≤ s.length := by cases s <;> simp
    split
    · rename_i h4
      simp only [decide_eq_true_eq]
      exact ⟨fun h5 => ⟨e.2 (by omega), by omega, h3⟩, fun h5 => by have := h5.2.1; omega⟩
    · rename_i h4
      simp only [Bool.false_eq_true, false_iff]
      rintro ⟨h5, _⟩
      have := e.1 h5; omega
theorem name_same (s : List UInt8) : nameC s = nameR s := by
  rw [Bool.eq_iff_iff, nameC_iff, nameR_iff]

end Go.Proofs.YtnboadipofkcjaaDoor

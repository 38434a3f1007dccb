import Derived.Test.YtbfmonajbfljmaaDoorNames
namespace Go.Proofs.YtbfmonajbfljmaaDoor
open Go Go.RowKit Go.Proofs.YtbfmonajbfljmaaDoorVm
attribute [local irreducible] opsWp AnswersE OpsS
set_option maxHeartbeats 400000
set_option maxRecDepth 100000
set_option linter.all false
/-! names -/
theorem isLet_is : ∀ c : UInt8, isLet c = (decide (c.toNat = 45) || (decide (48 ≤ c.toNat) && decide (c.toNat ≤ 57)) || (decide (65 ≤ c.toNat) && decide (c.toNat ≤ 90)) || (decide (97 ≤ c.toNat) && decide (c.toNat ≤ 122))) := by
  have h : ∀ n : Fin 256, isLet (UInt8.ofNat n.1) = (decide (n.1 = 45) || (decide (48 ≤ n.1) && decide (n.1 ≤ 57)) || (decide (65 ≤ n.1) && decide (n.1 ≤ 90)) || (decide (97 ≤ n.1) && decide (n.1 ≤ 122))) := by decide +kernel
  intro c
  have := h ⟨c.toNat, c.toNat_lt⟩
  simpa using this
theorem contains_is (c : UInt8) : contains c = isLet c := rfl
theorem trimL_L0_nil : ∀ (f : Nat) (s : List UInt8), s.length < f → (trimL_L0 f s = [] ↔ ∀ c ∈ s, isLet c = true)
  | 0, s, h => by omega
  | f + 1, [], h => by simp [trimL_L0]
  | f + 1, c :: s, h => by
    rw [trimL_L0, if_pos (by simp)]
    simp only [List.getD_cons_zero, List.drop_succ_cons, List.drop_zero, contains_is]
    split
    · rename_i h1
      rw [trimL_L0_nil f s (by simpa using h)]
      simp [h1]
    · rename_i h1
      simp [h1]
theorem trimR_L0_all : ∀ (f : Nat) (s : List UInt8), s.length < f → s.length ≤ 24 → ((∀ c ∈ trimR_L0 f s, isLet c = true) ↔ ∀ c ∈ s, isLet c = true)
  | 0, s, h, _ => by omega
  | f + 1, s, h, h24 => by
    rw [trimR_L0]
    split
    · rename_i h0
      have e : (IntKind.i64.wrap ((s.length : Int) - 1)).toNat = s.length - 1 := by rw [IntKind.wrap_i64]; omega
      rw [e]
      split
      · rename_i h1
        rw [trimR_L0_all f _ (by rw [List.length_take]; omega) (by rw [List.length_take]; omega)]
        have hlt : s.length - 1 < s.length := by omega
        have e2 : s = s.take (s.length - 1) ++ [s.getD (s.length - 1) 0] := by
          have := List.take_append_drop (s.length - 1) s
          rw [List.drop_eq_getElem_cons hlt] at this
          rw [List.getD_eq_getElem?_getD, List.getElem?_eq_getElem hlt, Option.getD_some]
          conv => lhs; rw [← this]
          congr 2
          exact List.drop_eq_nil_of_le (by omega)
        constructor
        · intro h2 c hc
          rw [e2] at hc
          rcases List.mem_append.1 hc with h3 | h3
          · exact h2 c h3
          · rw [List.mem_singleton.1 h3]; exact h1
        · intro h2 c hc
          exact h2 c (List.mem_of_mem_take hc)
      · exact Iff.rfl
    · exact Iff.rfl
theorem nameC_iff (s : List UInt8) : nameC s = true ↔ (s ≠ [] ∧ s.length ≤ 24 ∧ ∀ c ∈ s, isLet c = true) := by
  unfold nameC
  split
  · rename_i h; simp [h]
  · rename_i h
    split
    · rename_i h1
      have h2 : s.length ≤ 24 := by omega
      have e : trim s = trimL (trimR s) := by
        unfold trim
        rw [if_neg h, if_neg (by simp [letters])]
      have h3 := trimR_len s
      rw [e, beq_iff_eq]
      show trimL_L0 _ (trimR s) = [] ↔ _
      rw [trimL_L0_nil _ _ (by omega)]
      show (∀ c ∈ trimR_L0 _ s, _) ↔ _
      rw [trimR_L0_all _ _ (by omega) h2]
      simp [h, h2]
    · rename_i h1
      simp only [Bool.false_eq_true, false_iff]
      rintro ⟨_, h2, _⟩
      omega

end Go.Proofs.YtbfmonajbfljmaaDoor

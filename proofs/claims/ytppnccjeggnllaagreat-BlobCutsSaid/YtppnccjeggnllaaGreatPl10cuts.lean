import Derived.Test.YtppnccjeggnllaaGreatLaw10c
namespace Go.Proofs.YtppnccjeggnllaaGreat
open Go Go.RowKit Go.Proofs.YtppnccjeggnllaaGreatVm
attribute [local irreducible] opsWp AnswersE OpsS
set_option maxHeartbeats 400000
set_option maxRecDepth 100000
set_option linter.all false
/-! bytes that are cut off, or go on -/
theorem cut_none {l : List Int} (h : ∀ y ∈ l, InR y) (hs : l.length ≤ 1400000) {n : Nat} (hn : n < (mg ++ BB l).length) : decB ((mg ++ BB l).take n) = none := by
  have hb := BB_le (l := l)
  cases h1 : decB ((mg ++ BB l).take n) with
  | none => rfl
  | some m =>
    exfalso
    obtain ⟨h2, h3⟩ := decB_some h1
    have h0 : (mg ++ BB l).length = 4 + (BB l).length := by rw [List.length_append]; rfl
    have h4 := congrArg List.length h2
    have hm : mg.length = 4 := rfl
    simp only [List.length_take, List.length_append, hm] at h4
    rw [List.take_append, show mg.length = 4 from rfl, List.take_of_length_le (show mg.length ≤ n by show 4 ≤ n; omega)] at h2
    have h5 := List.append_cancel_left h2
    have h6 := BB_first h h3 (by omega) (r := (BB l).drop (n - 4)) (by rw [← h5, List.take_append_drop])
    have h7 := congrArg List.length h6
    rw [List.length_drop, List.length_nil] at h7
    omega
theorem more_none {l : List Int} (h : ∀ y ∈ l, InR y) (hs : l.length ≤ 1400000) (d : UInt8) : decB (mg ++ BB l ++ [d]) = none := by
  have hb := BB_le (l := l)
  cases h1 : decB (mg ++ BB l ++ [d]) with
  | none => rfl
  | some m =>
    exfalso
    obtain ⟨h2, h3⟩ := decB_some h1
    rw [List.append_assoc] at h2
    have h5 := List.append_cancel_left h2
    have h8 := BB_le (l := m)
    have h6 := congrArg List.length h5
    rw [List.length_append, List.length_cons, List.length_nil] at h6
    have h7 := BB_first h3 h (by omega) (r := [d]) h5.symm
    cases h7
theorem cuts10_true {c : GContent} (at_ : Int) (more : UInt8) (hc : wfGContent c) : cuts10 c at_ more = true := by
  unfold cuts10
  by_cases h1 : few9 c = true
  · rw [if_pos h1]
    have hl := (fits_of h1).2
    have he := enc_is hc hl
    rw [flat_eq] at hl
    by_cases h2 : right9 c = true
    · rw [if_pos h2] at he
      rw [he]
      dsimp only
      have h0 : (mg ++ BB (fC c)).length = 4 + (BB (fC c)).length := by rw [List.length_append]; rfl
      have hb := BB_le (l := fC c)
      rw [if_pos rfl, if_neg (by omega), if_pos small10_true]
      have hn : (min (max at_ 0) (IntKind.i64.wrap (((mg ++ BB (fC c)).length : Int) - 1))).toNat < (mg ++ BB (fC c)).length := by
        rw [wrap_lt (by omega) (by omega)]; omega
      rw [dec_is (by rw [List.length_take]; omega), cut_none (fC_in hc) hl hn]
      dsimp only
      rw [if_pos rfl, dec_is (by rw [List.length_append]; simp only [List.length_cons, List.length_nil]; omega), more_none (fC_in hc) hl]
      rfl
    · rw [if_neg h2] at he
      rw [he, if_neg (show ¬ ((1 : Int) = 0) by decide)]; exact small10_true
  · rw [if_neg h1]; exact small10_true
theorem cuts10_yes (c : GContent) (at_ : Int) (more : UInt8) (hc : wfGContent c) : Ok Tryz.prog 5 [aGContent c, I at_, .pv (.int .u8 more.toNat)] [] (B true) [] [] := by
  have h := cuts10_ok c at_ more
  rwa [cuts10_true at_ more hc] at h

end Go.Proofs.YtppnccjeggnllaaGreat

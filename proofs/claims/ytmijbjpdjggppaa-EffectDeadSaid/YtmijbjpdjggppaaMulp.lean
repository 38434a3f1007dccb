import Derived.Test.YtmijbjpdjggppaaMul
namespace Go.Proofs.Ytmijbjpdjggppaa
open Go Go.RowKit Go.Proofs.YtmijbjpdjggppaaVm
attribute [local irreducible] opsWp AnswersE OpsS
set_option maxHeartbeats 400000
set_option maxRecDepth 100000
set_option linter.all false
theorem wrapU (n : Int) : IntKind.u64.wrap n = n % 18446744073709551616 := by
  simp [IntKind.wrap, IntKind.bits, IntKind.signed]
theorem and_lo {x : Int} (h0 : 0 ≤ x) (h1 : x < 18446744073709551616) : andK .u64 x 4294967295 = x % 4294967296 := by
  obtain ⟨n, rfl⟩ : ∃ n : Nat, x = n := ⟨x.toNat, by omega⟩
  have e1 : (BitVec.ofInt 64 (n : Int)).toNat = n := by rw [BitVec.ofInt_natCast, BitVec.toNat_ofNat]; omega
  have e2 : (BitVec.ofInt 64 (4294967295 : Int)).toNat = 2 ^ 32 - 1 := by decide
  have e3 : (BitVec.ofInt 64 (n : Int) &&& BitVec.ofInt 64 (4294967295 : Int)).toNat = n % 2 ^ 32 := by
    rw [BitVec.toNat_and, e1, e2, Nat.and_two_pow_sub_one_eq_mod]
  show IntKind.u64.wrap ((BitVec.ofInt 64 (n : Int) &&& BitVec.ofInt 64 (4294967295 : Int)).toNat : Int) = _
  rw [e3, wrapU]
  omega
theorem shr_hi {x : Int} (h0 : 0 ≤ x) : shrK .u64 x 32 = x / 4294967296 := by
  show x.fdiv 4294967296 = x / 4294967296
  exact Int.fdiv_eq_ediv_of_nonneg _ (by decide)
theorem modU (n : Int) : 0 ≤ n % 18446744073709551616 ∧ n % 18446744073709551616 < 18446744073709551616 := by omega
theorem mul64_is {x y : Int} (hx0 : 0 ≤ x) (hx : x < 18446744073709551616) (hy0 : 0 ≤ y) (hy : y < 18446744073709551616) : mul64 x y = (x * y / 18446744073709551616, x * y % 18446744073709551616) := by
  have h := mul64_arith x y hx0 hx hy0 hy
  unfold mul64
  simp only [wrapU, and_lo hx0 hx, and_lo hy0 hy, shr_hi hx0, shr_hi hy0]
  rw [shr_hi (modU _).1, shr_hi (modU _).1, and_lo (modU _).1 (modU _).2, shr_hi (modU _).1]
  rw [← h]
theorem size1_is {a : Int} (h : InR a) : size1 a = a.natAbs := by
  unfold InR at h
  unfold size1
  simp only [wrapU]
  split <;> omega
theorem mul1_eq {a b : Int} (ha : InR a) (hb : InR b) : mul1 a b = max (min (a * b) 9223372036854775807) (-9223372036854775808) := by
  have ea := size1_is ha
  have eb := size1_is hb
  unfold InR at ha hb
  unfold mul1
  dsimp only
  rw [ea, eb, mul64_is (by omega) (by omega) (by omega) (by omega)]
  have hab : ((a.natAbs : Int) * (b.natAbs : Int)) = ((a * b).natAbs : Int) := by rw [Int.natAbs_mul]; simp
  rw [hab]
  dsimp only
  have hsg : (decide (a < 0) = decide (b < 0)) → 0 ≤ a * b := by
    intro h
    by_cases h1 : a < 0
    · have h2 : b < 0 := by simpa [h1] using h.symm
      exact Int.mul_nonneg_of_nonpos_of_nonpos (by omega) (by omega)
    · have h2 : ¬ b < 0 := by simpa [h1] using h.symm
      exact Int.mul_nonneg (by omega) (by omega)
  have hsn : ¬ (decide (a < 0) = decide (b < 0)) → a * b ≤ 0 := by
    intro h
    by_cases h1 : a < 0
    · have h2 : ¬ b < 0 := by intro h2; simp [h1, h2] at h
      exact Int.mul_nonpos_of_nonpos_of_nonneg (by omega) (by omega)
    · have h2 : b < 0 := by by_cases h3 : b < 0; exact h3; simp [h1, h3] at h
      exact Int.mul_nonpos_of_nonneg_of_nonpos (by omega) (by omega)
  have m1 : size1 9223372036854775807 = 9223372036854775807 := by decide
  have m2 : size1 (-9223372036854775808) = 9223372036854775808 := by decide
  unfold mul1_J23 end1
  rw [m1, m2]
  generalize a * b = p at *
  by_cases hs : decide (a < 0) = decide (b < 0)
  · have := hsg hs
    rw [if_pos hs, if_pos hs]
    have e : (!(decide (a < 0) == decide (b < 0))) = false := by rw [hs]; simp
    rw [e]
    simp only [IntKind.wrap_i64]
    split
    · rw [if_neg (by decide)]; omega
    · split
      · rw [if_neg (by decide)]; omega
      · omega
  · have := hsn hs
    rw [if_neg hs, if_neg hs]
    have e : (!(decide (a < 0) == decide (b < 0))) = true := by simpa using hs
    rw [e]
    simp only [IntKind.wrap_i64, wrapU]
    split
    · rw [if_pos trivial]; omega
    · split
      · rw [if_pos trivial]; omega
      · omega
theorem mul1_in {a b : Int} (ha : InR a) (hb : InR b) : InR (mul1 a b) := by rw [mul1_eq ha hb]; unfold InR; omega

end Go.Proofs.Ytmijbjpdjggppaa

import Derived.Test.YtcbdecknbfabaaaMulr
namespace Go.Proofs.Ytcbdecknbfabaaa
open Go Go.RowKit Go.Proofs.YtcbdecknbfabaaaVm
attribute [local irreducible] opsWp AnswersE OpsS
set_option maxHeartbeats 400000
set_option maxRecDepth 100000
set_option linter.all false
def pw : Nat → Int
  | 0 => 1
  | n + 1 => 65536 * pw n
theorem pw_pos : ∀ n, 0 < pw n
  | 0 => by decide
  | n + 1 => by have := pw_pos n; simp only [pw]; omega
def val10 (z : A10int) : Int := z.f0 + z.f1 * pw 1 + z.f2 * pw 2 + z.f3 * pw 3 + z.f4 * pw 4 + z.f5 * pw 5 + z.f6 * pw 6 + z.f7 * pw 7 + z.f8 * pw 8 + z.f9 * pw 9
theorem val10_set (z : A10int) {j : Nat} (hj : j < 10) (v : Int) : val10 (z.set j v) = val10 z + (v - z.get j) * pw j := by
  match j, hj with
  | 0, _ => simp only [val10, A10int.set, A10int.get, pw]; omega
  | 1, _ => simp only [val10, A10int.set, A10int.get, pw]; omega
  | 2, _ => simp only [val10, A10int.set, A10int.get, pw]; omega
  | 3, _ => simp only [val10, A10int.set, A10int.get, pw]; omega
  | 4, _ => simp only [val10, A10int.set, A10int.get, pw]; omega
  | 5, _ => simp only [val10, A10int.set, A10int.get, pw]; omega
  | 6, _ => simp only [val10, A10int.set, A10int.get, pw]; omega
  | 7, _ => simp only [val10, A10int.set, A10int.get, pw]; omega
  | 8, _ => simp only [val10, A10int.set, A10int.get, pw]; omega
  | 9, _ => simp only [val10, A10int.set, A10int.get, pw]; omega
  | n + 10, h => omega
theorem get10_set (z : A10int) {i j : Nat} (hi : i < 10) (hj : j < 10) (v : Int) : (z.set j v).get i = if i = j then v else z.get i := by
  have h := A10int.get_list (z.set j v) hi
  rw [A10int.set_list z hj, List.getElem?_set] at h
  have hl : z.list.length = 10 := rfl
  by_cases e : j = i
  · subst e
    rw [if_pos rfl, if_pos (by omega)] at h
    rw [if_pos rfl]; exact (Option.some.inj h).symm
  · rw [if_neg e, A10int.get_list z hi] at h
    rw [if_neg (fun h => e h.symm)]; exact (Option.some.inj h).symm
theorem step_arith {g x y c p n q r : Int} (hn : n = g + x * y + c) (hq : n = 65536 * q + r) : (r - g) * p + q * (65536 * p) = x * y * p + c * p := by
  have : r = g + x * y + c - 65536 * q := by omega
  subst this
  grind
def Dig (z : A10int) (m : Nat) : Prop := (∀ j, j < 10 → 0 ≤ z.get j ∧ z.get j < 65536) ∧ ∀ j, m ≤ j → j < 10 → z.get j = 0
def ysum (y : A5int) (k0 : Nat) : Nat → Nat → Int
  | 0, _ => 0
  | n + 1, k => y.get k * pw (k0 + k) + ysum y k0 n (k + 1)
theorem mul_lt {x y : Int} (hx : 0 ≤ x ∧ x < 65536) (hy : 0 ≤ y ∧ y < 65536) : 0 ≤ x * y ∧ x * y ≤ 4294836225 := by
  refine ⟨Int.mul_nonneg hx.1 hy.1, ?_⟩
  have := Int.mul_le_mul (show x ≤ 65535 by omega) (show y ≤ 65535 by omega) hy.1 (by omega : (0 : Int) ≤ 65535)
  omega
theorem mulL1 {a b : Int} (hx : ∀ k, k < 5 → 0 ≤ (bigR a).get k ∧ (bigR a).get k < 65536) (hy : ∀ k, k < 5 → 0 ≤ (bigR b).get k ∧ (bigR b).get k < 65536) {k0 : Nat} (h0 : k0 < 4) : ∀ (n k1 : Nat) (z : A10int) (c : Int), n + k1 = 5 → Dig z (k0 + 5) → 0 ≤ c ∧ c < 65536 →
    Dig (mulR_L1 a b k0 n k1 z c).1 (k0 + 5) ∧ (0 ≤ (mulR_L1 a b k0 n k1 z c).2 ∧ (mulR_L1 a b k0 n k1 z c).2 < 65536) ∧ val10 (mulR_L1 a b k0 n k1 z c).1 + (mulR_L1 a b k0 n k1 z c).2 * pw (k0 + 5) = val10 z + c * pw (k0 + k1) + (bigR a).get k0 * ysum (bigR b) k0 n k1
  | 0, k1, z, c, hn, hd, hc => by
    rw [mulR_L1]
    obtain rfl : k1 = 5 := by omega
    refine ⟨hd, hc, ?_⟩
    simp only [ysum]; omega
  | n + 1, k1, z, c, hn, hd, hc => by
    rw [mulR_L1]
    have hj : k0 + k1 < 10 := by omega
    have ej : (IntKind.i64.wrap ((k0 : Int) + k1)).toNat = k0 + k1 := by simp only [IntKind.wrap_i64]; omega
    have hg := hd.1 _ hj
    have hxy := mul_lt (hx k0 (by omega)) (hy k1 (by omega))
    rw [ej]
    have e1 : IntKind.i64.wrap ((bigR a).get k0 * (bigR b).get k1) = (bigR a).get k0 * (bigR b).get k1 := by rw [IntKind.wrap_i64]; omega
    have e2 : IntKind.i64.wrap (IntKind.i64.wrap (z.get (k0 + k1) + (bigR a).get k0 * (bigR b).get k1) + c) = z.get (k0 + k1) + (bigR a).get k0 * (bigR b).get k1 + c := by simp only [IntKind.wrap_i64]; omega
    rw [e1, e2]
    generalize hnn : z.get (k0 + k1) + (bigR a).get k0 * (bigR b).get k1 + c = nn
    have hnb : 0 ≤ nn ∧ nn ≤ 4294967295 := by omega
    rw [Int.tmod_eq_emod_of_nonneg hnb.1, Int.tdiv_eq_ediv_of_nonneg hnb.1]
    have e3 : IntKind.i64.wrap (nn / 65536) = nn / 65536 := by rw [IntKind.wrap_i64]; omega
    rw [e3]
    have hd2 : Dig (z.set (k0 + k1) (nn % 65536)) (k0 + 5) := by
      refine ⟨fun j h => ?_, fun j h h2 => ?_⟩
      · rw [get10_set z h hj]; split
        · omega
        · exact hd.1 j h
      · rw [get10_set z h2 hj, if_neg (by omega)]; exact hd.2 j h h2
    obtain ⟨r1, r2, r3⟩ := mulL1 hx hy h0 n (k1 + 1) _ (nn / 65536) (by omega) hd2 (by omega)
    refine ⟨r1, r2, ?_⟩
    rw [r3, val10_set z hj, show k0 + (k1 + 1) = (k0 + k1) + 1 by omega]
    simp only [ysum]
    rw [Int.mul_add, ← Int.mul_assoc]
    have hs := step_arith (p := pw (k0 + k1)) hnn.symm (show nn = 65536 * (nn / 65536) + nn % 65536 by omega)
    simp only [pw]
    omega
def xsum (x y : A5int) : Nat → Nat → Int
  | 0, _ => 0
  | n + 1, k => x.get k * ysum y k 5 0 + xsum x y n (k + 1)
theorem mulL0 {a b : Int} (hx : ∀ k, k < 5 → 0 ≤ (bigR a).get k ∧ (bigR a).get k < 65536) (hy : ∀ k, k < 5 → 0 ≤ (bigR b).get k ∧ (bigR b).get k < 65536) : ∀ (n k0 : Nat) (z : A10int), n + k0 = 4 → Dig z (k0 + 5) →
    Dig (mulR_L0 a b n k0 z) 9 ∧ val10 (mulR_L0 a b n k0 z) = val10 z + xsum (bigR a) (bigR b) n k0
  | 0, k0, z, hn, hd => by
    rw [mulR_L0]
    obtain rfl : k0 = 4 := by omega
    exact ⟨hd, by simp only [xsum]; omega⟩
  | n + 1, k0, z, hn, hd => by
    rw [mulR_L0]
    have h0 : k0 < 4 := by omega
    obtain ⟨r1, r2, r3⟩ := mulL1 hx hy h0 5 0 z 0 (by omega) hd (by omega)
    rw [show 5 - 0 = 5 from rfl]
    generalize mulR_L1 a b k0 5 0 z 0 = r at *
    obtain ⟨z1, c1⟩ := r
    dsimp only at *
    have hj : k0 + 5 < 10 := by omega
    have ej : (IntKind.i64.wrap ((k0 : Int) + 5)).toNat = k0 + 5 := by simp only [IntKind.wrap_i64]; omega
    have hz : z1.get (k0 + 5) = 0 := r1.2 _ (Nat.le_refl _) hj
    rw [ej, hz]
    have ec : IntKind.i64.wrap (0 + c1) = c1 := by simp only [IntKind.wrap_i64]; omega
    rw [ec]
    have hd2 : Dig (z1.set (k0 + 5) c1) (k0 + 1 + 5) := by
      refine ⟨fun j h => ?_, fun j h h2 => ?_⟩
      · rw [get10_set z1 h hj]; split
        · exact r2
        · exact r1.1 j h
      · rw [get10_set z1 h2 hj, if_neg (by omega)]; exact r1.2 j (by omega) h2
    obtain ⟨q1, q2⟩ := mulL0 hx hy n (k0 + 1) _ (by omega) hd2
    refine ⟨q1, ?_⟩
    rw [q2, val10_set z1 hj, hz]
    simp only [xsum]
    have e9 : (c1 - 0) * pw (k0 + 5) = c1 * pw (k0 + 5) := by rw [Int.sub_zero]
    rw [e9]
    omega
def val5 (x : A5int) : Int := x.f0 + x.f1 * 65536 + x.f2 * 4294967296 + x.f3 * 281474976710656 + x.f4 * 18446744073709551616
theorem xsum_is (x y : A5int) (h : x.f4 = 0) : xsum x y 4 0 = val5 x * val5 y := by
  simp only [xsum, ysum, pw, val5, A5int.get, h]
  grind
theorem abs_mod (a : Int) : a.tmod 65536 = if a < 0 then -((a.natAbs : Int) % 65536) else (a.natAbs : Int) % 65536 := by
  split
  · obtain ⟨m, rfl⟩ : ∃ m : Nat, a = -(m : Int) := ⟨a.natAbs, by omega⟩
    rw [Int.neg_tmod, Int.tmod_eq_emod_of_nonneg (by omega)]; simp
  · obtain ⟨m, rfl⟩ : ∃ m : Nat, a = (m : Int) := ⟨a.natAbs, by omega⟩
    rw [Int.tmod_eq_emod_of_nonneg (by omega)]; simp
theorem abs_div (a : Int) : a.tdiv 65536 = if a < 0 then -((a.natAbs : Int) / 65536) else (a.natAbs : Int) / 65536 := by
  split
  · obtain ⟨m, rfl⟩ : ∃ m : Nat, a = -(m : Int) := ⟨a.natAbs, by omega⟩
    rw [Int.neg_tdiv, Int.tdiv_eq_ediv_of_nonneg (by omega)]; simp
  · obtain ⟨m, rfl⟩ : ∃ m : Nat, a = (m : Int) := ⟨a.natAbs, by omega⟩
    rw [Int.tdiv_eq_ediv_of_nonneg (by omega)]; simp
theorem get5_self (x : A5int) {k : Nat} (h : k < 5) (v : Int) : (x.set k v).get k = v := by
  match k, h with
  | 0, _ => rfl
  | 1, _ => rfl
  | 2, _ => rfl
  | 3, _ => rfl
  | 4, _ => rfl
  | n + 5, h => omega
theorem set5_set (x : A5int) {k : Nat} (h : k < 5) (u v : Int) : (x.set k u).set k v = x.set k v := by
  match k, h with
  | 0, _ => rfl
  | 1, _ => rfl
  | 2, _ => rfl
  | 3, _ => rfl
  | 4, _ => rfl
  | n + 5, h => omega
theorem bigJ (d : A5int) (a : Int) {k : Nat} (h : k < 5) : bigR_J13 d a k = d.set k ((a.natAbs : Int) % 65536) := by
  unfold bigR_J13
  rw [get5_self d h, set5_set d h, abs_mod]
  by_cases h1 : a < 0
  · simp only [if_pos h1]
    split
    · congr 1; simp only [IntKind.wrap_i64]; omega
    · congr 1; omega
  · simp only [if_neg h1]
    rw [if_neg (by omega)]
theorem abs_next {a : Int} (h : InR a) : ((IntKind.i64.wrap (a.tdiv 65536)).natAbs : Int) = (a.natAbs : Int) / 65536 ∧ InR (IntKind.i64.wrap (a.tdiv 65536)) := by
  unfold InR at *
  rw [abs_div]
  simp only [IntKind.wrap_i64]
  split <;> omega
theorem bigR_is {a : Int} (h : InR a) : bigR a = ⟨(a.natAbs : Int) % 65536, (a.natAbs : Int) / 65536 % 65536, (a.natAbs : Int) / 65536 / 65536 % 65536, (a.natAbs : Int) / 65536 / 65536 / 65536 % 65536, 0⟩ := by
  unfold bigR
  dsimp only
  have h1 := abs_next h
  have h2 := abs_next h1.2
  have h3 := abs_next h2.2
  rw [show 4 - 0 = 3 + 1 from rfl, bigR_L0]
  try dsimp only
  rw [bigR_L0]; try dsimp only
  rw [bigR_L0]; try dsimp only
  rw [bigR_L0]; try dsimp only
  rw [bigR_L0]
  rw [bigJ _ _ (by decide), bigJ _ _ (by decide), bigJ _ _ (by decide), bigJ _ _ (by decide)]
  rw [h3.1, h2.1, h1.1]
  rfl
theorem big_dig {a : Int} (h : InR a) : ∀ k, k < 5 → 0 ≤ (bigR a).get k ∧ (bigR a).get k < 65536 := by
  rw [bigR_is h]
  intro k hk
  match k, hk with
  | 0, _ => simp only [A5int.get]; omega
  | 1, _ => simp only [A5int.get]; omega
  | 2, _ => simp only [A5int.get]; omega
  | 3, _ => simp only [A5int.get]; omega
  | 4, _ => simp only [A5int.get]; omega
  | n + 5, h => omega
theorem big_val {a : Int} (h : InR a) : val5 (bigR a) = a.natAbs := by
  rw [bigR_is h]
  unfold InR at h
  simp only [val5]
  omega
theorem mulR_val {a b : Int} (ha : InR a) (hb : InR b) : Dig (mulR_L0 a b 4 0 ⟨0, 0, 0, 0, 0, 0, 0, 0, 0, 0⟩) 9 ∧ val10 (mulR_L0 a b 4 0 ⟨0, 0, 0, 0, 0, 0, 0, 0, 0, 0⟩) = ((a * b).natAbs : Int) := by
  have hz : Dig ⟨0, 0, 0, 0, 0, 0, 0, 0, 0, 0⟩ (0 + 5) := by
    have : ∀ j, j < 10 → (A10int.get ⟨0, 0, 0, 0, 0, 0, 0, 0, 0, 0⟩ j) = 0 := by
      intro j hj
      match j with
      | 0 | 1 | 2 | 3 | 4 | 5 | 6 | 7 | 8 => rfl
      | n + 9 => rfl
    exact ⟨fun j hj => by rw [this j hj]; omega, fun j _ hj => this j hj⟩
  obtain ⟨h1, h2⟩ := mulL0 (big_dig ha) (big_dig hb) 4 0 _ (by omega) hz
  refine ⟨h1, ?_⟩
  rw [h2, xsum_is _ _ (by rw [bigR_is ha]), big_val ha, big_val hb, Int.natAbs_mul]
  simp [val10]
theorem L2_true (z : A10int) : ∀ n k, mulR_L2 z n k true = true
  | 0, k => by rw [mulR_L2]
  | n + 1, k => by rw [mulR_L2, if_pos rfl, L2_true z n]
theorem L2_false (z : A10int) : ∀ n k, mulR_L2 z n k false = false → ∀ j, k ≤ j → j < k + n → z.get j = 0
  | 0, k, _, j, h1, h2 => by omega
  | n + 1, k, h, j, h1, h2 => by
    rw [mulR_L2, if_neg (by decide)] at h
    by_cases e : z.get k = 0
    · have e2 : (z.get k != 0) = false := by simp [e]
      rw [e2] at h
      by_cases hj : j = k
      · rw [hj]; exact e
      · exact L2_false z n (k + 1) h j (by omega) (by omega)
    · have e2 : (z.get k != 0) = true := by simp [e]
      rw [e2, L2_true] at h; cases h
theorem L2_zero (z : A10int) : ∀ n k, (∀ j, k ≤ j → j < k + n → z.get j = 0) → mulR_L2 z n k false = false
  | 0, k, _ => by rw [mulR_L2]
  | n + 1, k, h => by
    rw [mulR_L2, if_neg (by decide)]
    have e2 : (z.get k != 0) = false := by simp [h k (Nat.le_refl _) (by omega)]
    rw [e2]; exact L2_zero z n (k + 1) fun j h1 h2 => h j (by omega) (by omega)
theorem L3_no (z : A10int) (f : Nat) {v : Int} {i : Nat} (hg : 0 ≤ z.get i ∧ z.get i < 65536) (hv : v ≤ 0) (hi : i < 10) (hv2 : -v * 65536 ≤ 9223372036854775808 - z.get i) : mulR_L3 z (f + 1) false v (i : Int) = mulR_L3 z f false (65536 * v - z.get i) ((i : Int) - 1) := by
  rw [mulR_L3, if_pos (by show (i : Int) ≥ 0; omega), if_neg (by decide)]
  unfold mulR_J85
  rw [Int.toNat_natCast]
  have e1 : IntKind.i64.wrap (-9223372036854775808 + z.get i) = -(9223372036854775808 - z.get i) := by simp only [IntKind.wrap_i64]; omega
  rw [e1, Int.neg_tdiv, Int.tdiv_eq_ediv_of_nonneg (by omega), if_neg (by simp only [IntKind.wrap_i64]; omega)]
  dsimp only
  congr 1
  · simp only [IntKind.wrap_i64]; omega
  · simp only [IntKind.wrap_i64]; omega
theorem L3_over (z : A10int) (f : Nat) {v : Int} {i : Nat} (hg : 0 ≤ z.get i ∧ z.get i < 65536) (hv : v ≤ 0) (hi : i < 10) (hv2 : -v * 65536 > 9223372036854775808 - z.get i) : mulR_L3 z (f + 1) false v (i : Int) = mulR_L3 z f true v ((i : Int) - 1) := by
  rw [mulR_L3, if_pos (by show (i : Int) ≥ 0; omega), if_neg (by decide)]
  unfold mulR_J85
  rw [Int.toNat_natCast]
  have e1 : IntKind.i64.wrap (-9223372036854775808 + z.get i) = -(9223372036854775808 - z.get i) := by simp only [IntKind.wrap_i64]; omega
  rw [e1, Int.neg_tdiv, Int.tdiv_eq_ediv_of_nonneg (by omega), if_pos (by simp only [IntKind.wrap_i64]; omega)]
  dsimp only
  congr 1
  simp only [IntKind.wrap_i64]; omega
theorem L3_end (z : A10int) (f : Nat) (o : Bool) (v i : Int) (h : i < 0 ∨ o = true) : mulR_L3 z (f + 1) o v i = (o, v) := by
  rw [mulR_L3]
  by_cases hi : i ≥ 0
  · rw [if_pos hi]
    have : o = true := by rcases h with h | h; omega; exact h
    rw [if_pos this]
  · rw [if_neg hi]
theorem L3_is (z : A10int) (hd : ∀ j, j < 10 → 0 ≤ z.get j ∧ z.get j < 65536) (o : Bool) (ho : o = true ↔ ∃ j, 4 ≤ j ∧ j < 10 ∧ z.get j ≠ 0) :
    ((mulR_L3 z 5 o 0 3).1 = true ∧ val10 z > 9223372036854775808) ∨ ((mulR_L3 z 5 o 0 3) = (false, -val10 z) ∧ val10 z ≤ 9223372036854775808) := by
  have d0 := hd 0 (by omega); have d1 := hd 1 (by omega); have d2 := hd 2 (by omega); have d3 := hd 3 (by omega); have d4 := hd 4 (by omega)
  have d5 := hd 5 (by omega); have d6 := hd 6 (by omega); have d7 := hd 7 (by omega); have d8 := hd 8 (by omega); have d9 := hd 9 (by omega)
  simp only [A10int.get] at d0 d1 d2 d3 d4 d5 d6 d7 d8 d9
  cases o with
  | true =>
    left
    rw [show 5 = 4 + 1 from rfl, L3_end _ _ _ _ _ (.inr rfl)]
    refine ⟨rfl, ?_⟩
    obtain ⟨j, h1, h2, h3⟩ := ho.1 rfl
    simp only [val10, pw]
    match j, h1, h2 with
    | 4, _, _ => simp only [A10int.get] at h3; omega
    | 5, _, _ => simp only [A10int.get] at h3; omega
    | 6, _, _ => simp only [A10int.get] at h3; omega
    | 7, _, _ => simp only [A10int.get] at h3; omega
    | 8, _, _ => simp only [A10int.get] at h3; omega
    | 9, _, _ => simp only [A10int.get] at h3; omega
    | n + 10, _, h => omega
  | false =>
    have hz : ∀ j, 4 ≤ j → j < 10 → z.get j = 0 := fun j h1 h2 => by
      apply Classical.byContradiction; intro h3; have := ho.2 ⟨j, h1, h2, h3⟩; cases this
    have z4 := hz 4 (by omega) (by omega); have z5 := hz 5 (by omega) (by omega); have z6 := hz 6 (by omega) (by omega)
    have z7 := hz 7 (by omega) (by omega); have z8 := hz 8 (by omega) (by omega); have z9 := hz 9 (by omega) (by omega)
    simp only [A10int.get] at z4 z5 z6 z7 z8 z9
    have s3 := L3_no z 4 (v := 0) (i := 3) (by simpa [A10int.get] using d3) (by omega) (by omega) (by simp only [A10int.get]; omega)
    simp only [A10int.get] at s3
    have s2 := L3_no z 3 (v := 65536 * 0 - z.f3) (i := 2) (by simpa [A10int.get] using d2) (by omega) (by omega) (by simp only [A10int.get]; omega)
    simp only [A10int.get] at s2
    have s1 := L3_no z 2 (v := 65536 * (65536 * 0 - z.f3) - z.f2) (i := 1) (by simpa [A10int.get] using d1) (by omega) (by omega) (by simp only [A10int.get]; omega)
    simp only [A10int.get] at s1
    have e3 : ((3 : Nat) : Int) = 3 := rfl
    have e2 : ((3 : Nat) : Int) - 1 = ((2 : Nat) : Int) := rfl
    have e1 : ((2 : Nat) : Int) - 1 = ((1 : Nat) : Int) := rfl
    have e0 : ((1 : Nat) : Int) - 1 = ((0 : Nat) : Int) := rfl
    rw [show mulR_L3 z 5 false 0 3 = mulR_L3 z (4 + 1) false 0 ((3 : Nat) : Int) from rfl, s3, e2, show mulR_L3 z 4 false (65536 * 0 - z.f3) ((2 : Nat) : Int) = mulR_L3 z (3 + 1) false (65536 * 0 - z.f3) ((2 : Nat) : Int) from rfl, s2, e1]
    rw [show mulR_L3 z 3 false (65536 * (65536 * 0 - z.f3) - z.f2) ((1 : Nat) : Int) = mulR_L3 z (2 + 1) false (65536 * (65536 * 0 - z.f3) - z.f2) ((1 : Nat) : Int) from rfl, s1, e0]
    generalize hv : 65536 * (65536 * (65536 * 0 - z.f3) - z.f2) - z.f1 = v
    have hval : val10 z = -v * 65536 + z.f0 := by simp only [val10, pw]; omega
    by_cases hb : -v * 65536 ≤ 9223372036854775808 - z.f0
    · right
      have s0 := L3_no z 1 (v := v) (i := 0) (by simpa [A10int.get] using d0) (by omega) (by omega) (by simpa [A10int.get] using hb)
      rw [show mulR_L3 z 2 false v ((0 : Nat) : Int) = mulR_L3 z (1 + 1) false v ((0 : Nat) : Int) from rfl, s0, show (1 : Nat) = 0 + 1 from rfl, L3_end _ _ _ _ _ (.inl (by decide))]
      simp only [A10int.get]
      refine ⟨?_, by omega⟩
      congr 1; omega
    · left
      have s0 := L3_over z 1 (v := v) (i := 0) (by simpa [A10int.get] using d0) (by omega) (by omega) (by simp only [A10int.get]; omega)
      rw [show mulR_L3 z 2 false v ((0 : Nat) : Int) = mulR_L3 z (1 + 1) false v ((0 : Nat) : Int) from rfl, s0, show (1 : Nat) = 0 + 1 from rfl, L3_end _ _ _ _ _ (.inr rfl)]
      exact ⟨rfl, by omega⟩
theorem mulR_eq {a b : Int} (ha : InR a) (hb : InR b) : mulR a b = max (min (a * b) 9223372036854775807) (-9223372036854775808) := by
  obtain ⟨hd, hv⟩ := mulR_val ha hb
  unfold mulR
  rw [show 4 - 0 = 4 from rfl, show 10 - 4 = 6 from rfl]
  generalize mulR_L0 a b 4 0 ⟨0, 0, 0, 0, 0, 0, 0, 0, 0, 0⟩ = z at *
  dsimp only
  have ho : mulR_L2 z 6 4 false = true ↔ ∃ j, 4 ≤ j ∧ j < 10 ∧ z.get j ≠ 0 := by
    constructor
    · intro h
      apply Classical.byContradiction
      intro h2
      rw [L2_zero z 6 4 fun j h3 h4 => by apply Classical.byContradiction; intro h5; exact h2 ⟨j, h3, by omega, h5⟩] at h
      cases h
    · rintro ⟨j, h1, h2, h3⟩
      cases hc : mulR_L2 z 6 4 false with
      | true => rfl
      | false => exact absurd (L2_false z 6 4 hc j h1 (by omega)) h3
  have h3 := L3_is z hd.1 _ ho
  rw [hv] at h3
  have hsg : (decide (a < 0) = decide (b < 0)) → 0 ≤ a * b := by
    intro h
    by_cases h1 : a < 0
    · have h2 : b < 0 := by simpa [h1] using h.symm
      exact Int.mul_nonneg_of_nonpos_of_nonpos (by omega) (by omega)
    · have h2 : ¬ b < 0 := by simpa [h1] using h.symm
      exact Int.mul_nonneg (by omega) (by omega)
  have hsn : ¬ (decide (a < 0) = decide (b < 0)) → a * b ≤ 0 := by
    intro h
    by_cases h1 : a < 0
    · have h2 : ¬ b < 0 := by intro h2; simp [h1, h2] at h
      exact Int.mul_nonpos_of_nonpos_of_nonneg (by omega) (by omega)
    · have h2 : b < 0 := by by_cases h3 : b < 0; exact h3; simp [h1, h3] at h
      exact Int.mul_nonpos_of_nonneg_of_nonpos (by omega) (by omega)
  generalize a * b = p at *
  unfold mulR_J98
  by_cases hs : decide (a < 0) = decide (b < 0)
  · have hp := hsg hs
    rcases h3 with ⟨h4, h5⟩ | ⟨h4, h5⟩
    · generalize mulR_L3 z 5 (mulR_L2 z 6 4 false) 0 3 = r at *
      obtain ⟨o, v⟩ := r
      dsimp only at h4 ⊢
      subst h4
      simp only [if_true, hs]
      omega
    · rw [h4]
      dsimp only
      simp only [hs, if_true]
      rw [if_neg (by decide)]
      dsimp only
      rw [if_neg (by decide)]
      split
      · omega
      · simp only [IntKind.wrap_i64]; omega
  · have hp := hsn hs
    rcases h3 with ⟨h4, h5⟩ | ⟨h4, h5⟩
    · generalize mulR_L3 z 5 (mulR_L2 z 6 4 false) 0 3 = r at *
      obtain ⟨o, v⟩ := r
      dsimp only at h4 ⊢
      subst h4
      simp only [if_true, if_neg hs]
      omega
    · rw [h4]
      dsimp only
      simp only [if_neg hs]
      rw [if_neg (by decide)]
      dsimp only
      rw [if_neg (by decide)]
      omega
theorem mul_same {a b : Int} (ha : InR a) (hb : InR b) : mul1 a b = mulR a b := by rw [mul1_eq ha hb, mulR_eq ha hb]

end Go.Proofs.Ytcbdecknbfabaaa

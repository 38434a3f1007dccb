import Derived.Test.YtppnccjeggnllaaGreatGood09
namespace Go.Proofs.YtppnccjeggnllaaGreat
open Go Go.RowKit Go.Proofs.YtppnccjeggnllaaGreatVm
attribute [local irreducible] zY zaM OpsS
set_option maxHeartbeats 400000
set_option maxRecDepth 100000
set_option linter.all false
theorem zd2 (n : Int) : IntKind.u64.wrap n = n % 18446744073709551616 := by simp [IntKind.wrap, IntKind.bits, IntKind.signed]
def fd (n : Int) : Int := if n < 0 then -2 * n - 1 else 2 * n
theorem ze2 (n : Int) : ((BitVec.ofInt 64 n).toNat : Int) = n % 18446744073709551616 := by
 rw [BitVec.toNat_ofInt]
 have := Int.emod_nonneg n (show (18446744073709551616 : Int) ≠ 0 by decide)
 show (((n % ((2 ^ 64 : Nat) : Int)).toNat : Nat) : Int) = _
 rw [show (((2 ^ 64 : Nat) : Int)) = 18446744073709551616 by decide]
 omega
theorem xor_zero (a : Int) : xorK .u64 a 0 = a % 18446744073709551616 := by
 unfold xorK
 show IntKind.u64.wrap (((BitVec.ofInt 64 a ^^^ BitVec.ofInt 64 0).toNat : Nat) : Int) = _
 rw [show BitVec.ofInt 64 0 = 0#64 by decide +kernel]
 rw [BitVec.xor_zero, zd2, ze2]; omega
theorem zo6 (a : Int) : xorK .u64 a 18446744073709551615 = 18446744073709551615 - a % 18446744073709551616 := by
 unfold xorK
 show IntKind.u64.wrap (((BitVec.ofInt 64 a ^^^ BitVec.ofInt 64 18446744073709551615).toNat : Nat) : Int) = _
 rw [show BitVec.ofInt 64 18446744073709551615 = BitVec.allOnes 64 by decide +kernel]
 rw [BitVec.xor_allOnes, BitVec.toNat_not, zd2]
 have := ze2 a
 have h2 := (BitVec.ofInt 64 a).isLt
 omega
theorem zqN {n : Int} (h : InR n) : fold n = fd n := by
 unfold InR at h
 unfold fold fd
 have e1 : shlK .u64 (IntKind.u64.wrap n) 1 = (2 * n) % 18446744073709551616 := by
  unfold shlK
  rw [show (2 : Int) ^ (min (1 : Int).toNat IntKind.u64.bits) = 2 by decide, zd2, zd2]; omega
 have e2 : shrK .i64 n 63 = if n < 0 then -1 else 0 := by
  unfold shrK
  rw [show (2 : Int) ^ (min (63 : Int).toNat IntKind.i64.bits) = 9223372036854775808 by decide, Int.fdiv_eq_ediv_of_nonneg _ (by decide)]
  split <;> omega
 rw [e1, e2]
 split
 ·rw [show IntKind.u64.wrap (-1) = 18446744073709551615 by decide, zo6]; omega
 ·rw [show IntKind.u64.wrap 0 = 0 by decide, xor_zero]; omega
def uf (m : Int) : Int := if m % 2 = 1 then -(m / 2) - 1 else m / 2
theorem zrM (n : Int) : uf (fd n) = n := by
 unfold uf fd; repeat' split
 all_goals omega
theorem zrN {m : Int} (h : 0 ≤ m) : fd (uf m) = m := by
 unfold uf fd; repeat' split
 all_goals omega
theorem zrm {n : Int} (h : InR n) : 0 ≤ fd n ∧ fd n < 18446744073709551616 := by unfold InR at h; unfold fd; split <;> omega
theorem zrL {m : Int} (h : 0 ≤ m) (h2 : m < 18446744073709551616) : InR (uf m) := by unfold InR uf; split <;> omega
theorem znR {a : Int} (h : InR a) : xorK .i64 a 0 = a := by
 unfold InR at h
 unfold xorK
 show IntKind.i64.wrap (((BitVec.ofInt 64 a ^^^ BitVec.ofInt 64 0).toNat : Nat) : Int) = _
 rw [show BitVec.ofInt 64 0 = 0#64 by decide +kernel]
 rw [BitVec.xor_zero, IntKind.wrap_i64, ze2]; omega
theorem znI {a : Int} (h : InR a) : xorK .i64 a (-1) = -a - 1 := by
 unfold InR at h
 unfold xorK
 show IntKind.i64.wrap (((BitVec.ofInt 64 a ^^^ BitVec.ofInt 64 (-1)).toNat : Nat) : Int) = _
 rw [show BitVec.ofInt 64 (-1) = BitVec.allOnes 64 by decide +kernel]
 rw [BitVec.xor_allOnes, BitVec.toNat_not, IntKind.wrap_i64]
 have := ze2 a
 have h2 := (BitVec.ofInt 64 a).isLt
 omega
theorem zrj {m : Int} (h : 0 ≤ m) (h2 : m < 18446744073709551616) : andK .u64 m 1 = m % 2 := by
 unfold andK
 show IntKind.u64.wrap (((BitVec.ofInt 64 m &&& BitVec.ofInt 64 1).toNat : Nat) : Int) = _
 rw [BitVec.toNat_and, show (BitVec.ofInt 64 1).toNat = 1 by decide +kernel, Nat.and_one_is_mod, zd2]
 have := ze2 m
 omega
theorem zqD {m : Int} (h : 0 ≤ m) (h2 : m < 18446744073709551616) : unfo m = uf m := by
 unfold unfo uf
 have e1 : shrK .u64 m 1 = m / 2 := by
  unfold shrK
  rw [show (2 : Int) ^ (min (1 : Int).toNat IntKind.u64.bits) = 2 by decide, Int.fdiv_eq_ediv_of_nonneg _ (by decide)]
 have e3 : IntKind.i64.wrap (m / 2) = m / 2 := by rw [IntKind.wrap_i64]; omega
 rw [e1, e3, zrj h h2]
 have e4 : InR (m / 2) := by unfold InR; omega
 split
 ·rename_i h3
  rw [h3, show IntKind.i64.wrap (0 - IntKind.i64.wrap 1) = -1 by decide, znI e4]
 ·rename_i h3
  rw [show m % 2 = 0 by omega, show IntKind.i64.wrap (0 - IntKind.i64.wrap 0) = 0 by decide, znR e4]
def v7 : Nat → Nat → List UInt8
 | 0, n => [UInt8.ofNat n]
 | f + 1, n => if n < 128 then [UInt8.ofNat n] else UInt8.ofNat (n % 128 + 128) :: v7 f (n / 128)
theorem zrK : ∀ c : UInt8, c ||| 128 = UInt8.ofNat (c.toNat % 128 + 128) := by
 have h : ∀ n : Fin 256, (UInt8.ofNat n.1 ||| 128) = UInt8.ofNat (n.1 % 128 + 128) := by decide +kernel
 intro c
 have := h ⟨c.toNat, c.toNat_lt⟩
 simpa using this
theorem zqp {n : Nat} : (by8 (n : Int)).toNat = n % 256 := by
 have := zhp (n : Int); omega
theorem zok {n : Nat} (h : n < 256) : by8 (n : Int) = UInt8.ofNat n := by
 apply UInt8.toNat_inj.1; rw [zqp, UInt8.toNat_ofNat']
theorem zoa : ∀ (f : Nat) (b : List UInt8) (n : Nat), n < 128 ^ (f + 1) → n < 18446744073709551616 → ∀ m : Int, m = (n : Int) →
  (zcV (f + 1) b m).1 ++ [by8 (zcV (f + 1) b m).2] = b ++ v7 f n ∧ (zeA (f + 1) b m).1 ++ [by8 (zeA (f + 1) b m).2] = b ++ v7 f n
 | 0, b, n, h, _, m, e => by
  subst e
  have h' : n < 128 := by simpa using h
  rw [zcV, zeA, v7, if_neg (show ¬ ((n : Int) > 127) by omega), if_neg (show ¬ ((n : Int) ≥ 128) by omega)]
  simp only
  rw [zok (by omega)]; exact ⟨rfl, rfl⟩
 | f + 1, b, n, h, h64, m, e => by
  subst e
  rw [zcV, zeA, v7]
  have h1 : (128 : Nat) ^ (f + 1 + 1) = 128 ^ (f + 1) * 128 := Nat.pow_succ _ _
  by_cases h2 : n < 128
  ·rw [if_neg (show ¬ ((n : Int) > 127) by omega), if_neg (show ¬ ((n : Int) ≥ 128) by omega), if_pos h2]
   simp only
   rw [zok (by omega)]; exact ⟨rfl, rfl⟩
  ·rw [if_pos (show ((n : Int) > 127) by omega), if_pos (show ((n : Int) ≥ 128) by omega), if_neg h2]
   have h3 : n / 128 < 128 ^ (f + 1) := by rw [h1] at h; exact Nat.div_lt_of_lt_mul (by rw [Nat.mul_comm]; exact h)
   have ih := fun b => zoa f b (n / 128) h3 (by omega) ((n / 128 : Nat) : Int) rfl
   have e1 : shrK IntKind.u64 (n : Int) 7 = ((n / 128 : Nat) : Int) := by rw [shr7 (by omega)]; omega
   have e2 : IntKind.u64.wrap ((n : Int).tdiv 128) = ((n / 128 : Nat) : Int) := by rw [Int.tdiv_eq_ediv_of_nonneg (by omega), zd2]; omega
   have e3 : by8 (n : Int) ||| 128 = UInt8.ofNat (n % 128 + 128) := by
    rw [zrK, zqp]; congr 1; omega
   have e4 : by8 (IntKind.u64.wrap (128 + (n : Int).tmod 128)) = UInt8.ofNat (n % 128 + 128) := by
    rw [Int.tmod_eq_emod_of_nonneg (by omega), zd2, ← zok (by omega)]; congr 1; omega
   rw [e1, e2, e3, e4]
   have i := ih (b ++ [UInt8.ofNat (n % 128 + 128)])
   rw [i.1, i.2, List.append_assoc]; exact ⟨rfl, rfl⟩
def lead : List UInt8 → Nat
 | [] => 0
 | d :: r => if 128 ≤ d.toNat then lead r + 1 else 0
def val : List UInt8 → Nat
 | [] => 0
 | d :: r => d.toNat % 128 + 128 * val r
def zf3 (b : List UInt8) : Prop := b.length ≤ lead b ∨ 9 < lead b ∨ (0 < lead b ∧ (b.getD (lead b) 0).toNat = 0) ∨ (lead b = 9 ∧ 1 < (b.getD (lead b) 0).toNat)
instance (b : List UInt8) : Decidable (zf3 b) := by unfold zf3; infer_instance
def rd (b : List UInt8) : Option (Nat × Nat) := if zf3 b then none else some (val (b.take (lead b + 1)), lead b + 1)
theorem zlu : ∀ (l : List UInt8) (d : UInt8), val (l ++ [d]) = val l + d.toNat % 128 * 128 ^ l.length
 | [], d => by simp [val]
 | c :: l, d => by
  simp only [List.cons_append, val, List.length_cons]
  rw [zlu l d, Nat.pow_succ, Nat.mul_add, ← Nat.mul_assoc, ← Nat.mul_assoc, Nat.mul_comm 128 (d.toNat % 128), Nat.mul_assoc (d.toNat % 128), Nat.mul_comm 128, ← Nat.mul_assoc, Nat.add_assoc, Nat.mul_right_comm (d.toNat % 128) 128]
theorem zis : ∀ l : List UInt8, val l < 128 ^ l.length
 | [] => by simp [val]
 | d :: l => by
  have := zis l
  simp only [val, List.length_cons, Nat.pow_succ]
  have h2 : d.toNat % 128 < 128 := Nat.mod_lt _ (by decide)
  omega
theorem zmg {l : List UInt8} {k : Nat} (h : k < l.length) : l.take (k + 1) = l.take k ++ [l.getD k 0] := by
 rw [List.take_succ, List.getD_eq_getElem?_getD, List.getElem?_eq_getElem h]; rfl
theorem zi3 {l : List UInt8} {k : Nat} (h : k < l.length) : val (l.take (k + 1)) = val (l.take k) + (l.getD k 0).toNat % 128 * 128 ^ k := by
 rw [zmg h, zlu, List.length_take, Nat.min_eq_left (by omega)]
theorem zlp (l : List UInt8) (k : Nat) : l.getD k default = l.getD k 0 := rfl
theorem ze0 : ∀ (b : List UInt8) (k : Nat), k ≤ lead b → lead b = k + lead (b.drop k)
 | b, 0, _ => by simp
 | [], k + 1, h => by simp [lead] at h
 | d :: r, k + 1, h => by
  simp only [lead] at h ⊢
  split at h
  ·rename_i h1
   rw [if_pos h1, List.drop_succ_cons, ze0 r k (by omega)]; omega
  ·omega
theorem zni {b : List UInt8} {k : Nat} (h : k < b.length) : b.drop k = b.getD k 0 :: b.drop (k + 1) := by
 rw [List.drop_eq_getElem_cons h, List.getD_eq_getElem?_getD, List.getElem?_eq_getElem h, Option.getD_some]
theorem zmI {b : List UInt8} {k : Nat} (h : k < b.length) : lead (b.drop k) = if 128 ≤ (b.getD k 0).toNat then lead (b.drop (k + 1)) + 1 else 0 := by
 rw [zni h, lead]
theorem znU {n : Nat} (h : n < 18446744073709551616) : (BitVec.ofInt 64 (n : Int)).toNat = n := by
 have := ze2 (n : Int); omega
theorem zrp (d : UInt8) : andK .u64 (IntKind.u64.wrap (d.toNat : Int)) 127 = ((d.toNat % 128 : Nat) : Int) := by
 have hd := d.toNat_lt
 rw [zd2, show ((d.toNat : Int) % 18446744073709551616) = (d.toNat : Int) by omega]
 unfold andK
 show IntKind.u64.wrap (((BitVec.ofInt 64 (d.toNat : Int) &&& BitVec.ofInt 64 127).toNat : Nat) : Int) = _
 rw [BitVec.toNat_and, show (BitVec.ofInt 64 127).toNat = 2 ^ 7 - 1 by decide +kernel, znU (by omega), Nat.and_two_pow_sub_one_eq_mod, zd2]
 omega
theorem zql {a k x : Nat} (ha : a < 128 ^ k) (hk : k ≤ 9) (hx : x < 128) (ht : a + x * 128 ^ k < 18446744073709551616) :
  orK .u64 (a : Int) (shlK .u64 ((x : Nat) : Int) (IntKind.i64.wrap (7 * k))) = ((a + x * 128 ^ k : Nat) : Int) := by
 have e7 : IntKind.i64.wrap (7 * (k : Int)) = ((7 * k : Nat) : Int) := by rw [IntKind.wrap_i64]; omega
 have ep : (128 : Nat) ^ k = 2 ^ (7 * k) := by rw [Nat.pow_mul]
 have es : shlK .u64 ((x : Nat) : Int) ((7 * k : Nat) : Int) = ((x * 128 ^ k : Nat) : Int) := by
  unfold shlK
  rw [Int.toNat_natCast, show min (7 * k) IntKind.u64.bits = 7 * k from Nat.min_eq_left (by show 7 * k ≤ 64; omega), zd2, ep]
  have : ((x * 2 ^ (7 * k) : Nat) : Int) = (x : Int) * 2 ^ (7 * k) := by push_cast; rfl
  rw [← this, ← ep]
  omega
 rw [e7, es]
 unfold orK
 show IntKind.u64.wrap (((BitVec.ofInt 64 (a : Int) ||| BitVec.ofInt 64 ((x * 128 ^ k : Nat) : Int)).toNat : Nat) : Int) = _
 have h2 : a < 18446744073709551616 := by omega
 rw [BitVec.toNat_or, znU h2, znU (by omega), Nat.or_comm, ep, Nat.mul_comm x, ← Nat.two_pow_add_eq_or_of_lt (by rw [← ep]; exact ha), zd2, ← ep, Nat.mul_comm _ x, Nat.add_comm]
 omega
theorem zil (b : List UInt8) : ∀ (m k : Nat) (acc : Int), k + m = min b.length 10 → k ≤ lead b → (k ≤ 9 → acc = ((val (b.take k) : Nat) : Int)) →
  (match zb2 b m k acc with
   | .inl r => r
   | .inr () => (0, 0)) = (match rd b with
   | none => ((0 : Int), (0 : Int))
   | some (n, s) => ((n : Int), (s : Int)))
 | 0, k, acc, h, hk, _ => by
  have hb : zf3 b := by unfold zf3; have := ze0 b k hk; omega
  rw [zb2]; simp [rd, hb]
 | m + 1, k, acc, h, hk, ha => by
  have hkl : k < b.length := by omega
  have hs := ze0 b k hk
  have hl := zmI hkl
  have hv := zi3 hkl
  have hvl := zis (b.take k)
  rw [List.length_take, Nat.min_eq_left (by omega)] at hvl
  rw [zb2, ha (by omega)]
  simp only [zlp, zrp]
  have hd := (b.getD k 0).toNat_lt
  have hw : IntKind.u64.wrap ((b.getD k 0).toNat : Int) = ((b.getD k 0).toNat : Int) := by rw [zd2]; omega
  have hx : (b.getD k 0).toNat % 128 < 128 := Nat.mod_lt _ (by decide)
  rw [hw]
  by_cases h1 : 128 ≤ (b.getD k 0).toNat
  ·rw [if_pos (show ((b.getD k 0).toNat : Int) ≥ 128 by omega)]
   rw [if_pos h1] at hl
   refine zil b m (k + 1) _ (by omega) (by omega) (fun h9 => ?_)
   have h8 : (128 : Nat) ^ (k + 1) ≤ 128 ^ 9 := Nat.pow_le_pow_right (by decide) h9
   have hv2 := zis (b.take (k + 1))
   rw [List.length_take, Nat.min_eq_left (by omega)] at hv2
   rw [zql hvl (by omega) hx (by rw [← hv]; exact Nat.lt_of_lt_of_le hv2 (Nat.le_trans h8 (by decide))), hv]
  ·rw [if_neg (show ¬ ((b.getD k 0).toNat : Int) ≥ 128 by omega)]
   rw [if_neg h1] at hl
   have hL : lead b = k := by omega
   have hJ : zbS b k = true ↔ zf3 b := by
    unfold zbS zf3
    simp only [zlp, hw, hL]
    repeat' split
    all_goals simp only [decide_eq_true_eq, Bool.false_eq_true, false_iff]
    all_goals omega
   try simp only
   by_cases hB : zf3 b
   ·rw [if_pos (hJ.2 hB)]; simp [rd, hB]
   ·rw [if_neg (fun h => hB (hJ.1 h))]
    have hB' := hB
    unfold zf3 at hB'
    rw [hL] at hB'
    have hbd : val (b.take k) + (b.getD k 0).toNat % 128 * 128 ^ k < 18446744073709551616 := by
     by_cases h9 : k = 9
     ·subst h9
      have e9 : (128 : Nat) ^ 9 = 9223372036854775808 := by decide
      rw [e9] at hvl ⊢
      have : (b.getD 9 0).toNat % 128 ≤ 1 := by omega
      omega
     ·rw [← hv]
      have hv2 := zis (b.take (k + 1))
      rw [List.length_take, Nat.min_eq_left (by omega)] at hv2
      exact Nat.lt_of_lt_of_le hv2 (Nat.le_trans (Nat.pow_le_pow_right (by decide) (show k + 1 ≤ 9 by omega)) (by decide))
    rw [zql hvl (by omega) hx hbd, ← hv]
    have ew : IntKind.i64.wrap ((k : Int) + 1) = ((k + 1 : Nat) : Int) := by rw [IntKind.wrap_i64]; omega
    simp [rd, hB, hL, ew]
theorem znG (b : List UInt8) : take b = (match rd b with
   | none => ((0 : Int), (0 : Int))
   | some (n, s) => ((n : Int), (s : Int))) := by
 unfold take
 exact zil b _ 0 0 (by omega) (Nat.zero_le _) (fun _ => rfl)
theorem zpj {b : List UInt8} (h : ¬ zf3 b) : val (b.take (lead b + 1)) < 18446744073709551616 := by
 unfold zf3 at h
 have hk : lead b < b.length := by omega
 have hv := zi3 hk
 have hvl := zis (b.take (lead b))
 rw [List.length_take, Nat.min_eq_left (by omega)] at hvl
 by_cases h9 : lead b = 9
 ·rw [h9] at hv hvl ⊢
  have e9 : (128 : Nat) ^ 9 = 9223372036854775808 := by decide
  rw [e9] at hvl hv
  rw [h9] at h
  have : (b.getD 9 0).toNat % 128 ≤ 1 := by omega
  omega
 ·have hv2 := zis (b.take (lead b + 1))
  rw [List.length_take, Nat.min_eq_left (by omega)] at hv2
  exact Nat.lt_of_lt_of_le hv2 (Nat.le_trans (Nat.pow_le_pow_right (by decide) (show lead b + 1 ≤ 9 by omega)) (by decide))
theorem zqh : ∀ (f n : Nat), n < 128 ^ (f + 1) → val (v7 f n) = n
 | 0, n, h => by
  have h' : n < 128 := by simpa using h
  simp only [v7, val, UInt8.toNat_ofNat']; omega
 | f + 1, n, h => by
  rw [v7]
  split
  ·simp only [val, UInt8.toNat_ofNat']; omega
  ·rename_i h1
   have h3 : n / 128 < 128 ^ (f + 1) := by rw [Nat.pow_succ] at h; exact Nat.div_lt_of_lt_mul (by rw [Nat.mul_comm]; exact h)
   rw [val, zqh f (n / 128) h3, UInt8.toNat_ofNat']; omega
theorem zjg : ∀ (f n : Nat) (r : List UInt8), n < 128 ^ (f + 1) → lead (v7 f n ++ r) + 1 = (v7 f n).length
 | 0, n, r, h => by
  have h' : n < 128 := by simpa using h
  simp only [v7, List.cons_append, List.nil_append, lead, UInt8.toNat_ofNat', List.length_cons, List.length_nil]
  rw [if_neg (by omega)]
 | f + 1, n, r, h => by
  rw [v7]
  split
  ·simp only [List.cons_append, List.nil_append, lead, UInt8.toNat_ofNat', List.length_cons, List.length_nil]
   rw [if_neg (by omega)]
  ·rename_i h1
   have h3 : n / 128 < 128 ^ (f + 1) := by rw [Nat.pow_succ] at h; exact Nat.div_lt_of_lt_mul (by rw [Nat.mul_comm]; exact h)
   simp only [List.cons_append, lead, UInt8.toNat_ofNat', List.length_cons]
   rw [if_pos (by omega), zjg f (n / 128) r h3]
theorem zgz : ∀ (f n : Nat), 1 ≤ (v7 f n).length ∧ (v7 f n).length ≤ f + 1
 | 0, n => by simp [v7]
 | f + 1, n => by
  have := zgz f (n / 128)
  rw [v7]; split
  ·simp
  ·simp only [List.length_cons]; omega
theorem znw : ∀ (f n : Nat), n < 128 ^ (f + 1) → 0 < n → ((v7 f n).getD ((v7 f n).length - 1) 0).toNat ≠ 0
 | 0, n, h, h0 => by
  have h' : n < 128 := by simpa using h
  show (UInt8.ofNat n).toNat ≠ 0
  rw [UInt8.toNat_ofNat']; omega
 | f + 1, n, h, h0 => by
  rw [v7]
  split
  ·show (UInt8.ofNat n).toNat ≠ 0
   rw [UInt8.toNat_ofNat']; omega
  ·rename_i h1
   have h3 : n / 128 < 128 ^ (f + 1) := by rw [Nat.pow_succ] at h; exact Nat.div_lt_of_lt_mul (by rw [Nat.mul_comm]; exact h)
   have h4 := znw f (n / 128) h3 (by omega)
   have h5 := zgz f (n / 128)
   rw [List.length_cons, show (v7 f (n / 128)).length + 1 - 1 = ((v7 f (n / 128)).length - 1) + 1 by omega, List.getD_cons_succ]
   exact h4
theorem zrC {n : Nat} (h : n < 18446744073709551616) (r : List UInt8) : rd (v7 9 n ++ r) = some (n, (v7 9 n).length) := by
 have h10 : n < 128 ^ (9 + 1) := Nat.lt_of_lt_of_le h (by decide)
 have hl := zjg 9 n r h10
 have hn := zgz 9 n
 have hv := zqh 9 n h10
 have hg : ∀ k, k < (v7 9 n).length → (v7 9 n ++ r).getD k 0 = (v7 9 n).getD k 0 := fun k hk => by
  rw [List.getD_eq_getElem?_getD, List.getD_eq_getElem?_getD, List.getElem?_append_left hk]
 have ht : (v7 9 n ++ r).take (lead (v7 9 n ++ r) + 1) = v7 9 n := by rw [hl, List.take_left]
 have hB : ¬ zf3 (v7 9 n ++ r) := by
  unfold zf3
  rw [List.length_append]
  have e : lead (v7 9 n ++ r) = (v7 9 n).length - 1 := by omega
  rw [e, hg _ (by omega)]
  rintro (h1 | h1 | ⟨h1, h2⟩ | ⟨h1, h2⟩)
  ·omega
  ·omega
  ·refine znw 9 n h10 ?_ h2
   rcases Nat.eq_zero_or_pos n with rfl | h3
   ·simp [v7] at h1
   ·exact h3
  ·have h3 := zi3 (l := v7 9 n) (k := (v7 9 n).length - 1) (by omega)
   rw [show (v7 9 n).length - 1 + 1 = (v7 9 n).length by omega, List.take_length, hv, h1] at h3
   rw [h1] at h2
   have e9 : (128 : Nat) ^ 9 = 9223372036854775808 := by decide
   rw [e9] at h3
   -- a last byte is za8 128
   have h5 : ((v7 9 n).getD 9 0).toNat < 128 := by
    have h6 := zmI (b := v7 9 n ++ []) (k := 9) (by rw [List.length_append]; omega)
    have h7 := ze0 (v7 9 n ++ []) 9 (by have := zjg 9 n [] h10; omega)
    have h8 := zjg 9 n [] h10
    rw [List.append_nil] at h6 h7 h8
    split at h6
    ·omega
    ·omega
   omega
 unfold rd
 rw [if_neg hB, ht, hv, hl]
theorem znZ : ∀ b : List UInt8, lead b < b.length → (b.getD (lead b) 0).toNat ≠ 0 → 0 < val (b.take (lead b + 1))
 | [], h, _ => by simp at h
 | d :: r, h, h2 => by
  simp only [lead] at h h2 ⊢
  split at h
  ·rename_i h1
   rw [if_pos h1] at h2 ⊢
   rw [List.getD_cons_succ] at h2
   simp only [List.length_cons] at h
   have := znZ r (by omega) h2
   rw [List.take_succ_cons, val]; omega
  ·rename_i h1
   rw [if_neg h1] at h2 ⊢
   rw [List.getD_cons_zero] at h2
   simp only [List.take_succ_cons, List.take_zero, val]; omega
theorem zrl : ∀ (f : Nat) (b : List UInt8), lead b < b.length → lead b ≤ f → (0 < lead b → (b.getD (lead b) 0).toNat ≠ 0) → b.take (lead b + 1) = v7 f (val (b.take (lead b + 1)))
 | f, [], h, _, _ => by simp at h
 | f, d :: r, h, hf, h2 => by
  have hd := d.toNat_lt
  simp only [lead] at h hf h2 ⊢
  split at h
  ·rename_i h1
   rw [if_pos h1] at h2 hf ⊢
   simp only [List.length_cons] at h
   have h3 := h2 (by omega)
   rw [List.getD_cons_succ] at h3
   have hp := znZ r (by omega) h3
   cases f with
   | zero => omega
   | succ f =>
    have ih := zrl f r (by omega) (by omega) (fun _ => h3)
    rw [List.take_succ_cons, val, v7, if_neg (by omega)]
    have e1 : (d.toNat % 128 + 128 * val (r.take (lead r + 1))) / 128 = val (r.take (lead r + 1)) := by omega
    have e2 : UInt8.ofNat ((d.toNat % 128 + 128 * val (r.take (lead r + 1))) % 128 + 128) = d := by
     apply UInt8.toNat_inj.1; rw [UInt8.toNat_ofNat']; omega
    rw [e1, e2, ← ih]
  ·rename_i h1
   rw [if_neg h1]
   have e : UInt8.ofNat (d.toNat % 128 + 128 * 0) = d := by apply UInt8.toNat_inj.1; rw [UInt8.toNat_ofNat']; omega
   cases f with
   | zero => simp only [List.take_succ_cons, List.take_zero, val, v7, e]
   | succ f => simp only [List.take_succ_cons, List.take_zero, val, v7]; rw [if_pos (by omega), e]
theorem zfm {b : List UInt8} {n s : Nat} (h : rd b = some (n, s)) : n < 18446744073709551616 ∧ b = v7 9 n ++ b.drop s ∧ s = (v7 9 n).length ∧ s ≤ b.length := by
 unfold rd at h
 split at h
 ·cases h
 ·rename_i hB
  simp only [Option.some.injEq, Prod.mk.injEq] at h
  obtain ⟨rfl, rfl⟩ := h
  have hbd := zpj hB
  unfold zf3 at hB
  have hv := zrl 9 b (by omega) (by omega) (fun h => by omega)
  have hlen : (b.take (lead b + 1)).length = lead b + 1 := by rw [List.length_take]; omega
  refine ⟨hbd, ?_, ?_, by omega⟩
  ·rw [← hv, List.take_append_drop]
  ·rw [← hv, hlen]


def VV (n : Int) : List UInt8 := v7 9 (fd n).toNat
def rI (b : List UInt8) (k : Nat) : Int × Int × Int := match rd (b.drop k) with
 | none => (0, (k : Int), 2)
 | some (n, s) => (uf n, ((k + s : Nat) : Int), 0)
theorem zmJ {b : List UInt8} {n s : Nat} (h : rd b = some (n, s)) : 0 < s := by
 have h1 := (zfm h).2.2.1
 have h2 := zgz 9 n; omega
theorem zpM {b : List UInt8} (hb : b.length ≤ 9223372036854775807) {k : Nat} (hk : k ≤ b.length) : zdm b (k : Int) = rI b k := by
 unfold zdm read rI
 rw [if_neg (show ¬ (k : Int) < 0 by omega), if_neg (show ¬ (k : Int) > b.length by omega), Int.toNat_natCast, znG]
 cases h : rd (b.drop k) with
 | none => simp only [if_true]; rfl
 | some p =>
  obtain ⟨n, s⟩ := p
  have h0 := zmJ h
  have h1 := zfm h
  rw [List.length_drop] at h1
  simp only
  rw [if_neg (by omega)]
  simp only
  rw [zqD (by omega) (by omega), show IntKind.i64.wrap ((k : Int) + (s : Int)) = ((k + s : Nat) : Int) by rw [IntKind.wrap_i64]; omega]
theorem zrs (n : Int) : (VV n).length ≤ 10 := (zgz 9 _).2
end Go.Proofs.YtppnccjeggnllaaGreat

import Derived.Test.YtppnccjeggnllaaGreatSame10
namespace Go.Proofs.YtppnccjeggnllaaGreat
open Go Go.RowKit Go.Proofs.YtppnccjeggnllaaGreatVm
attribute [local irreducible] zY zas OpsS
set_option maxHeartbeats 400000
set_option maxRecDepth 100000
set_option linter.all false
theorem zh5 (n : Int) : IntKind.u64.wrap n = n % 18446744073709551616 := by simp [IntKind.wrap, IntKind.bits, IntKind.signed]
def fd (n : Int) : Int := if n < 0 then -2 * n - 1 else 2 * n
theorem zrz {n : Int} (h : InR n) : signed n = fd n := by
 unfold InR at h
 unfold signed fd
 split
 ·simp only [zh5, IntKind.wrap_i64]; omega
 ·simp only [zh5]; omega
theorem zoe (n : Int) : ((BitVec.ofInt 64 n).toNat : Int) = n % 18446744073709551616 := by
 rw [BitVec.toNat_ofInt]
 have := Int.emod_nonneg n (show (18446744073709551616 : Int) ≠ 0 by decide)
 show (((n % ((2 ^ 64 : Nat) : Int)).toNat : Nat) : Int) = _
 rw [show (((2 ^ 64 : Nat) : Int)) = 18446744073709551616 by decide]
 omega
theorem xor_zero (a : Int) : xorK .u64 a 0 = a % 18446744073709551616 := by
 unfold xorK
 show IntKind.u64.wrap (((BitVec.ofInt 64 a ^^^ BitVec.ofInt 64 0).toNat : Nat) : Int) = _
 rw [show BitVec.ofInt 64 0 = 0#64 by decide +kernel]
 rw [BitVec.xor_zero, zh5, zoe]; omega
theorem zsk (a : Int) : xorK .u64 a 18446744073709551615 = 18446744073709551615 - a % 18446744073709551616 := by
 unfold xorK
 show IntKind.u64.wrap (((BitVec.ofInt 64 a ^^^ BitVec.ofInt 64 18446744073709551615).toNat : Nat) : Int) = _
 rw [show BitVec.ofInt 64 18446744073709551615 = BitVec.allOnes 64 by decide +kernel]
 rw [BitVec.xor_allOnes, BitVec.toNat_not, zh5]
 have := zoe a
 have h2 := (BitVec.ofInt 64 a).isLt
 omega
theorem zur {n : Int} (h : InR n) : fold n = fd n := by
 unfold InR at h
 unfold fold fd
 have e1 : shlK .u64 (IntKind.u64.wrap n) 1 = (2 * n) % 18446744073709551616 := by
  unfold shlK
  rw [show (2 : Int) ^ (min (1 : Int).toNat IntKind.u64.bits) = 2 by decide, zh5, zh5]; omega
 have e2 : shrK .i64 n 63 = if n < 0 then -1 else 0 := by
  unfold shrK
  rw [show (2 : Int) ^ (min (63 : Int).toNat IntKind.i64.bits) = 9223372036854775808 by decide, Int.fdiv_eq_ediv_of_nonneg _ (by decide)]
  split <;> omega
 rw [e1, e2]
 split
 ·rw [show IntKind.u64.wrap (-1) = 18446744073709551615 by decide, zsk]; omega
 ·rw [show IntKind.u64.wrap 0 = 0 by decide, xor_zero]; omega
theorem zvk {n : Int} (h : InR n) : 0 ≤ fd n ∧ fd n < 18446744073709551616 := by unfold InR at h; unfold fd; split <;> omega
def v7 : Nat → Nat → List UInt8
 | 0, n => [UInt8.ofNat n]
 | f + 1, n => if n < 128 then [UInt8.ofNat n] else UInt8.ofNat (n % 128 + 128) :: v7 f (n / 128)
theorem zvf : ∀ c : UInt8, c ||| 128 = UInt8.ofNat (c.toNat % 128 + 128) := by
 have h : ∀ n : Fin 256, (UInt8.ofNat n.1 ||| 128) = UInt8.ofNat (n.1 % 128 + 128) := by decide +kernel
 intro c
 have := h ⟨c.toNat, c.toNat_lt⟩
 simpa using this
theorem ztG {n : Nat} : (by8 (n : Int)).toNat = n % 256 := by
 have := ziX (n : Int); omega
theorem zqb {n : Nat} (h : n < 256) : by8 (n : Int) = UInt8.ofNat n := by
 apply UInt8.toNat_inj.1; rw [ztG, UInt8.toNat_ofNat']
theorem zrY : ∀ (f : Nat) (b : List UInt8) (n : Nat), n < 128 ^ (f + 1) → n < 18446744073709551616 → ∀ m : Int, m = (n : Int) →
  (zdo (f + 1) b m).1 ++ [by8 (zdo (f + 1) b m).2] = b ++ v7 f n ∧ (za6 (f + 1) b m).1 ++ [by8 (za6 (f + 1) b m).2] = b ++ v7 f n
 | 0, b, n, h, _, m, e => by
  subst e
  have h' : n < 128 := by simpa using h
  rw [zdo, za6, v7, if_neg (show ¬ ((n : Int) > 127) by omega), if_neg (show ¬ ((n : Int) ≥ 128) by omega)]
  simp only
  rw [zqb (by omega)]; exact ⟨rfl, rfl⟩
 | f + 1, b, n, h, h64, m, e => by
  subst e
  rw [zdo, za6, v7]
  have h1 : (128 : Nat) ^ (f + 1 + 1) = 128 ^ (f + 1) * 128 := Nat.pow_succ _ _
  by_cases h2 : n < 128
  ·rw [if_neg (show ¬ ((n : Int) > 127) by omega), if_neg (show ¬ ((n : Int) ≥ 128) by omega), if_pos h2]
   simp only
   rw [zqb (by omega)]; exact ⟨rfl, rfl⟩
  ·rw [if_pos (show ((n : Int) > 127) by omega), if_pos (show ((n : Int) ≥ 128) by omega), if_neg h2]
   have h3 : n / 128 < 128 ^ (f + 1) := by rw [h1] at h; exact Nat.div_lt_of_lt_mul (by rw [Nat.mul_comm]; exact h)
   have ih := fun b => zrY f b (n / 128) h3 (by omega) ((n / 128 : Nat) : Int) rfl
   have e1 : shrK IntKind.u64 (n : Int) 7 = ((n / 128 : Nat) : Int) := by rw [shr7 (by omega)]; omega
   have e2 : IntKind.u64.wrap ((n : Int).tdiv 128) = ((n / 128 : Nat) : Int) := by rw [Int.tdiv_eq_ediv_of_nonneg (by omega), zh5]; omega
   have e3 : by8 (n : Int) ||| 128 = UInt8.ofNat (n % 128 + 128) := by
    rw [zvf, ztG]; congr 1; omega
   have e4 : by8 (IntKind.u64.wrap (128 + (n : Int).tmod 128)) = UInt8.ofNat (n % 128 + 128) := by
    rw [Int.tmod_eq_emod_of_nonneg (by omega), zh5, ← zqb (by omega)]; congr 1; omega
   rw [e1, e2, e3, e4]
   have i := ih (b ++ [UInt8.ofNat (n % 128 + 128)])
   rw [i.1, i.2, List.append_assoc]; exact ⟨rfl, rfl⟩
end Go.Proofs.YtppnccjeggnllaaGreat
namespace Go.Proofs.YtppnccjeggnllaaGreat
open Go Go.RowKit Go.Proofs.YtppnccjeggnllaaGreatVm
attribute [local irreducible] zY zas OpsS
set_option maxHeartbeats 400000
set_option maxRecDepth 100000
set_option linter.all false

theorem zk3 (b : Bool) : zc7 b = zdm b := by cases b <;> rfl
theorem ziD : ∀ (l : List zaJ) (k : Nat) (o : List Int), zcs l k o = zbg l k o
  | [], k, o => by rw [zcs, zbg]
  | x :: l, k, o => by rw [zcs, zbg, ziD l]; rfl
theorem zjh : ∀ (l : List zcc) (k : Nat) (o : List Int), zci l k o = zbf l k o
  | [], k, o => by rw [zci, zbf]
  | x :: l, k, o => by rw [zci, zbf, zjh l]; rfl
theorem ziu : ∀ (l : List zbD) (k : Nat) (o : List Int), zch l k o = zbi l k o
  | [], k, o => by rw [zch, zbi]
  | x :: l, k, o => by rw [zch, zbi, ziu l]; rfl
theorem ziU : ∀ (l : List zaI) (k : Nat) (o : List Int), zcp l k o = zbe l k o
  | [], k, o => by rw [zcp, zbe]
  | x :: l, k, o => by rw [zcp, zbe, ziU l, zk3]; rfl
theorem ziW : ∀ (l : List Bool) (k : Nat) (o : List Int), zcr l k o = zbd l k o
  | [], k, o => by rw [zcr, zbd]
  | x :: l, k, o => by rw [zcr, zbd, ziW l, zk3]; rfl
theorem ziC : ∀ (l : List zI) (k : Nat) (o : List Int), zcm l k o = zaO l k o
  | [], k, o => by rw [zcm, zaO]
  | x :: l, k, o => by
    rw [zcm, zaO]
    rw [ziC l, ziD, zk3]
    unfold ablW ziB
    simp only [List.append_assoc, List.cons_append, List.nil_append]
theorem zjc : ∀ (l : List GFoe) (k : Nat) (o : List Int), zck l k o = zbh l k o
  | [], k, o => by rw [zck, zbh]
  | x :: l, k, o => by
    rw [zck, zbh]
    rw [zjc l, zjh, ziu]
    unfold foeW zhM ze9
    simp only [List.append_assoc, List.cons_append, List.nil_append]
theorem zlf (c : zA) : zfZ c = flat c := by
  unfold zfZ flat zae zbt zb2 zel
  dsimp only
  rw [ziC, ziU, zjc, ziW]
  simp only [List.append_assoc, List.cons_append, List.nil_append]
theorem zkp {b : List UInt8} {n : Int} (h0 : 0 ≤ n) (h : n < 18446744073709551616) : zeU b n = put b n := by
  have := zrY 9 b n.toNat (Nat.lt_of_lt_of_le (show n.toNat < 18446744073709551616 by omega) (by decide)) (by omega) n (by omega)
  unfold zeU put
  exact this.2.trans this.1.symm
theorem ziv : ∀ (l : List Int) (k : Nat) (b : List UInt8), (∀ y ∈ l, InR y) → zcl l k b = zcq l k b
  | [], k, b, _ => by rw [zcl, zcq]
  | x :: l, k, b, h => by
    have h1 := h x (List.mem_cons_self ..)
    have h2 := zvk h1
    rw [zcl, zcq, zur h1, zrz h1, zkp h2.1 h2.2]
    exact ziv l _ _ (fun y hy => h y (List.mem_cons_of_mem _ hy))
theorem zsw (b : List UInt8) {l : List Int} (h : ∀ y ∈ l, InR y) : zlD b l = zlZ b l := by
  have h1 := zdw (max (l.length : Int) 0)
  unfold zlD zlZ zhk putU
  dsimp only
  rw [ziv _ _ _ h]
  have : zie b = b := rfl
  rw [this, zkp h1.1 h1.2]


def zdE (c : zA) : (List UInt8) × Int :=
  if zfB c = true then ((zlD ([(66 : UInt8), (82 : UInt8), (87 : UInt8), (49 : UInt8)]) (zfZ c)), 0) else ([], 1)
theorem zre (c : zA) (hF : Fits c) (hl : (flat c).length ≤ 1400000) : Ok Tryz.prog 14 [zak c] [] (.tup [.ref 0 1 0 (zdE c).1.length, I (zdE c).2]) [.row 5 1 (encY (zdE c).1)] [] := by
 refine Ok.len fun hlen => ?_
 have hl_c_Abilities := hlL (n := c.Abilities.length) hlen
 have hl_c_Auras := hlL (n := c.Auras.length) hlen
 have hl_c_Foes := hlL (n := c.Foes.length) hlen
 have hl_c_Map_Wall := hlL (n := c.Map.Wall.length) hlen
 have hF9 := zk8 hF
 refine zx Tryz.func14 rfl ?_
 refine zg rfl (zz (o := .box [_, _, _, _, _, _, _, _, _, _]) (nx' := 1) rfl rfl rfl trivial (zz (nx' := 2) rfl rfl rfl trivial (za rfl (zd (zg rfl (zh (v := (.agg [_, _, _, _, _, _, _, _, _, _])) rfl rfl (Nat.le_of_ble_eq_true rfl) (zB rfl rfl rfl rfl (zpx c (by first | assumption | exact zdk (by decide +kernel) | grind)) rfl rfl rfl (za rfl (zd (zm (zg rfl (za rfl ?_))))))))))))
 refine za rfl (zd ?_)
 refine zr rfl (fun h2 => ?_) (fun h2 => ?_)
 ·have g2 : ¬ (zfB c = true) := zaA (zbA h2)
  refine zg rfl (zz (nx' := 3) rfl rfl rfl trivial (za rfl (zd (zl (zE ?_)))))
  have e3 : zdE c = ([], 1) := by
   unfold zdE
   try dsimp only
   rewrite [if_neg g2]
   all_goals rfl
  rw [e3]
  exact zaa [] [2] rfl ⟨trivial, trivial, trivial⟩ rfl aP9 (rfl) rfl rfl rfl aP0 rfl rfl ⟨⟨rfl, rfl⟩, trivial⟩
 ·have g2 : zfB c = true := (zbz h2)
  refine zt (zu (zg rfl (zz (o := .row _ _ [_, _, _, _]) (nx' := 3) rfl rfl rfl aP0 (zh (v := (.agg [_, _, _, _, _, _, _, _, _, _])) rfl rfl (Nat.le_of_ble_eq_true rfl) ?_))))
  refine zb5 (out' := .ref 3 _ _ _) (H' := [(3, .row _ _ _), (2, _), (1, _), (0, _)]) (nx' := 4) rfl rfl rfl rfl rfl rfl rfl aP6 (zoz c (by first | assumption)) rfl rfl rfl rfl ?_
  refine zaD (Hin := [.row _ _ _, .row _ _ _]) (out' := .ref 4 _ _ _) (H' := [(4, .row _ _ _), (3, _), (2, _), (1, _), (0, _)]) (nx' := 5) [2, 3] rfl rfl rfl rfl rfl rfl rfl rfl rfl aP6 (zss ([(66 : UInt8), (82 : UInt8), (87 : UInt8), (49 : UInt8)]) false (zfZ c) false aP4 (by first | assumption | (rw [zlf]; assumption) | first | omega | (simp; done) | (simp only [List.length_append, List.length_cons, List.length_nil] at *; omega) | (simp; omega))) rfl aP0 rfl rfl ⟨zjS, trivial⟩ rfl rfl rfl rfl ?_
  refine za rfl (za rfl (zd (zl ?_)))
  have e4 : zdE c = ((zlD ([(66 : UInt8), (82 : UInt8), (87 : UInt8), (49 : UInt8)]) (zfZ c)), 0) := by
   unfold zdE
   try dsimp only
   rewrite [if_pos g2]
   all_goals rfl
  rw [e4]
  exact zaa [] [4] rfl ⟨trivial, trivial, trivial⟩ rfl aP9 (rfl) rfl rfl rfl aP0 rfl rfl ⟨⟨rfl, rfl⟩, trivial⟩
end Go.Proofs.YtppnccjeggnllaaGreat

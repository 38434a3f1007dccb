import Derived.Test.YtppnccjeggnllaaGreatBlobw
namespace Go.Proofs.YtppnccjeggnllaaGreat
open Go Go.RowKit Go.Proofs.YtppnccjeggnllaaGreatVm
attribute [local irreducible] zY zas OpsS
set_option maxHeartbeats 400000
set_option maxRecDepth 100000
set_option linter.all false

theorem zdw (n : Int) : 0 ≤ IntKind.u64.wrap n ∧ IntKind.u64.wrap n < 18446744073709551616 := by
  have e : IntKind.u64.wrap n = n % 18446744073709551616 := by simp [IntKind.wrap, IntKind.bits, IntKind.signed]
  rw [e]; exact ⟨Int.emod_nonneg _ (by decide), Int.emod_lt_of_pos _ (by decide)⟩
theorem shr7 {n : Int} (h : 0 ≤ n) : shrK .u64 n 7 = n / 128 := by
  unfold shrK; rw [show (2 : Int) ^ (min (7 : Int).toNat IntKind.u64.bits) = 128 from rfl, Int.fdiv_eq_ediv_of_nonneg _ (by decide)]
theorem zoF {n : Int} {f : Nat} (h0 : 0 ≤ n) (h : n.toNat < 128 ^ (f + 1)) : (n / 128).toNat < 128 ^ f ∧ 0 ≤ n / 128 := by
  have h1 : n / 128 * 128 ≤ n := Int.ediv_mul_le n (by decide)
  have h2 : (0 : Int) ≤ n / 128 := Int.ediv_nonneg h0 (by decide)
  rw [Nat.pow_succ] at h
  refine ⟨?_, h2⟩
  omega
theorem zpm {x : Int} (h : 0 ≤ x) : IntKind.u64.wrap x ≤ x := by
  have e : IntKind.u64.wrap x = x % 18446744073709551616 := by simp [IntKind.wrap, IntKind.bits, IntKind.signed]
  rw [e]; omega
theorem zri {n : Int} {f : Nat} (h0 : 0 ≤ n) (h : n.toNat < 128 ^ (f + 1)) : (IntKind.u64.wrap (n.tdiv 128)).toNat < 128 ^ f ∧ 0 ≤ IntKind.u64.wrap (n.tdiv 128) := by
  rw [Int.tdiv_eq_ediv_of_nonneg h0]
  have h1 := zoF h0 h
  have h2 := zpm h1.2
  exact ⟨by omega, (zdw _).1⟩
theorem zqn {n : Int} {f : Nat} (h0 : n > 127) (h : n.toNat < 128 ^ (f + 1)) : 0 < f := by
  rcases Nat.eq_zero_or_pos f with rfl | h1
  · simp at h; omega
  · exact h1
theorem zpP {n : Int} (h : 0 ≤ n ∧ n < 18446744073709551616) : n.toNat < 128 ^ 10 := by
  have : (128 : Nat) ^ 10 = 1180591620717411303424 := by decide
  omega


def fold (n : Int) : Int :=
  (xorK IntKind.u64 (shlK IntKind.u64 (IntKind.u64.wrap n) 1) (IntKind.u64.wrap (shrK IntKind.i64 n 63)))
theorem aP13 {p : Prop} (h : p := by first | decide | omega | (show (0 : Int) ≤ IntKind.i64.wrap _; rw [znb (by omega) (by omega)]; omega) | simp_all) : p := h
theorem ztQ (n : Int) : Ok Tryz.prog 72 [I n] [] (.pv (.int .u64 (fold n))) [] [] := by
 refine zx Tryz.func72 rfl ?_
 refine zg rfl (za rfl (zd (zg rfl (za rfl (za rfl ?_)))))
 refine zi rfl rfl rfl rfl rfl aP13 ?_
 refine za rfl ?_
 refine zi rfl rfl rfl rfl rfl aP13 ?_
 refine za rfl (zi rfl rfl rfl rfl rfl trivial (za rfl (zd (zl ?_))))
 have e3 : fold n = (xorK IntKind.u64 (shlK IntKind.u64 (IntKind.u64.wrap n) 1) (IntKind.u64.wrap (shrK IntKind.i64 n 63))) := by
  unfold fold
  try dsimp only
  all_goals rfl
 rw [e3]
 exact zk rfl ⟨trivial, trivial⟩ (rfl) rfl

def zdo : Nat → (List UInt8) → Int → (List UInt8) × Int
  | 0, _, _ => default
  | n_ + 1, b0, n0 => if (n0 : Int) > 127 then zdo n_ (b0 ++ [((by8 n0) ||| (128 : UInt8))]) (shrK IntKind.u64 n0 7) else (b0, n0)
def put (b : List UInt8) (n : Int) : List UInt8 :=
  (match zdo (10) b n with
    | (b_0, n_0) => (b_0 ++ [(by8 n_0)]))
theorem aP9 {p : Prop} (h : p := by (repeat' apply And.intro) <;> first | trivial | rfl | exact zaZ (fun _ => rfl) _ | exact zab _ | exact zdY _ | exact zdj _ | assumption) : p := h
theorem ztD (b : List UInt8) (n : Int) (hb : b.length ≤ 16000000) (hn : 0 ≤ n ∧ n < 18446744073709551616) : Ok Tryz.prog 71 [.ref 0 1 0 b.length, .pv (.int .u64 n)] [.row 5 1 (encY b)] (.ref 0 1 0 (put b n).length) [.row 5 1 (encY (put b n))] [0] := by
 refine zx Tryz.func71 rfl ?_
 show zaG Tryz.prog _ _ ⟨[(0, .ref 0 1 0 b.length), (1, .pv (.int .u64 n))], [(0, .row 5 1 (encY b))], 1, [], 20, 1⟩
 refine zg rfl (zz (nx' := 2) rfl rfl rfl trivial (zd (zm ?_)))
 refine zX (fun w_ : (List UInt8) × Int => match w_ with | (b_0, n_0) => (⟨[(0, .ref 0 1 0 b_0.length), (1, .pv (.int .u64 n_0))], [(0, .row 5 1 (encY b_0))], 1, [0], 20, 1⟩ : St)) (fun w_ : (List UInt8) × Int => match w_ with | (b_0, n_0) => zdo (10) b n = (b_0, n_0) ∧ (b_0.length ≤ 16000010)) ?_ ?_
 ·refine zw ?_
  refine z1 (fun w_ : Nat × (List UInt8) × Int => match w_ with | (f0, b0, n0) => (⟨[(0, .ref 0 1 0 b0.length), (1, .pv (.int .u64 n0))], [(0, .row 5 1 (encY b0))], 1, [0], 20, 1⟩ : St)) (fun w_ : Nat × (List UInt8) × Int => match w_ with | (f0, b0, n0) => zdo f0 b0 n0 = zdo (10) b n ∧ 0 < f0 ∧ n0.toNat < 128 ^ f0 ∧ 0 ≤ n0 ∧ b0.length + f0 ≤ 16000010) (fun w_ : Nat × (List UInt8) × Int => match w_ with | (f0, b0, n0) => f0) (10, b, n) (⟨rfl, aP2, ⟨zpP hn, hn.1, by omega⟩⟩) ?_ (fun w_ hh_ => ?_)
  ·exact (zD.ren [] aP1 aP1 rfl ⟨⟨rfl, rfl⟩, ⟨rfl, rfl⟩, trivial⟩ ⟨⟨rfl, rfl, rfl⟩, trivial⟩ aP0)
  obtain ⟨f0, b0, n0⟩ := w_
  obtain ⟨hI0, hb0, hv0⟩ := hh_
  obtain ⟨f0, rfl⟩ : ∃ z_, f0 = z_ + 1 := ⟨f0 - 1, by omega⟩
  refine zm (zg rfl (za rfl (zi rfl rfl rfl rfl rfl trivial (zd ?_))))
  refine zr rfl (fun h3 => ?_) (fun h3 => ?_)
  ·have g3 : (n0 : Int) > 127 := of_decide_eq_true h3
   refine zt (zu (zm (zw (zy rfl (za rfl (za rfl (za rfl ?_)))))))
   refine zrM (zpY n0) ?_
   refine zi rfl rfl rfl rfl rfl trivial ?_
   refine zrM (or8 (by8 n0) (128 : UInt8)) ?_
   refine zz (o := .row _ _ [_]) (nx' := 2) rfl rfl rfl aP0 ?_
   refine zL (m := 1) (new := [_]) (cs' := encY (b0 ++ [((by8 n0) ||| (128 : UInt8))])) (n' := (b0 ++ [((by8 n0) ||| (128 : UInt8))]).length) (H' := [(1, .row _ _ _), (0, .row _ _ _)]) rfl rfl rfl (rfl) rfl rfl rfl rfl rfl rfl (zdj b0) (rfl) aP3 (zaV b0 _) (((zgG b0 ((by8 n0) ||| (128 : UInt8)))).symm) (.inl rfl) rfl rfl (.keep rfl (.keep rfl .nil)) (.keep rfl (.keep rfl (.keep rfl (.keep rfl (.lose (v' := .undef) rfl (.keep rfl (.keep rfl (.lose (v' := .undef) rfl (.keep rfl .nil))))))))) ?_
   refine za rfl (zq (zal (zu (zy rfl (za rfl ?_)))))
   refine zi rfl rfl rfl rfl rfl aP13 ?_
   refine za rfl (zq ?_)
   have e5 : zdo (f0 + 1) b0 n0 = zdo f0 (b0 ++ [((by8 n0) ||| (128 : UInt8))]) (shrK IntKind.u64 n0 7) := by
    rewrite [zdo]
    try dsimp only
    rewrite [if_pos g3]
    all_goals rfl
   have hq : (shrK .u64 n0 7).toNat < 128 ^ f0 ∧ 0 ≤ shrK .u64 n0 7 := by rw [shr7 hv0.2.1]; exact zoF hv0.2.1 hv0.1
   exact zQ (f0, (b0 ++ [((by8 n0) ||| (128 : UInt8))]), (shrK IntKind.u64 n0 7)) ⟨e5.symm.trans hI0, (zqn (f := f0) aP5 hv0.1), ⟨hq.1, hq.2, by simp only [List.length_append, List.length_cons, List.length_nil]; omega⟩⟩ (Nat.lt_succ_self _) (zD.ren [] aP1 aP1 rfl ⟨⟨rfl, rfl⟩, ⟨rfl, rfl⟩, trivial⟩ ⟨⟨rfl, rfl, rfl⟩, trivial⟩ aP0)
  ·have g3 : ¬ ((n0 : Int) > 127) := of_decide_eq_false h3
   refine zS (z5 (zag (zaf rfl ?_)))
   have e6 : zdo (10) b n = (b0, n0) := by
    rewrite [← hI0]
    rewrite [zdo]
    try dsimp only
    rewrite [if_neg g3]
    all_goals rfl
   exact z0 (b0, n0) ⟨e6, by first | assumption | omega | (simp; omega) | simp_all | grind⟩ (zD.ren [] aP1 aP1 rfl ⟨⟨rfl, rfl⟩, ⟨rfl, rfl⟩, trivial⟩ ⟨⟨rfl, rfl, rfl⟩, trivial⟩ aP0)
 ·rintro ⟨b_0, n_0⟩ ⟨(hJ1 : zdo (10) b n = (b_0, n_0)), hE0⟩
  refine zu (zg rfl (za rfl (za rfl (za rfl ?_))))
  refine zrM (zpY n_0) ?_
  refine zz (o := .row _ _ [_]) (nx' := 2) rfl rfl rfl aP0 ?_
  refine zL (m := 1) (new := [_]) (cs' := encY (b_0 ++ [(by8 n_0)])) (n' := (b_0 ++ [(by8 n_0)]).length) (H' := [(1, .row _ _ _), (0, .row _ _ _)]) rfl rfl rfl (rfl) rfl rfl rfl rfl rfl rfl (zdj b_0) (rfl) aP3 (zaV b_0 _) (((zgG b_0 (by8 n_0))).symm) (.inl rfl) rfl rfl (.keep rfl (.keep rfl .nil)) (.keep rfl (.keep rfl (.keep rfl (.lose (v' := .undef) rfl (.lose (v' := .undef) rfl (.keep rfl .nil)))))) ?_
  refine za rfl (zd (zl ?_))
  have e8 : put b n = (b_0 ++ [(by8 n_0)]) := by
   unfold put
   try dsimp only
   rewrite [hJ1]
   try dsimp only
   all_goals rfl
  rw [e8]
  exact zaa [] [] rfl ⟨trivial, trivial⟩ rfl aP9 (rfl) rfl rfl rfl aP0 rfl rfl ⟨⟨rfl, rfl⟩, trivial⟩

def za6 : Nat → (List UInt8) → Int → (List UInt8) × Int
  | 0, _, _ => default
  | n_ + 1, b0, n0 => if (n0 : Int) ≥ 128 then za6 n_ (b0 ++ [(by8 (IntKind.u64.wrap (128 + ((n0 : Int).tmod 128))))]) (IntKind.u64.wrap ((n0 : Int).tdiv 128)) else (b0, n0)
def zeU (b : List UInt8) (n : Int) : List UInt8 :=
  (match za6 (10) b n with
    | (b_0, n_0) => (b_0 ++ [(by8 n_0)]))
theorem zlq (b : List UInt8) (n : Int) (hb : b.length ≤ 16000000) (hn : 0 ≤ n ∧ n < 18446744073709551616) : Ok Tryz.prog 75 [.ref 0 1 0 b.length, .pv (.int .u64 n)] [.row 5 1 (encY b)] (.ref 0 1 0 (zeU b n).length) [.row 5 1 (encY (zeU b n))] [0] := by
 refine zx Tryz.func75 rfl ?_
 show zaG Tryz.prog _ _ ⟨[(0, .ref 0 1 0 b.length), (1, .pv (.int .u64 n))], [(0, .row 5 1 (encY b))], 1, [], 21, 1⟩
 refine zg rfl (zz (nx' := 2) rfl rfl rfl trivial (zd (zm ?_)))
 refine zX (fun w_ : (List UInt8) × Int => match w_ with | (b_0, n_0) => (⟨[(0, .ref 0 1 0 b_0.length), (1, .pv (.int .u64 n_0))], [(0, .row 5 1 (encY b_0))], 1, [0], 21, 1⟩ : St)) (fun w_ : (List UInt8) × Int => match w_ with | (b_0, n_0) => za6 (10) b n = (b_0, n_0) ∧ (b_0.length ≤ 16000010)) ?_ ?_
 ·refine zw ?_
  refine z1 (fun w_ : Nat × (List UInt8) × Int => match w_ with | (f0, b0, n0) => (⟨[(0, .ref 0 1 0 b0.length), (1, .pv (.int .u64 n0))], [(0, .row 5 1 (encY b0))], 1, [0], 21, 1⟩ : St)) (fun w_ : Nat × (List UInt8) × Int => match w_ with | (f0, b0, n0) => za6 f0 b0 n0 = za6 (10) b n ∧ 0 < f0 ∧ n0.toNat < 128 ^ f0 ∧ 0 ≤ n0 ∧ b0.length + f0 ≤ 16000010) (fun w_ : Nat × (List UInt8) × Int => match w_ with | (f0, b0, n0) => f0) (10, b, n) (⟨rfl, aP2, ⟨zpP hn, hn.1, by omega⟩⟩) ?_ (fun w_ hh_ => ?_)
  ·exact (zD.ren [] aP1 aP1 rfl ⟨⟨rfl, rfl⟩, ⟨rfl, rfl⟩, trivial⟩ ⟨⟨rfl, rfl, rfl⟩, trivial⟩ aP0)
  obtain ⟨f0, b0, n0⟩ := w_
  obtain ⟨hI0, hb0, hv0⟩ := hh_
  obtain ⟨f0, rfl⟩ : ∃ z_, f0 = z_ + 1 := ⟨f0 - 1, by omega⟩
  refine zm (zg rfl (za rfl (zi rfl rfl rfl rfl rfl trivial (zd ?_))))
  refine zr rfl (fun h3 => ?_) (fun h3 => ?_)
  ·have g3 : (n0 : Int) ≥ 128 := of_decide_eq_true h3
   refine zt (zu (zw (zg rfl (za rfl (za rfl ?_)))))
   refine zi rfl rfl rfl rfl rfl aP13 ?_
   refine zi rfl rfl rfl rfl rfl trivial (za rfl ?_)
   refine zrM (zpY (IntKind.u64.wrap (128 + ((n0 : Int).tmod 128)))) ?_
   refine zz (o := .row _ _ [_]) (nx' := 2) rfl rfl rfl aP0 ?_
   refine zL (m := 1) (new := [_]) (cs' := encY (b0 ++ [(by8 (IntKind.u64.wrap (128 + ((n0 : Int).tmod 128))))])) (n' := (b0 ++ [(by8 (IntKind.u64.wrap (128 + ((n0 : Int).tmod 128))))]).length) (H' := [(1, .row _ _ _), (0, .row _ _ _)]) rfl rfl rfl (rfl) rfl rfl rfl rfl rfl rfl (zdj b0) (rfl) aP3 (zaV b0 _) (((zgG b0 (by8 (IntKind.u64.wrap (128 + ((n0 : Int).tmod 128)))))).symm) (.inl rfl) rfl rfl (.keep rfl (.keep rfl .nil)) (.keep rfl (.keep rfl (.keep rfl (.keep rfl (.keep rfl (.lose (v' := .undef) rfl (.keep rfl (.keep rfl (.lose (v' := .undef) rfl (.keep rfl .nil)))))))))) ?_
   refine za rfl (zd (zy rfl (za rfl ?_)))
   refine zi rfl rfl rfl rfl rfl aP13 ?_
   refine za rfl (zq (zal ?_))
   have e5 : za6 (f0 + 1) b0 n0 = za6 f0 (b0 ++ [(by8 (IntKind.u64.wrap (128 + ((n0 : Int).tmod 128))))]) (IntKind.u64.wrap ((n0 : Int).tdiv 128)) := by
    rewrite [za6]
    try dsimp only
    rewrite [if_pos g3]
    all_goals rfl
   have hq := zri hv0.2.1 hv0.1
   exact zQ (f0, (b0 ++ [(by8 (IntKind.u64.wrap (128 + ((n0 : Int).tmod 128))))]), (IntKind.u64.wrap ((n0 : Int).tdiv 128))) ⟨e5.symm.trans hI0, (zqn (f := f0) aP5 hv0.1), ⟨hq.1, hq.2, by simp only [List.length_append, List.length_cons, List.length_nil]; omega⟩⟩ (Nat.lt_succ_self _) (zD.ren [] aP1 aP1 rfl ⟨⟨rfl, rfl⟩, ⟨rfl, rfl⟩, trivial⟩ ⟨⟨rfl, rfl, rfl⟩, trivial⟩ aP0)
  ·have g3 : ¬ ((n0 : Int) ≥ 128) := of_decide_eq_false h3
   refine zS (z5 (zag (zaf rfl ?_)))
   have e6 : za6 (10) b n = (b0, n0) := by
    rewrite [← hI0]
    rewrite [za6]
    try dsimp only
    rewrite [if_neg g3]
    all_goals rfl
   exact z0 (b0, n0) ⟨e6, by first | assumption | omega | (simp; omega) | simp_all | grind⟩ (zD.ren [] aP1 aP1 rfl ⟨⟨rfl, rfl⟩, ⟨rfl, rfl⟩, trivial⟩ ⟨⟨rfl, rfl, rfl⟩, trivial⟩ aP0)
 ·rintro ⟨b_0, n_0⟩ ⟨(hJ1 : za6 (10) b n = (b_0, n_0)), hE0⟩
  refine zu (zg rfl (za rfl (za rfl (za rfl ?_))))
  refine zrM (zpY n_0) ?_
  refine zz (o := .row _ _ [_]) (nx' := 2) rfl rfl rfl aP0 ?_
  refine zL (m := 1) (new := [_]) (cs' := encY (b_0 ++ [(by8 n_0)])) (n' := (b_0 ++ [(by8 n_0)]).length) (H' := [(1, .row _ _ _), (0, .row _ _ _)]) rfl rfl rfl (rfl) rfl rfl rfl rfl rfl rfl (zdj b_0) (rfl) aP3 (zaV b_0 _) (((zgG b_0 (by8 n_0))).symm) (.inl rfl) rfl rfl (.keep rfl (.keep rfl .nil)) (.keep rfl (.keep rfl (.keep rfl (.lose (v' := .undef) rfl (.lose (v' := .undef) rfl (.keep rfl .nil)))))) ?_
  refine za rfl (zd (zl ?_))
  have e8 : zeU b n = (b_0 ++ [(by8 n_0)]) := by
   unfold zeU
   try dsimp only
   rewrite [hJ1]
   try dsimp only
   all_goals rfl
  rw [e8]
  exact zaa [] [] rfl ⟨trivial, trivial⟩ rfl aP9 (rfl) rfl rfl rfl aP0 rfl rfl ⟨⟨rfl, rfl⟩, trivial⟩

def signed (n : Int) : Int :=
  if (n : Int) < 0 then (IntKind.u64.wrap ((IntKind.u64.wrap (2 * (IntKind.u64.wrap (IntKind.i64.wrap (0 - (IntKind.i64.wrap (n + 1))))))) + 1)) else (IntKind.u64.wrap (2 * (IntKind.u64.wrap n)))
theorem zpK (n : Int) : Ok Tryz.prog 76 [I n] [] (.pv (.int .u64 (signed n))) [] [] := by
 refine zx Tryz.func76 rfl ?_
 refine zg rfl (za rfl (zd (zm (zg rfl (za rfl (zi rfl rfl rfl rfl rfl trivial (zd ?_)))))))
 refine zr rfl (fun h2 => ?_) (fun h2 => ?_)
 ·have g2 : (n : Int) < 0 := of_decide_eq_true h2
  refine zg rfl (za rfl (zi rfl rfl rfl rfl rfl trivial (za rfl (za rfl (zi rfl rfl rfl rfl rfl trivial (zi rfl rfl rfl rfl rfl trivial (za rfl (zd (zl (zE ?_))))))))))
  have e4 : signed n = (IntKind.u64.wrap ((IntKind.u64.wrap (2 * (IntKind.u64.wrap (IntKind.i64.wrap (0 - (IntKind.i64.wrap (n + 1))))))) + 1)) := by
   unfold signed
   try dsimp only
   rewrite [if_pos g2]
   all_goals rfl
  rw [e4]
  exact zk rfl ⟨trivial, trivial⟩ (rfl) rfl
 ·have g2 : ¬ ((n : Int) < 0) := of_decide_eq_false h2
  refine zt (zu (zg rfl (za rfl (za rfl (zi rfl rfl rfl rfl rfl trivial (za rfl (zd (zl ?_))))))))
  have e6 : signed n = (IntKind.u64.wrap (2 * (IntKind.u64.wrap n))) := by
   unfold signed
   try dsimp only
   rewrite [if_neg g2]
   all_goals rfl
  rw [e6]
  exact zk rfl ⟨trivial, trivial⟩ (rfl) rfl

theorem zke : ∀ (f : Nat) (b : List UInt8) (n : Int), (zdo f b n).1.length ≤ b.length + f
  | 0, b, n => by simp [zdo]; show (default : List UInt8).length ≤ _; exact Nat.zero_le _
  | f + 1, b, n => by
    rw [zdo]
    split
    · have := zke f (b ++ [((by8 n) ||| (128 : UInt8))]) (shrK IntKind.u64 n 7)
      simp only [List.length_append, List.length_cons, List.length_nil] at this; omega
    · show b.length ≤ _; omega
theorem zmU (b : List UInt8) (n : Int) : (put b n).length ≤ b.length + 11 := by
  have := zke 10 b n
  unfold put; simp only [List.length_append, List.length_cons, List.length_nil]; omega
theorem zg3 : ∀ (f : Nat) (b : List UInt8) (n : Int), (za6 f b n).1.length ≤ b.length + f
  | 0, b, n => by simp [za6]; show (default : List UInt8).length ≤ _; exact Nat.zero_le _
  | f + 1, b, n => by
    rw [za6]
    split
    · have := zg3 f (b ++ [(by8 (IntKind.u64.wrap (128 + ((n : Int).tmod 128))))]) (IntKind.u64.wrap ((n : Int).tdiv 128))
      simp only [List.length_append, List.length_cons, List.length_nil] at this; omega
    · show b.length ≤ _; omega
theorem zhL (b : List UInt8) (n : Int) : (zeU b n).length ≤ b.length + 11 := by
  have := zg3 10 b n
  unfold zeU; simp only [List.length_append, List.length_cons, List.length_nil]; omega
theorem zuW (a b : Int) : 0 ≤ xorK .u64 a b ∧ xorK .u64 a b < 18446744073709551616 := zdw _
theorem zrh (n : Int) : 0 ≤ fold n ∧ fold n < 18446744073709551616 := zuW _ _
theorem zqo (n : Int) : 0 ≤ signed n ∧ signed n < 18446744073709551616 := by unfold signed; split <;> exact zdw _


def zie (b : List UInt8) : List UInt8 :=
  b
theorem zsY (b : List UInt8) (b_f : Bool) (hb : b.length ≤ 4000) : Ok Tryz.prog 110 [.pv (.slc b.length b_f (encY b))] [] (.ref 0 1 0 (zie b).length) [.row 5 1 (encY (zie b))] [] := by
 refine Ok.len fun hlen => ?_
 have hl_b := hlL (n := b.length) hlen
 refine zx Tryz.func110 rfl ?_
 refine zg rfl (zz (nx' := 1) rfl rfl rfl trivial (zd (zg rfl (zh rfl rfl ⟨by decide, rfl⟩ (za rfl ?_)))))
 refine zbO (m := b.length) (new := encY b) (cs' := encY b) (n' := b.length) rfl rfl (rfl) rfl rfl rfl rfl rfl rfl (zdj b) aP3 rfl rfl rfl rfl ?_
 refine za rfl (zd (zl ?_))
 have e1 : zie b = b := by
  unfold zie
  try dsimp only
  all_goals rfl
 rw [e1]
 exact zaa [] [1] rfl ⟨trivial, trivial⟩ rfl aP9 (rfl) rfl rfl rfl aP0 rfl rfl ⟨⟨rfl, rfl⟩, trivial⟩

def putU (b : List UInt8) (n : Int) : List UInt8 :=
  (put b (IntKind.u64.wrap (max n 0)))
theorem zuo (b : List UInt8) (b_f : Bool) (n : Int) (hb : b.length ≤ 4000) : Ok Tryz.prog 70 [.pv (.slc b.length b_f (encY b)), I n] [] (.ref 0 1 0 (putU b n).length) [.row 5 1 (encY (putU b n))] [] := by
 refine Ok.len fun hlen => ?_
 have hl_b := hlL (n := b.length) hlen
 refine zx Tryz.func70 rfl ?_
 refine zg rfl (zz (nx' := 1) rfl rfl rfl trivial (zd (zg rfl (za rfl ?_))))
 refine zb5 (out' := .ref 1 _ _ _) (H' := [(1, .row _ _ _), (0, _)]) (nx' := 2) rfl rfl rfl rfl rfl rfl rfl aP6 (znm b false (by first | assumption | omega | (simp; omega) | simp_all)) rfl rfl rfl rfl ?_
 refine za rfl ?_
 refine znB rfl rfl rfl ?_
 refine za rfl ?_
 refine zar (Hin := [.row _ _ _]) (out' := .ref 1 _ _ _) (H' := [(1, .row _ _ _), (0, .row _ _ _)]) (nx' := 2) [1] rfl rfl rfl rfl (.inl rfl) rfl rfl rfl rfl (ztD b (IntKind.u64.wrap (max n 0)) aP4 (by first | assumption | exact zdw _ | exact zrh _)) rfl aP0 rfl rfl (.keep rfl (.keep rfl .nil)) (.keep rfl (.keep rfl (.keep rfl (.lose (v' := .undef) rfl (.keep rfl (.keep rfl (.keep rfl (.keep rfl .nil)))))))) rfl rfl rfl rfl ?_
 have p2 := zmU b (IntKind.u64.wrap (max n 0))
 refine za rfl (zd (zl ?_))
 have e3 : putU b n = (put b (IntKind.u64.wrap (max n 0))) := by
  unfold putU
  try dsimp only
  all_goals rfl
 rw [e3]
 exact zaa [] [1] rfl ⟨trivial, trivial⟩ rfl aP9 (rfl) rfl rfl rfl aP0 rfl rfl ⟨⟨rfl, rfl⟩, trivial⟩

theorem zsH (b : List UInt8) (n : Int) : (putU b n).length ≤ b.length + 11 := zmU _ _

def zcq : List Int → Nat → (List UInt8) → List UInt8
  | [], k0, out0 => out0
  | x0 :: l_, k0, out0 => zcq l_ (k0 + 1) (put out0 (fold x0))
def zlZ (b : List UInt8) (l : List Int) : List UInt8 :=
  (let out_0 := zcq l 0 (putU b l.length); out_0)
theorem zs7 (b : List UInt8) (b_f : Bool) (l : List Int) (l_f : Bool) (hb : b.length ≤ 100) (hl : l.length ≤ 1400000) : Ok Tryz.prog 33 [.pv (.slc b.length b_f (encY b)), .pv (.slc l.length l_f (encI l))] [] (.ref 0 1 0 (zlZ b l).length) [.row 5 1 (encY (zlZ b l))] [] := by
 refine Ok.len fun hlen => ?_
 have hl_b := hlL (n := b.length) hlen
 have hl_l := hlL (n := l.length) hlen
 refine zx Tryz.func33 rfl ?_
 refine zg rfl (zz (nx' := 1) rfl rfl rfl trivial (zd (zg rfl (za rfl (za rfl (za rfl ?_))))))
 refine zb5 (out' := .ref 1 _ _ _) (H' := [(1, .row _ _ _), (0, _)]) (nx' := 2) rfl rfl rfl rfl rfl rfl rfl aP6 (zuo b false l.length aP4) rfl rfl rfl rfl ?_
 have p1 := zsH b l.length
 refine za rfl (zd (zm (zg rfl (za rfl (za rfl (za rfl (zd ?_)))))))
 refine zX (fun out_0 : List UInt8 => (⟨[(5, .ref 0 1 0 out_0.length)], [(0, .row 5 1 (encY out_0))], 1, [], 24, 0⟩ : St)) (fun out_0 : List UInt8 => zcq l 0 (putU b l.length) = out_0 ∧ (out_0.length ≤ b.length + 11 + 11 * l.length)) ?_ ?_
 ·refine zw ?_
  refine z1 (fun w_ : Nat × (List UInt8) => match w_ with | (k0, out0) => (⟨[(5, .ref 0 1 0 out0.length), (12, .pv (.slc l.length l_f (encI l))), (13, I l.length), (14, I k0)], [(0, .row 5 1 (encY out0))], 1, [], 24, 0⟩ : St)) (fun w_ : Nat × (List UInt8) => match w_ with | (k0, out0) => zcq (l.drop k0) k0 out0 = zcq l 0 (putU b l.length) ∧ k0 ≤ l.length ∧ out0.length ≤ b.length + 11 + 11 * k0) (fun w_ : Nat × (List UInt8) => match w_ with | (k0, out0) => l.length - k0) (0, (putU b l.length)) (⟨rfl, Nat.zero_le _, by first | omega | simp | (simp; omega)⟩) ?_ (fun w_ hh_ => ?_)
  ·exact (zD.ren [(0, 1), (1, 0)] aP1 aP1 rfl ⟨⟨rfl, rfl⟩, ⟨rfl, rfl⟩, ⟨rfl, rfl⟩, ⟨rfl, rfl⟩, trivial⟩ ⟨⟨rfl, rfl, rfl⟩, trivial⟩ aP0)
  obtain ⟨k0, out0⟩ := w_
  obtain ⟨hI0, hb0, hv0⟩ := hh_
  refine zg rfl (zi rfl rfl rfl rfl rfl trivial (zd (zm ?_)))
  refine zr rfl (fun h3 => ?_) (fun h3 => ?_)
  ·have g3 : (k0 : Int) < l.length := of_decide_eq_true h3
   have hk0 : k0 < l.length := by omega
   obtain ⟨x0, hx0⟩ : ∃ z_, l[k0]? = some z_ := ⟨_, List.getElem?_eq_getElem hk0⟩
   refine zt (zu (zm (zw (zg rfl (zJ (k := k0) rfl rfl rfl rfl hk0 (zfF hk0) rfl (zO rfl rfl rfl (zep hx0) rfl (za rfl (zd (zy rfl (za rfl (za rfl (zB rfl rfl rfl rfl (ztQ x0) rfl rfl rfl ?_))))))))))))
   refine zar (Hin := [.row _ _ _]) (out' := .ref 0 _ _ _) (H' := [(0, .row _ _ _)]) (nx' := 1) [0] rfl rfl rfl rfl (.inl rfl) rfl rfl rfl rfl (ztD out0 (fold x0) aP4 (by first | assumption | exact zdw _ | exact zrh _)) rfl aP0 rfl rfl (.keep rfl .nil) (.keep rfl (.keep rfl (.lose (v' := .undef) rfl (.keep rfl (.keep rfl (.keep rfl (.keep rfl (.lose (v' := .undef) rfl (.keep rfl (.keep rfl (.keep rfl .nil))))))))))) rfl rfl rfl rfl ?_
   have p5 := zmU out0 (fold x0)
   refine za rfl (zq (zal (zu (zy rfl (zi rfl rfl rfl rfl rfl trivial (za rfl (zq ?_)))))))
   have e7 : zcq (l.drop k0) k0 out0 = zcq (l.drop (k0 + 1)) (k0 + 1) (put out0 (fold x0)) := by
    rewrite [zT hx0]
    rewrite [zcq]
    try dsimp only
    all_goals rfl
   exact zQ (k0 + 1, (put out0 (fold x0))) ⟨e7.symm.trans hI0, hk0, by first | omega | assumption | (simp only [List.length_append, List.length_cons, List.length_nil, List.length_set]; omega) | (simp; omega) | grind⟩ (by show l.length - (k0 + 1) < l.length - k0; omega) (zD.ren [] aP1 aP1 rfl ⟨⟨rfl, rfl⟩, ⟨rfl, rfl⟩, ⟨rfl, rfl⟩, ⟨congrArg (fun n => some (I n)) (zbS (k := k0) aP2), rfl⟩, trivial⟩ ⟨⟨rfl, rfl, rfl⟩, trivial⟩ aP0)
  ·have g3 : ¬ ((k0 : Int) < l.length) := of_decide_eq_false h3
   have hk0 : k0 = l.length := by omega
   refine zS (z5 (zag (zaf rfl ?_)))
   have e8 : zcq l 0 (putU b l.length) = out0 := by
    rewrite [← hI0, hk0, List.drop_length]
    rewrite [zcq]
    try dsimp only
    all_goals rfl
   exact z0 out0 ⟨e8, by first | assumption | omega | (simp; omega) | simp_all | grind⟩ (zD.ren [] aP1 aP1 rfl ⟨⟨rfl, rfl⟩, trivial⟩ ⟨⟨rfl, rfl, rfl⟩, trivial⟩ aP0)
 ·rintro out_0 ⟨(hJ2 : zcq l 0 (putU b l.length) = out_0), hE0⟩
  refine zu (zg rfl (za rfl (za rfl (zd (zl ?_)))))
  have e9 : zlZ b l = out_0 := by
   unfold zlZ
   try dsimp only
   rewrite [hJ2]
   try dsimp only
   all_goals rfl
  rw [e9]
  exact zaa [] [0] rfl ⟨trivial, trivial⟩ rfl aP9 (rfl) rfl rfl rfl aP0 rfl rfl ⟨⟨rfl, rfl⟩, trivial⟩
end Go.Proofs.YtppnccjeggnllaaGreat
namespace Go.Proofs.YtppnccjeggnllaaGreat
open Go Go.RowKit Go.Proofs.YtppnccjeggnllaaGreatVm
attribute [local irreducible] zY zas OpsS
set_option maxHeartbeats 400000
set_option maxRecDepth 100000
set_option linter.all false
theorem zk8 {c : zA} (h : Fits c) : Few9 c := ⟨fun x hx => Nat.le_trans (h.eff x hx) (by decide), fun x hx => Nat.le_trans (h.sc x hx).1 (by decide), fun x hx => Nat.le_trans (h.sc x hx).2 (by decide), Nat.le_trans h.ab (by decide), Nat.le_trans h.au (by decide), Nat.le_trans h.fo (by decide), Nat.le_trans h.wall (by decide)⟩

def enc (c : zA) : (List UInt8) × Int :=
  if zf4 c = true then ((zlZ ([(66 : UInt8), (82 : UInt8), (87 : UInt8), (49 : UInt8)]) (flat c)), 0) else ([], 1)
theorem zu6 (c : zA) (hF : Fits c) (hl : (flat c).length ≤ 1400000) : Ok Tryz.prog 13 [zak c] [] (.tup [.ref 0 1 0 (enc c).1.length, I (enc c).2]) [.row 5 1 (encY (enc c).1)] [] := by
 refine Ok.len fun hlen => ?_
 have hl_c_Abilities := hlL (n := c.Abilities.length) hlen
 have hl_c_Auras := hlL (n := c.Auras.length) hlen
 have hl_c_Foes := hlL (n := c.Foes.length) hlen
 have hl_c_Map_Wall := hlL (n := c.Map.Wall.length) hlen
 have hF9 := zk8 hF
 refine zx Tryz.func13 rfl ?_
 refine zg rfl (zz (o := .box [_, _, _, _, _, _, _, _, _, _]) (nx' := 1) rfl rfl rfl trivial (zz (nx' := 2) rfl rfl rfl trivial (za rfl (zd (zm (zg rfl (zh (v := (.agg [_, _, _, _, _, _, _, _, _, _])) rfl rfl (Nat.le_of_ble_eq_true rfl) (zB rfl rfl rfl rfl (zqr c (by first | assumption | exact zdk (by decide +kernel) | exact zgy (by assumption) | grind)) rfl rfl rfl (za rfl (zd ?_))))))))))
 refine zr rfl (fun h1 => ?_) (fun h1 => ?_)
 ·have g1 : ¬ (zf4 c = true) := zaA (zbA h1)
  refine zg rfl (zz (nx' := 3) rfl rfl rfl trivial (za rfl (zd (zl (zE ?_)))))
  have e2 : enc c = ([], 1) := by
   unfold enc
   try dsimp only
   rewrite [if_neg g1]
   all_goals rfl
  rw [e2]
  exact zaa [] [2] rfl ⟨trivial, trivial, trivial⟩ rfl aP9 (rfl) rfl rfl rfl aP0 rfl rfl ⟨⟨rfl, rfl⟩, trivial⟩
 ·have g1 : zf4 c = true := (zbz h1)
  refine zt (zu (zm ?_))
  refine ze7 rfl (zn7 1 (j := 0) ?_)
  simp only [List.take_succ_cons, List.take_zero, List.drop_succ_cons, List.drop_zero]
  refine zz (o := .row _ _ [_, _, _, _]) (nx' := 3) rfl rfl rfl aP0 (zq ?_)
  refine zlN rfl rfl rfl rfl rfl rfl rfl rfl rfl ?_
  refine zqK (j := 2) ?_
  refine zh (v := (.agg [_, _, _, _, _, _, _, _, _, _])) rfl rfl (Nat.le_of_ble_eq_true rfl) ?_
  refine zb5 (out' := .ref 3 _ _ _) (H' := [(3, .row _ _ _), (1, _), (0, _)]) (nx' := 4) rfl rfl rfl rfl rfl rfl rfl aP6 (zq9 c (by first | assumption)) rfl rfl rfl rfl ?_
  refine zaD (Hin := [.row _ _ _]) (out' := .ref 4 _ _ _) (H' := [(4, .row _ _ _), (3, _), (1, _), (0, _)]) (nx' := 5) [3] rfl rfl rfl rfl rfl rfl rfl rfl rfl aP6 (zs7 ([(66 : UInt8), (82 : UInt8), (87 : UInt8), (49 : UInt8)]) false (flat c) false aP4 aP4) rfl aP0 rfl rfl ⟨zjS, trivial⟩ rfl rfl rfl rfl ?_
  refine za rfl (za rfl (zd (zl ?_)))
  have e3 : enc c = ((zlZ ([(66 : UInt8), (82 : UInt8), (87 : UInt8), (49 : UInt8)]) (flat c)), 0) := by
   unfold enc
   try dsimp only
   rewrite [if_pos g1]
   all_goals rfl
  rw [e3]
  exact zaa [] [4] rfl ⟨trivial, trivial, trivial⟩ rfl aP9 (rfl) rfl rfl rfl aP0 rfl rfl ⟨⟨rfl, rfl⟩, trivial⟩
end Go.Proofs.YtppnccjeggnllaaGreat

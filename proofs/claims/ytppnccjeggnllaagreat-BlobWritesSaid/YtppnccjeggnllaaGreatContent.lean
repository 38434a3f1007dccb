import Derived.Test.YtppnccjeggnllaaGreatSl
namespace Go.Proofs.YtppnccjeggnllaaGreat
open Go Go.RowKit Go.Proofs.YtppnccjeggnllaaGreatVm
attribute [local irreducible] zY zas OpsS
set_option maxHeartbeats 400000
set_option maxRecDepth 100000
set_option linter.all false
theorem zro {α : Type} (p : α → Bool) (l : List α) : -1 ≤ fidx p l ∧ fidx p l < l.length := by
  rcases zhF p l with ⟨h, _⟩ | ⟨k, x, h, h2, _⟩
  · rw [h]; omega
  · rw [h]; have := (List.getElem?_eq_some_iff.1 h2).1; omega

def zgg (n : Int) : Bool :=
  if (n : Int) ≥ 1 then (decide ((n : Int) ≤ 256)) else false
theorem zn1 (n : Int) : Ok Tryz.prog 148 [I n] [] (B (zgg n)) [] [] := by
 refine zx Tryz.func148 rfl ?_
 refine zg rfl (za rfl (zd (zg rfl (za rfl (zi rfl rfl rfl rfl rfl trivial (za rfl ?_))))))
 refine zG rfl (fun h3 => ?_) (fun h3 => ?_)
 ·have g3 : (n : Int) ≥ 1 := of_decide_eq_true h3
  refine ze rfl h3 (za rfl (ze rfl h3 (zi rfl rfl rfl rfl rfl trivial (zo rfl h3 rfl rfl (za rfl (zd (zl ?_)))))))
  have e5 : zgg n = (decide ((n : Int) ≤ 256)) := by
   unfold zgg
   try dsimp only
   rewrite [if_pos g3]
   all_goals rfl
  rw [e5]
  exact zk rfl ⟨trivial, trivial⟩ (rfl) rfl
 ·have g3 : ¬ ((n : Int) ≥ 1) := of_decide_eq_false h3
  refine zf rfl h3 rfl (zf rfl h3 rfl (zn rfl h3 rfl rfl (za rfl (zd (zl ?_)))))
  have e6 : zgg n = false := by
   unfold zgg
   try dsimp only
   rewrite [if_neg g3]
   all_goals rfl
  rw [e6]
  exact zk rfl ⟨trivial, trivial⟩ (rfl) rfl

structure zdd where
  (W : Int)
  (H : Int)
  (Wall : List Bool)
  deriving DecidableEq, Inhabited
def zsa (x : zdd) : List PV := [i64 x.W, i64 x.H, .slc x.Wall.length false (encB x.Wall)]
abbrev zia (x : zdd) : AV := .agg [I x.W, I x.H, .pv (.slc x.Wall.length false (encB x.Wall))]
def zmG (x : zdd) : Prop := (InR x.W) ∧ (InR x.H) ∧ (x.Wall.length ≤ 140737488355328)

def zb1 (g : zdd) : Bool :=
  if zgg g.W = true then (if zgg g.H = true then ((g.Wall.length : Int) == (IntKind.i64.wrap (g.W * g.H))) else false) else false
theorem zl4 (g : zdd) : Ok Tryz.prog 140 [zia g] [] (B (zb1 g)) [] [] := by
 refine Ok.len fun hlen => ?_
 have hl_g_Wall := hlL (n := g.Wall.length) hlen
 refine zx Tryz.func140 rfl ?_
 refine zg rfl (zz (o := .box [_, _, _]) (nx' := 1) rfl rfl rfl trivial (za rfl (zd (zg rfl (za rfl (zd (zg rfl (za rfl (zh rfl rfl aP0 (za rfl (zB rfl rfl rfl rfl (zn1 g.W) rfl rfl rfl (za rfl ?_))))))))))))
 refine zG rfl (fun h2 => ?_) (fun h2 => ?_)
 ·have g2 : zgg g.W = true := h2
  refine ze rfl h2 (za rfl (ze rfl h2 (zh rfl rfl aP0 (ze rfl h2 (za rfl (ze rfl h2 (zB rfl rfl rfl rfl (zn1 g.H) rfl rfl rfl (zo rfl h2 rfl rfl (za rfl ?_)))))))))
  refine zG rfl (fun h4 => ?_) (fun h4 => ?_)
  ·have g4 : zgg g.H = true := h4
   refine ze rfl h4 (zh rfl rfl aP0 (ze rfl h4 (za rfl (ze rfl h4 (za rfl (ze rfl h4 (zh rfl rfl aP0 (ze rfl h4 (za rfl (ze rfl h4 (zh rfl rfl aP0 (ze rfl h4 (za rfl (ze rfl h4 (zi rfl rfl rfl rfl rfl trivial (ze rfl h4 (zi rfl rfl rfl rfl rfl trivial ?_)))))))))))))))))
   refine zo rfl h4 rfl rfl (za rfl (zd (zl ?_)))
   have e6 : zb1 g = ((g.Wall.length : Int) == (IntKind.i64.wrap (g.W * g.H))) := by
    unfold zb1
    try dsimp only
    rewrite [if_pos g2, if_pos g4]
    all_goals rfl
   rw [e6]
   exact zk rfl ⟨trivial, trivial⟩ (rfl) rfl
  ·have g4 : ¬ (zgg g.H = true) := zaA h4
   refine zf rfl h4 rfl (zf rfl h4 rfl (zf rfl h4 rfl (zf rfl h4 rfl (zf rfl h4 rfl (zf rfl h4 rfl (zf rfl h4 rfl (zf rfl h4 rfl (zf rfl h4 rfl (zn rfl h4 rfl rfl (za rfl (zd (zl ?_))))))))))))
   have e7 : zb1 g = false := by
    unfold zb1
    try dsimp only
    rewrite [if_pos g2, if_neg g4]
    all_goals rfl
   rw [e7]
   exact zk rfl ⟨trivial, trivial⟩ (rfl) rfl
 ·have g2 : ¬ (zgg g.W = true) := zaA h2
  refine zf rfl h2 rfl (zf rfl h2 rfl (zf rfl h2 rfl (zf rfl h2 rfl (zn rfl h2 rfl rfl (za rfl (zc rfl (zc rfl (zc rfl (zc rfl (zc rfl (zc rfl (zc rfl (zc rfl (zc rfl (za rfl (za rfl (zq ?_)))))))))))))))))
  refine zu (zl ?_)
  have e8 : zb1 g = false := by
   unfold zb1
   try dsimp only
   rewrite [if_neg g2]
   all_goals rfl
  rw [e8]
  exact zk rfl ⟨trivial, trivial⟩ (rfl) rfl

structure GPos where
  (X : Int)
  (Y : Int)
  deriving DecidableEq, Inhabited
def ztN (x : GPos) : List PV := [i64 x.X, i64 x.Y]
abbrev zpn (x : GPos) : AV := .agg [I x.X, I x.Y]
def zoa (x : GPos) : Prop := (InR x.X) ∧ (InR x.Y)
def zdb (g : zdd) (p : GPos) : Bool :=
  if (p.X : Int) ≥ 0 then (if (p.X : Int) < g.W then (if (p.Y : Int) ≥ 0 then (decide ((p.Y : Int) < g.H)) else false) else false) else false
theorem zps (g : zdd) (p : GPos) : Ok Tryz.prog 141 [zia g, zpn p] [] (B (zdb g p)) [] [] := by
 refine Ok.len fun hlen => ?_
 have hl_g_Wall := hlL (n := g.Wall.length) hlen
 refine zx Tryz.func141 rfl ?_
 refine zg rfl (zz (o := .box [_, _, _]) (nx' := 1) rfl rfl rfl trivial (zz (o := .box [_, _]) (nx' := 2) rfl rfl rfl trivial (za rfl (zd (zg rfl (zh rfl rfl aP0 (za rfl (zi rfl rfl rfl rfl rfl trivial (za rfl ?_)))))))))
 refine zG rfl (fun h2 => ?_) (fun h2 => ?_)
 ·have g2 : (p.X : Int) ≥ 0 := of_decide_eq_true h2
  refine ze rfl h2 (zh rfl rfl aP0 (ze rfl h2 (za rfl (ze rfl h2 (zh rfl rfl aP0 (ze rfl h2 (za rfl (ze rfl h2 (zi rfl rfl rfl rfl rfl trivial (zo rfl h2 rfl rfl (za rfl ?_)))))))))))
  refine zG rfl (fun h4 => ?_) (fun h4 => ?_)
  ·have g4 : (p.X : Int) < g.W := of_decide_eq_true h4
   refine ze rfl h4 (zh rfl rfl aP0 (ze rfl h4 (za rfl (ze rfl h4 (zi rfl rfl rfl rfl rfl trivial (zo rfl h4 rfl rfl (za rfl ?_)))))))
   refine zG rfl (fun h6 => ?_) (fun h6 => ?_)
   ·have g6 : (p.Y : Int) ≥ 0 := of_decide_eq_true h6
    refine ze rfl h6 (zh rfl rfl aP0 (ze rfl h6 (za rfl (ze rfl h6 (zh rfl rfl aP0 (ze rfl h6 (za rfl (ze rfl h6 (zi rfl rfl rfl rfl rfl trivial (zo rfl h6 rfl rfl (za rfl (zd (zl ?_)))))))))))))
    have e8 : zdb g p = (decide ((p.Y : Int) < g.H)) := by
     unfold zdb
     try dsimp only
     rewrite [if_pos g2, if_pos g4, if_pos g6]
     all_goals rfl
    rw [e8]
    exact zk rfl ⟨trivial, trivial⟩ (rfl) rfl
   ·have g6 : ¬ ((p.Y : Int) ≥ 0) := of_decide_eq_false h6
    refine zf rfl h6 rfl (zf rfl h6 rfl (zf rfl h6 rfl (zf rfl h6 rfl (zf rfl h6 rfl (zn rfl h6 rfl rfl (za rfl (zd (zl ?_))))))))
    have e9 : zdb g p = false := by
     unfold zdb
     try dsimp only
     rewrite [if_pos g2, if_pos g4, if_neg g6]
     all_goals rfl
    rw [e9]
    exact zk rfl ⟨trivial, trivial⟩ (rfl) rfl
  ·have g4 : ¬ ((p.X : Int) < g.W) := of_decide_eq_false h4
   refine zf rfl h4 rfl (zf rfl h4 rfl (zf rfl h4 rfl (zn rfl h4 rfl rfl (za rfl (zc rfl (zc rfl (zc rfl (zc rfl (zc rfl (za rfl (za rfl (zd (zl ?_)))))))))))))
   have e10 : zdb g p = false := by
    unfold zdb
    try dsimp only
    rewrite [if_pos g2, if_neg g4]
    all_goals rfl
   rw [e10]
   exact zk rfl ⟨trivial, trivial⟩ (rfl) rfl
 ·have g2 : ¬ ((p.X : Int) ≥ 0) := of_decide_eq_false h2
  refine zf rfl h2 rfl (zf rfl h2 rfl (zf rfl h2 rfl (zf rfl h2 rfl (zf rfl h2 rfl (zn rfl h2 rfl rfl (za rfl (zc rfl (zc rfl (zc rfl (za rfl (za rfl (zc rfl (zc rfl (zc rfl (zc rfl (zc rfl (za rfl ?_)))))))))))))))))
  refine za rfl (zd (zl ?_))
  have e11 : zdb g p = false := by
   unfold zdb
   try dsimp only
   rewrite [if_neg g2]
   all_goals rfl
  rw [e11]
  exact zk rfl ⟨trivial, trivial⟩ (rfl) rfl

def zeK (g : zdd) (p : GPos) : Bool :=
  if zb1 g = true then (zdb g p) else false
theorem zrt (g : zdd) (p : GPos) : Ok Tryz.prog 126 [zia g, zpn p] [] (B (zeK g p)) [] [] := by
 refine Ok.len fun hlen => ?_
 have hl_g_Wall := hlL (n := g.Wall.length) hlen
 refine zx Tryz.func126 rfl ?_
 refine zg rfl (zz (o := .box [_, _, _]) (nx' := 1) rfl rfl rfl trivial (zz (o := .box [_, _]) (nx' := 2) rfl rfl rfl trivial (za rfl (zd (zg rfl (zh (v := (.agg [_, _, _])) rfl rfl (Nat.le_of_ble_eq_true rfl) (zB rfl rfl rfl rfl (zl4 g) rfl rfl rfl (za rfl ?_))))))))
 refine zG rfl (fun h2 => ?_) (fun h2 => ?_)
 ·have g2 : zb1 g = true := h2
  refine ze rfl h2 (zh (v := (.agg [_, _, _])) rfl rfl (Nat.le_of_ble_eq_true rfl) (ze rfl h2 (zh (v := (.agg [_, _])) rfl rfl (Nat.le_of_ble_eq_true rfl) (ze rfl h2 (zB rfl rfl rfl rfl (zps g p) rfl rfl rfl (zo rfl h2 rfl rfl (za rfl (zd (zl ?_)))))))))
  have e4 : zeK g p = (zdb g p) := by
   unfold zeK
   try dsimp only
   rewrite [if_pos g2]
   all_goals rfl
  rw [e4]
  exact zk rfl ⟨trivial, trivial⟩ (rfl) rfl
 ·have g2 : ¬ (zb1 g = true) := zaA h2
  refine zf rfl h2 rfl (zf rfl h2 rfl (zf rfl h2 rfl (zn rfl h2 rfl rfl (za rfl (zd (zl ?_))))))
  have e5 : zeK g p = false := by
   unfold zeK
   try dsimp only
   rewrite [if_neg g2]
   all_goals rfl
  rw [e5]
  exact zk rfl ⟨trivial, trivial⟩ (rfl) rfl

theorem zir {n : Int} : zgg n = true ↔ 1 ≤ n ∧ n ≤ 256 := by
  unfold zgg
  split <;> simp <;> omega
theorem zgS {g : zdd} : zb1 g = true ↔ (1 ≤ g.W ∧ g.W ≤ 256) ∧ (1 ≤ g.H ∧ g.H ≤ 256) ∧ (g.Wall.length : Int) = IntKind.i64.wrap (g.W * g.H) := by
  unfold zb1
  by_cases h1 : zgg g.W = true
  · rw [if_pos h1]
    by_cases h2 : zgg g.H = true
    · rw [if_pos h2]; simp only [beq_iff_eq]; exact ⟨fun h => ⟨zir.1 h1, zir.1 h2, h⟩, fun h => h.2.2⟩
    · rw [if_neg h2]; exact ⟨(fun h => by cases h), fun h => absurd (zir.2 h.2.1) h2⟩
  · rw [if_neg h1]; exact ⟨(fun h => by cases h), fun h => absurd (zir.2 h.1) h1⟩
theorem zpk {g : zdd} {p : GPos} : zdb g p = true ↔ 0 ≤ p.X ∧ p.X < g.W ∧ 0 ≤ p.Y ∧ p.Y < g.H := by
  unfold zdb
  repeat' split
  all_goals simp <;> omega
theorem zpM {g : zdd} {p : GPos} (h : zeK g p = true) : 0 ≤ IntKind.i64.wrap (IntKind.i64.wrap (p.Y * g.W) + p.X) ∧ IntKind.i64.wrap (IntKind.i64.wrap (p.Y * g.W) + p.X) < g.Wall.length := by
  unfold zeK at h
  split at h
  case isFalse => cases h
  rename_i h1
  obtain ⟨h1, h2, h0⟩ := zgS.1 h1
  have h := zpk.1 h
  have a1 : p.Y * g.W ≤ (g.H - 1) * g.W := Int.mul_le_mul_of_nonneg_right (by omega) (by omega)
  have a2 : 0 ≤ p.Y * g.W := Int.mul_nonneg (by omega) (by omega)
  have a3 : g.H * g.W ≤ 256 * g.W := Int.mul_le_mul_of_nonneg_right (by omega) (by omega)
  rw [Int.sub_mul] at a1
  rw [Int.mul_comm g.W g.H] at h0
  generalize p.Y * g.W = a at *
  generalize g.H * g.W = b at *
  simp only [IntKind.wrap_i64] at *
  omega


def zrX (g : zdd) (p : GPos) : Bool :=
  (g.Wall.getD ((IntKind.i64.wrap ((IntKind.i64.wrap (p.Y * g.W)) + p.X)).toNat) default)
theorem aP14 {p : Prop} (h : p := by first | omega | (simp only [IntKind.wrap_i64]; omega) | (simp only [IntKind.wrap_i64] at *; omega) | (simp; omega)) : p := h
theorem zsu (g : zdd) (p : GPos) (hin : zeK g p = true) : Ok Tryz.prog 127 [zia g, zpn p] [] (B (zrX g p)) [] [] := by
 refine Ok.len fun hlen => ?_
 have hl_g_Wall := hlL (n := g.Wall.length) hlen
 have hw9 := zpM hin
 refine zx Tryz.func127 rfl ?_
 refine zg rfl (zz (o := .box [_, _, _]) (nx' := 1) rfl rfl rfl trivial (zz (o := .box [_, _]) (nx' := 2) rfl rfl rfl trivial (za rfl (zd (zg rfl (zh rfl rfl aP0 (za rfl (zh rfl rfl aP0 (za rfl (zh rfl rfl aP0 (za rfl (zi rfl rfl rfl rfl rfl trivial (zh rfl rfl aP0 (za rfl ?_))))))))))))))
 refine zi rfl rfl rfl rfl rfl trivial ?_
 have jk1 : (IntKind.i64.wrap ((IntKind.i64.wrap (p.Y * g.W)) + p.X)).toNat < g.Wall.length := by first | assumption | omega | (simp only [List.length_set, List.length_append]; omega) | (simp only [IntKind.wrap_i64] at *; omega) | (simp; omega) | simp_all
 refine zeF (k := (IntKind.i64.wrap ((IntKind.i64.wrap (p.Y * g.W)) + p.X)).toNat) rfl rfl (Int.toNat_of_nonneg aP14).symm rfl rfl jk1 (zgl jk1) rfl ?_
 refine zO rfl rfl rfl (ze8 (zaE jk1)) rfl (za rfl (zd (zl ?_)))
 have e3 : zrX g p = (g.Wall.getD ((IntKind.i64.wrap ((IntKind.i64.wrap (p.Y * g.W)) + p.X)).toNat) default) := by
  unfold zrX
  try dsimp only
  all_goals rfl
 rw [e3]
 exact zk rfl ⟨trivial, trivial⟩ (rfl) rfl

def zbu (g : zdd) (p : GPos) : Bool :=
  if zeK g p = true then (zrX g p) else true
theorem ziK (g : zdd) (p : GPos) : Ok Tryz.prog 100 [zia g, zpn p] [] (B (zbu g p)) [] [] := by
 refine Ok.len fun hlen => ?_
 have hl_g_Wall := hlL (n := g.Wall.length) hlen
 refine zx Tryz.func100 rfl ?_
 refine zg rfl (zz (o := .box [_, _, _]) (nx' := 1) rfl rfl rfl trivial (zz (o := .box [_, _]) (nx' := 2) rfl rfl rfl trivial (za rfl (zd (zg rfl (zh (v := (.agg [_, _, _])) rfl rfl (Nat.le_of_ble_eq_true rfl) (zh (v := (.agg [_, _])) rfl rfl (Nat.le_of_ble_eq_true rfl) (zB rfl rfl rfl rfl (zrt g p) rfl rfl rfl (za rfl (za rfl ?_))))))))))
 refine zG rfl (fun h2 => ?_) (fun h2 => ?_)
 ·have g2 : ¬ (zeK g p = true) := zaA (zbA h2)
  refine zf rfl h2 rfl (zf rfl h2 rfl (zf rfl h2 rfl (zo rfl h2 rfl rfl (za rfl (zd (zl ?_))))))
  have e3 : zbu g p = true := by
   unfold zbu
   try dsimp only
   rewrite [if_neg g2]
   all_goals rfl
  rw [e3]
  exact zk rfl ⟨trivial, trivial⟩ (rfl) rfl
 ·have g2 : zeK g p = true := (zbz h2)
  refine ze rfl h2 (zh (v := (.agg [_, _, _])) rfl rfl (Nat.le_of_ble_eq_true rfl) (ze rfl h2 (zh (v := (.agg [_, _])) rfl rfl (Nat.le_of_ble_eq_true rfl) (ze rfl h2 (zB rfl rfl rfl rfl (zsu g p (by first | assumption | simp_all)) rfl rfl rfl (zn rfl h2 rfl rfl (za rfl (zd (zl ?_)))))))))
  have e5 : zbu g p = (zrX g p) := by
   unfold zbu
   try dsimp only
   rewrite [if_pos g2]
   all_goals rfl
  rw [e5]
  exact zk rfl ⟨trivial, trivial⟩ (rfl) rfl

def zV (n : Int) (lo : Int) (hi : Int) : Bool :=
  if (n : Int) ≥ lo then (decide ((n : Int) ≤ hi)) else false
theorem zaN (n : Int) (lo : Int) (hi : Int) : Ok Tryz.prog 116 [I n, I lo, I hi] [] (B (zV n lo hi)) [] [] := by
 refine zx Tryz.func116 rfl ?_
 refine zg rfl (za rfl (zd (zg rfl (za rfl (za rfl (zi rfl rfl rfl rfl rfl trivial (za rfl ?_)))))))
 refine zG rfl (fun h4 => ?_) (fun h4 => ?_)
 ·have g4 : (n : Int) ≥ lo := of_decide_eq_true h4
  refine ze rfl h4 (za rfl (ze rfl h4 (za rfl (ze rfl h4 (zi rfl rfl rfl rfl rfl trivial (zo rfl h4 rfl rfl (za rfl (zd (zl ?_)))))))))
  have e7 : zV n lo hi = (decide ((n : Int) ≤ hi)) := by
   unfold zV
   try dsimp only
   rewrite [if_pos g4]
   all_goals rfl
  rw [e7]
  exact zk rfl ⟨trivial, trivial⟩ (rfl) rfl
 ·have g4 : ¬ ((n : Int) ≥ lo) := of_decide_eq_false h4
  refine zf rfl h4 rfl (zf rfl h4 rfl (zf rfl h4 rfl (zn rfl h4 rfl rfl (za rfl (zd (zl ?_))))))
  have e8 : zV n lo hi = false := by
   unfold zV
   try dsimp only
   rewrite [if_neg g4]
   all_goals rfl
  rw [e8]
  exact zk rfl ⟨trivial, trivial⟩ (rfl) rfl

def zgx (n : Int) : Bool :=
  (!(zV n 0 1000000))
theorem zoN (n : Int) : Ok Tryz.prog 134 [I n] [] (B (zgx n)) [] [] := by
 refine zx Tryz.func134 rfl ?_
 refine zg rfl (za rfl (zd (zg rfl (za rfl (zB rfl rfl rfl rfl (zaN n 0 1000000) rfl rfl rfl (za rfl (za rfl (zd (zl ?_)))))))))
 have e3 : zgx n = (!(zV n 0 1000000)) := by
  unfold zgx
  try dsimp only
  all_goals rfl
 rw [e3]
 exact zk rfl ⟨trivial, trivial⟩ (rfl) rfl

def za3 (l : List Int) : Bool :=
  (!(l.any (fun x_ => zgx x_)))
theorem zfb (l : List Int) (l_f : Bool) : Ok Tryz.prog 115 [.pv (.slc l.length l_f (encI l))] [] (B (za3 l)) [] [] := by
 refine Ok.len fun hlen => ?_
 have hl_l := hlL (n := l.length) hlen
 refine zx Tryz.func115 rfl ?_
 refine zg rfl (za rfl (zd (zg rfl (za rfl (zB rfl rfl rfl rfl (zsc l l_f 134 [] (fun x_ => zgx x_) ⟨rfl, rfl, fun _ => rfl, fun _ => rfl, fun x_ => zoN x_⟩) rfl rfl rfl (za rfl (za rfl (zd (zl ?_)))))))))
 have e2 : za3 l = (!(l.any (fun x_ => zgx x_))) := by
  unfold za3
  try dsimp only
  all_goals rfl
 rw [e2]
 exact zk rfl ⟨trivial, trivial⟩ (rfl) rfl

def idA (a : zI) : Int :=
  a.Id
theorem ztz (a : zI) : Ok Tryz.prog 90 [zaX a] [] (I (idA a)) [] [] := by
 refine Ok.len fun hlen => ?_
 have hl_a_Effects := hlL (n := a.Effects.length) hlen
 refine zx Tryz.func90 rfl ?_
 refine zg rfl (zz (o := .box [_, _, _, _, _, _, _, _]) (nx' := 1) rfl rfl rfl trivial (za rfl (zd (zg rfl (zh rfl rfl aP0 (za rfl (za rfl (zd (zl ?_)))))))))
 have e2 : idA a = a.Id := by
  unfold idA
  try dsimp only
  all_goals rfl
 rw [e2]
 exact zk rfl ⟨trivial, trivial⟩ (rfl) rfl

def isA (x_ : zI) (c2 : Int) : Bool :=
  ((idA x_ : Int) == c2)
theorem zu5 (x_ : zI) (c2 : Int) : Ok Tryz.prog 152 [zaX x_, .pptr [.fn 90] 0, .pptr [i64 c2] 0] [] (B (isA x_ c2)) [] [] := by
 refine Ok.len fun hlen => ?_
 have hl_x__Effects := hlL (n := x_.Effects.length) hlen
 refine zx Tryz.func152 rfl ?_
 refine zg rfl (zz (o := .box [_, _, _, _, _, _, _, _]) (nx' := 1) rfl rfl rfl trivial (za rfl (zd (zm ?_))))
 refine zav rfl aP1 rfl ?_
 refine zO rfl rfl rfl (rfl) rfl (zh (v := (.agg [_, _, _, _, _, _, _, _])) rfl rfl (Nat.le_of_ble_eq_true rfl) (zB rfl rfl rfl rfl (ztz x_) rfl rfl rfl (zO rfl rfl rfl (rfl) rfl (zi rfl rfl rfl rfl rfl trivial (za rfl (zd (zl ?_)))))))
 have e2 : isA x_ c2 = ((idA x_ : Int) == c2) := by
  unfold isA
  try dsimp only
  all_goals rfl
 rw [e2]
 exact zk rfl ⟨trivial, trivial⟩ (rfl) rfl

def zf0 (l : List zI) (want : Int) : zI × Bool :=
  if (fidx (fun x_ => isA x_ want) l : Int) < 0 then ((⟨0, 0, 0, 0, 0, 0, false, []⟩ : zI), false) else ((l.getD ((fidx (fun x_ => isA x_ want) l).toNat) default), true)
theorem aP6 {p : Prop} (h : p := by (repeat' apply And.intro) <;> first | trivial | rfl | exact zaZ (fun _ => rfl) _ | exact zab _ | exact zdY _ | exact zdj _ | exact Nat.le_of_ble_eq_true rfl | assumption) : p := h
theorem zs5 (l : List zI) (l_f : Bool) (want : Int) : Ok Tryz.prog 146 [.pv (.slc l.length l_f (l.flatMap zj)), .fnc 90 [], I want] [] (.tup [zaX (zf0 l want).1, B (zf0 l want).2]) [] [] := by
 refine Ok.len fun hlen => ?_
 have hl_l := hlL (n := l.length) hlen
 refine zx Tryz.func146 rfl ?_
 refine zbq (zD.loose (T' := [(0, .pv (.slc l.length l_f (l.flatMap zj))), (1, .pv (.fn 90)), (2, I want)]) (H' := []) ⟨⟨_, rfl, .inl rfl⟩, ⟨_, rfl, .inr rfl⟩, ⟨_, rfl, .inl rfl⟩, trivial⟩ trivial) ?_
 refine zg rfl (zz (o := .box [_]) (nx' := 1) rfl rfl rfl trivial (zz (o := .box [_]) (nx' := 2) rfl rfl rfl trivial (zz (o := .box [_, _, _, _, _, _, _, _]) (nx' := 3) rfl rfl rfl trivial (za rfl (zd (zg rfl (za rfl (za rfl ?_))))))))
 refine zaD (Hin := [.box [.pv _], .box [.pv _]]) (H' := [(2, _), (1, _), (0, _)]) (nx' := 3) [0, 1] rfl rfl rfl rfl rfl rfl rfl rfl rfl aP6 (zlx l false 152 [.pptr [.fn 90] 0, .pptr [i64 want] 0] (fun x_ => isA x_ want) ⟨rfl, rfl, fun _ => rfl, fun _ => rfl, fun x_ => zu5 x_ want⟩) rfl aP0 rfl rfl trivial rfl rfl rfl rfl ?_
 have p1 := zro (fun x_ => isA x_ want) l
 refine za rfl (zd (zm (zg rfl (za rfl (zi rfl rfl rfl rfl rfl trivial (zd ?_))))))
 refine zr rfl (fun h3 => ?_) (fun h3 => ?_)
 ·have g3 : (fidx (fun x_ => isA x_ want) l : Int) < 0 := of_decide_eq_true h3
  refine zg rfl (zh (v := (.agg [_, _, _, _, _, _, _, _])) rfl rfl (Nat.le_of_ble_eq_true rfl) ?_)
  refine zH (H' := [(2, .box [_, _, _, _, _, _, _, _]), (1, _), (0, _)]) rfl rfl rfl rfl rfl rfl (.inl rfl) rfl ?_
  refine za rfl (zd ?_)
  refine zbq (zD.loose (T' := [(6, .ptr 2 0), (7, B false)]) (H' := [(2, .box [I 0, I 0, I 0, I 0, I 0, I 0, B false, .pv (.slc 0 false [])])]) ⟨⟨_, rfl, .inl rfl⟩, ⟨_, rfl, .inl rfl⟩, trivial⟩ ⟨⟨_, rfl, .inr rfl⟩, trivial⟩) ?_
  refine zl (zE ?_)
  have e4 : zf0 l want = ((⟨0, 0, 0, 0, 0, 0, false, []⟩ : zI), false) := by
   unfold zf0
   try dsimp only
   rewrite [if_pos g3]
   all_goals rfl
  rw [e4]
  exact zk rfl ⟨Nat.le_of_ble_eq_true rfl, trivial, trivial⟩ (rfl) rfl
 ·have g3 : ¬ ((fidx (fun x_ => isA x_ want) l : Int) < 0) := of_decide_eq_false h3
  refine zt (zu (zg rfl (za rfl (za rfl ?_))))
  have jk5 : (fidx (fun x_ => isA x_ want) l).toNat < l.length := by first | assumption | omega | (simp only [List.length_set, List.length_append]; omega) | (simp only [IntKind.wrap_i64] at *; omega) | (simp; omega) | simp_all
  refine zeF (k := (fidx (fun x_ => isA x_ want) l).toNat) rfl rfl (Int.toNat_of_nonneg aP14).symm rfl rfl jk5 (z3 (s := 8) (enc := zj) (fun _ => rfl) aP0 jk5) rfl ?_
  refine zF rfl rfl rfl (zai (s := 8) (enc := zj) (fun _ => rfl) jk5) (zZ (s := 8) (enc := zj) (fun _ => rfl) (zaE jk5)) rfl ?_
  refine zH (H' := [(2, .box [_, _, _, _, _, _, _, _]), (1, _), (0, _)]) rfl rfl rfl rfl rfl rfl (.inl rfl) rfl ?_
  refine za rfl (zd (zl ?_))
  have e6 : zf0 l want = ((l.getD ((fidx (fun x_ => isA x_ want) l).toNat) default), true) := by
   unfold zf0
   try dsimp only
   rewrite [if_neg g3]
   all_goals rfl
  rw [e6]
  exact zk rfl ⟨Nat.le_of_ble_eq_true rfl, trivial, trivial⟩ (rfl) rfl

def idU (a : zaI) : Int :=
  a.Id
theorem ztw (a : zaI) : Ok Tryz.prog 94 [zfk a] [] (I (idU a)) [] [] := by
 refine zx Tryz.func94 rfl ?_
 refine zg rfl (zz (o := .box [_, _, _, _, _, _, _]) (nx' := 1) rfl rfl rfl trivial (za rfl (zd (zg rfl (zh rfl rfl aP0 (za rfl (za rfl (zd (zl ?_)))))))))
 have e2 : idU a = a.Id := by
  unfold idU
  try dsimp only
  all_goals rfl
 rw [e2]
 exact zk rfl ⟨trivial, trivial⟩ (rfl) rfl

def isU (x_ : zaI) (c2 : Int) : Bool :=
  ((idU x_ : Int) == c2)
theorem zuH (x_ : zaI) (c2 : Int) : Ok Tryz.prog 150 [zfk x_, .pptr [.fn 94] 0, .pptr [i64 c2] 0] [] (B (isU x_ c2)) [] [] := by
 refine zx Tryz.func150 rfl ?_
 refine zg rfl (zz (o := .box [_, _, _, _, _, _, _]) (nx' := 1) rfl rfl rfl trivial (za rfl (zd (zm ?_))))
 refine zav rfl aP1 rfl ?_
 refine zO rfl rfl rfl (rfl) rfl (zh (v := (.agg [_, _, _, _, _, _, _])) rfl rfl (Nat.le_of_ble_eq_true rfl) (zB rfl rfl rfl rfl (ztw x_) rfl rfl rfl (zO rfl rfl rfl (rfl) rfl (zi rfl rfl rfl rfl rfl trivial (za rfl (zd (zl ?_)))))))
 have e2 : isU x_ c2 = ((idU x_ : Int) == c2) := by
  unfold isU
  try dsimp only
  all_goals rfl
 rw [e2]
 exact zk rfl ⟨trivial, trivial⟩ (rfl) rfl

def zi8 (l : List zaI) (want : Int) : zaI × Bool :=
  if (fidx (fun x_ => isU x_ want) l : Int) < 0 then ((⟨0, 0, 0, 0, 0, 0, false⟩ : zaI), false) else ((l.getD ((fidx (fun x_ => isU x_ want) l).toNat) default), true)
theorem zr1 (l : List zaI) (l_f : Bool) (want : Int) : Ok Tryz.prog 145 [.pv (.slc l.length l_f (l.flatMap zp)), .fnc 94 [], I want] [] (.tup [zfk (zi8 l want).1, B (zi8 l want).2]) [] [] := by
 refine Ok.len fun hlen => ?_
 have hl_l := hlL (n := l.length) hlen
 refine zx Tryz.func145 rfl ?_
 refine zbq (zD.loose (T' := [(0, .pv (.slc l.length l_f (l.flatMap zp))), (1, .pv (.fn 94)), (2, I want)]) (H' := []) ⟨⟨_, rfl, .inl rfl⟩, ⟨_, rfl, .inr rfl⟩, ⟨_, rfl, .inl rfl⟩, trivial⟩ trivial) ?_
 refine zg rfl (zz (o := .box [_]) (nx' := 1) rfl rfl rfl trivial (zz (o := .box [_]) (nx' := 2) rfl rfl rfl trivial (zz (o := .box [_, _, _, _, _, _, _]) (nx' := 3) rfl rfl rfl trivial (za rfl (zd (zg rfl (za rfl (za rfl ?_))))))))
 refine zaD (Hin := [.box [.pv _], .box [.pv _]]) (H' := [(2, _), (1, _), (0, _)]) (nx' := 3) [0, 1] rfl rfl rfl rfl rfl rfl rfl rfl rfl aP6 (zqO l false 150 [.pptr [.fn 94] 0, .pptr [i64 want] 0] (fun x_ => isU x_ want) ⟨rfl, rfl, fun _ => rfl, fun _ => rfl, fun x_ => zuH x_ want⟩) rfl aP0 rfl rfl trivial rfl rfl rfl rfl ?_
 have p1 := zro (fun x_ => isU x_ want) l
 refine za rfl (zd (zm (zg rfl (za rfl (zi rfl rfl rfl rfl rfl trivial (zd ?_))))))
 refine zr rfl (fun h3 => ?_) (fun h3 => ?_)
 ·have g3 : (fidx (fun x_ => isU x_ want) l : Int) < 0 := of_decide_eq_true h3
  refine zg rfl (zh (v := (.agg [_, _, _, _, _, _, _])) rfl rfl (Nat.le_of_ble_eq_true rfl) ?_)
  refine zH (H' := [(2, .box [_, _, _, _, _, _, _]), (1, _), (0, _)]) rfl rfl rfl rfl rfl rfl (.inl rfl) rfl ?_
  refine za rfl (zd (zl (zE ?_)))
  have e4 : zi8 l want = ((⟨0, 0, 0, 0, 0, 0, false⟩ : zaI), false) := by
   unfold zi8
   try dsimp only
   rewrite [if_pos g3]
   all_goals rfl
  rw [e4]
  exact zk rfl ⟨Nat.le_of_ble_eq_true rfl, trivial, trivial⟩ (rfl) rfl
 ·have g3 : ¬ ((fidx (fun x_ => isU x_ want) l : Int) < 0) := of_decide_eq_false h3
  refine zt (zu (zg rfl (za rfl (za rfl ?_))))
  have jk5 : (fidx (fun x_ => isU x_ want) l).toNat < l.length := by first | assumption | omega | (simp only [List.length_set, List.length_append]; omega) | (simp only [IntKind.wrap_i64] at *; omega) | (simp; omega) | simp_all
  refine zeF (k := (fidx (fun x_ => isU x_ want) l).toNat) rfl rfl (Int.toNat_of_nonneg aP14).symm rfl rfl jk5 (z3 (s := 7) (enc := zp) (fun _ => rfl) aP0 jk5) rfl ?_
  refine zF rfl rfl rfl (zai (s := 7) (enc := zp) (fun _ => rfl) jk5) (zZ (s := 7) (enc := zp) (fun _ => rfl) (zaE jk5)) rfl ?_
  refine zH (H' := [(2, .box [_, _, _, _, _, _, _]), (1, _), (0, _)]) rfl rfl rfl rfl rfl rfl (.inl rfl) rfl ?_
  refine za rfl (zd (zl ?_))
  have e6 : zi8 l want = ((l.getD ((fidx (fun x_ => isU x_ want) l).toNat) default), true) := by
   unfold zi8
   try dsimp only
   rewrite [if_neg g3]
   all_goals rfl
  rw [e6]
  exact zk rfl ⟨Nat.le_of_ble_eq_true rfl, trivial, trivial⟩ (rfl) rfl

def idF (f : GFoe) : Int :=
  f.Id
theorem zva (f : GFoe) : Ok Tryz.prog 97 [zg9 f] [] (I (idF f)) [] [] := by
 refine Ok.len fun hlen => ?_
 have hl_f_Script := hlL (n := f.Script.length) hlen
 have hl_f_Hoard := hlL (n := f.Hoard.length) hlen
 refine zx Tryz.func97 rfl ?_
 refine zg rfl (zz (o := .box [_, _, _, _, _, _, _, _]) (nx' := 1) rfl rfl rfl trivial (za rfl (zd (zg rfl (zh rfl rfl aP0 (za rfl (za rfl (zd (zl ?_)))))))))
 have e2 : idF f = f.Id := by
  unfold idF
  try dsimp only
  all_goals rfl
 rw [e2]
 exact zk rfl ⟨trivial, trivial⟩ (rfl) rfl

structure zA where
  (Abilities : List zI)
  (Auras : List zaI)
  (Foes : List GFoe)
  (Map : zdd)
  (Door : GPos)
  (Lair : GPos)
  deriving DecidableEq, Inhabited
def zmN (x : zA) : List PV := [.slc x.Abilities.length false (x.Abilities.flatMap zj), .slc x.Auras.length false (x.Auras.flatMap zp), .slc x.Foes.length false (x.Foes.flatMap zC), i64 x.Map.W, i64 x.Map.H, .slc x.Map.Wall.length false (encB x.Map.Wall), i64 x.Door.X, i64 x.Door.Y, i64 x.Lair.X, i64 x.Lair.Y]
abbrev zak (x : zA) : AV := .agg [.pv (.slc x.Abilities.length false (x.Abilities.flatMap zj)), .pv (.slc x.Auras.length false (x.Auras.flatMap zp)), .pv (.slc x.Foes.length false (x.Foes.flatMap zC)), I x.Map.W, I x.Map.H, .pv (.slc x.Map.Wall.length false (encB x.Map.Wall)), I x.Door.X, I x.Door.Y, I x.Lair.X, I x.Lair.Y]
def zd0 (x : zA) : Prop := ((∀ y ∈ x.Abilities, zeX y) ∧ x.Abilities.length ≤ 140737488355328) ∧ ((∀ y ∈ x.Auras, ziP y) ∧ x.Auras.length ≤ 140737488355328) ∧ ((∀ y ∈ x.Foes, zmv y) ∧ x.Foes.length ≤ 140737488355328) ∧ (zmG x.Map) ∧ (zoa x.Door) ∧ (zoa x.Lair)

structure Few9 (c : zA) : Prop where
  eff : ∀ a ∈ c.Abilities, a.Effects.length ≤ 16777216
  script : ∀ f ∈ c.Foes, f.Script.length ≤ 16777216
  hoard : ∀ f ∈ c.Foes, f.Hoard.length ≤ 16777216
  ab : c.Abilities.length ≤ 16777216
  au : c.Auras.length ≤ 16777216
  fo : c.Foes.length ≤ 16777216
  wall : c.Map.Wall.length ≤ 16777216

theorem zqP (l : List zI) (w : Int) : (zf0 l w).1 ∈ l ∨ (zf0 l w).1.Effects = [] := by
  unfold zf0
  rcases zhF (fun x_ => isA x_ w) l with ⟨h, _⟩ | ⟨k, x, h, h2, _⟩
  · rw [h, if_pos (by omega)]; exact .inr rfl
  · rw [h, if_neg (by omega)]
    left
    have : l.getD ((k : Int).toNat) default = x := by rw [Int.toNat_natCast, List.getD_eq_getElem?_getD, h2]; rfl
    show l.getD ((k : Int).toNat) default ∈ l
    rw [this]; exact List.mem_of_getElem? h2
theorem zum {c : zA} (h : Few9 c) {w : Int} : (zf0 c.Abilities w).1.Effects.length ≤ 16777216 := by
  rcases zqP c.Abilities w with h1 | h1
  · exact h.eff _ h1
  · rw [h1]; decide

def zo4 (a : zI) : zI :=
  a
theorem aP15 {p : Prop} (h : p := by (repeat' apply And.intro) <;> first | trivial | rfl | exact zaZ (s := 3) (enc := zN) (fun _ => rfl) _ | exact zaZ (fun _ => rfl) _ | exact zab _ | exact zdY _ | exact zdj _ | exact Nat.le_of_ble_eq_true rfl | assumption) : p := h
theorem zsI (a : zI) (hE : a.Effects.length ≤ 16777216) : Ok Tryz.prog 147 [zaX a] [] (zaX (zo4 a)) [] [] := by
 refine Ok.len fun hlen => ?_
 have hl_a_Effects := hlL (n := a.Effects.length) hlen
 refine zx Tryz.func147 rfl ?_
 refine zg rfl (zz (o := .box [_, _, _, _, _, _, _, _]) (nx' := 1) rfl rfl rfl trivial (zz (o := .box [_, _, _, _, _, _, _, _]) (nx' := 2) rfl rfl rfl trivial (zd (zg rfl (zh rfl rfl aP0 (za rfl ?_))))))
 refine zb5 (out' := .ref 2 _ _ _) (H' := [(2, .row _ _ _), (1, _), (0, _)]) (nx' := 3) rfl rfl rfl rfl rfl rfl rfl aP6 (zkw a.Effects false (by first | assumption | omega | (simp; omega) | simp_all)) rfl rfl rfl rfl ?_
 refine zh rfl rfl aP0 ?_
 refine zH (H' := [(2, _), (1, _), (0, .box [_, _, _, _, _, _, _, _])]) rfl rfl rfl rfl rfl rfl (.inl rfl) rfl ?_
 refine zd (zg rfl (zh (v := (.agg [_, _, _, _, _, _, _, _])) rfl rfl (Nat.le_of_ble_eq_true rfl) ?_))
 refine zH (H' := [(2, _), (1, .box [_, _, _, _, _, _, _, _]), (0, _)]) rfl rfl rfl rfl rfl rfl (.inl rfl) rfl ?_
 refine zd ?_
 refine zbq (zD.freezeJ (T' := [(2, .ptr 1 0)]) (H' := [(1, .box [I a.Id, I a.Cast, I a.Cool, I a.Charges, I a.Range, I a.Cost, B a.Sight, .pv (.slc a.Effects.length false (a.Effects.flatMap zN))])]) [2] aP0 ⟨⟨_, _, rfl, rfl, aP15⟩, trivial⟩ ⟨⟨rfl, _, _, rfl, rfl, aP15⟩, trivial⟩) ?_
 refine zl ?_
 have e1 : zo4 a = a := by
  unfold zo4
  try dsimp only
  all_goals rfl
 rw [e1]
 exact zk rfl ⟨Nat.le_of_ble_eq_true rfl, trivial⟩ (rfl) rfl

def fewB (c : zA) : Bool := (c.Abilities.all fun a => decide (a.Effects.length ≤ 16777216)) && (c.Foes.all fun f => decide (f.Script.length ≤ 16777216) && decide (f.Hoard.length ≤ 16777216)) && decide (c.Abilities.length ≤ 16777216) && decide (c.Auras.length ≤ 16777216) && decide (c.Foes.length ≤ 16777216) && decide (c.Map.Wall.length ≤ 16777216)
theorem zdk {c : zA} (h : fewB c = true) : Few9 c := by
  simp only [fewB, Bool.and_eq_true, List.all_eq_true, decide_eq_true_eq] at h
  obtain ⟨⟨⟨⟨⟨h1, h2⟩, h3⟩, h4⟩, h5⟩, h6⟩ := h
  exact ⟨h1, fun f hf => (h2 f hf).1, fun f hf => (h2 f hf).2, h3, h4, h5, h6⟩
theorem zgy {c : zA} {n : Nat} (h : Few9 c) : Few9 ⟨c.Abilities, c.Auras, c.Foes.take n, c.Map, c.Door, c.Lair⟩ := ⟨h.eff, fun f hf => h.script f (List.mem_of_mem_take hf), fun f hf => h.hoard f (List.mem_of_mem_take hf), h.ab, h.au, by have := h.fo; simp only [List.length_take]; omega, h.wall⟩

def getA (c : zA) (id : Int) : zI × Bool :=
  ((zo4 ((zf0 c.Abilities id).1)), (zf0 c.Abilities id).2)
theorem zuB (c : zA) (id : Int) (hF : Few9 c) : Ok Tryz.prog 138 [zak c, I id] [] (.tup [zaX (getA c id).1, B (getA c id).2]) [] [] := by
 refine Ok.len fun hlen => ?_
 have hl_c_Abilities := hlL (n := c.Abilities.length) hlen
 have hl_c_Auras := hlL (n := c.Auras.length) hlen
 have hl_c_Foes := hlL (n := c.Foes.length) hlen
 have hl_c_Map_Wall := hlL (n := c.Map.Wall.length) hlen
 refine zx Tryz.func138 rfl ?_
 refine zg rfl (zz (o := .box [_, _, _, _, _, _, _, _, _, _]) (nx' := 1) rfl rfl rfl trivial (zz (o := .box [_, _, _, _, _, _, _, _]) (nx' := 2) rfl rfl rfl trivial (za rfl (zd (zg rfl (zh rfl rfl aP0 (za rfl (za rfl (zB rfl rfl rfl rfl (zs5 c.Abilities false id) rfl rfl rfl (za rfl (za rfl (za rfl (zz (o := .box [_, _, _, _, _, _, _, _]) (nx' := 3) rfl rfl rfl trivial ?_)))))))))))))
 refine zH (H' := [(2, .box [_, _, _, _, _, _, _, _]), (1, _), (0, _)]) rfl rfl rfl rfl rfl rfl (.inl rfl) rfl ?_
 refine za rfl (zd (zg rfl (zh (v := (.agg [_, _, _, _, _, _, _, _])) rfl rfl (Nat.le_of_ble_eq_true rfl) (zB rfl rfl rfl rfl (zsI ((zf0 c.Abilities id).1) (by first | assumption | exact zum (by assumption) | omega | simp_all)) rfl rfl rfl (za rfl ?_)))))
 refine zH (H' := [(2, _), (1, .box [_, _, _, _, _, _, _, _]), (0, _)]) rfl rfl rfl rfl rfl rfl (.inl rfl) rfl ?_
 refine za rfl (zd (zl ?_))
 have e3 : getA c id = ((zo4 ((zf0 c.Abilities id).1)), (zf0 c.Abilities id).2) := by
  unfold getA
  try dsimp only
  all_goals rfl
 rw [e3]
 exact zk rfl ⟨Nat.le_of_ble_eq_true rfl, trivial, trivial⟩ (rfl) rfl

def getU (c : zA) (id : Int) : zaI × Bool :=
  (((zi8 c.Auras id).1), (zi8 c.Auras id).2)
theorem zt1 (c : zA) (id : Int) : Ok Tryz.prog 136 [zak c, I id] [] (.tup [zfk (getU c id).1, B (getU c id).2]) [] [] := by
 refine Ok.len fun hlen => ?_
 have hl_c_Abilities := hlL (n := c.Abilities.length) hlen
 have hl_c_Auras := hlL (n := c.Auras.length) hlen
 have hl_c_Foes := hlL (n := c.Foes.length) hlen
 have hl_c_Map_Wall := hlL (n := c.Map.Wall.length) hlen
 refine zx Tryz.func136 rfl ?_
 refine zg rfl (zz (o := .box [_, _, _, _, _, _, _, _, _, _]) (nx' := 1) rfl rfl rfl trivial (zz (o := .box [_, _, _, _, _, _, _]) (nx' := 2) rfl rfl rfl trivial (za rfl (zd (zg rfl (zh rfl rfl aP0 (za rfl (za rfl (zB rfl rfl rfl rfl (zr1 c.Auras false id) rfl rfl rfl (za rfl (za rfl ?_)))))))))))
 refine zH (H' := [(1, .box [_, _, _, _, _, _, _]), (0, _)]) rfl rfl rfl rfl rfl rfl (.inl rfl) rfl ?_
 refine za rfl (zd (zl ?_))
 have e3 : getU c id = (((zi8 c.Auras id).1), (zi8 c.Auras id).2) := by
  unfold getU
  try dsimp only
  all_goals rfl
 rw [e3]
 exact zk rfl ⟨Nat.le_of_ble_eq_true rfl, trivial, trivial⟩ (rfl) rfl

def zbw (c : zA) (e : zaJ) : Bool :=
  if zV e.Kind 1 7 = true then (if za3 ([e.Amount]) = true then (if (e.Kind : Int) = 4 then (if (getU c e.Aura).2 = true then ((e.Amount : Int) == 0) else false) else ((e.Aura : Int) == 0)) else false) else false
theorem zpj (c : zA) (e : zaJ) : Ok Tryz.prog 119 [zak c, zfO e] [] (B (zbw c e)) [] [] := by
 refine Ok.len fun hlen => ?_
 have hl_c_Abilities := hlL (n := c.Abilities.length) hlen
 have hl_c_Auras := hlL (n := c.Auras.length) hlen
 have hl_c_Foes := hlL (n := c.Foes.length) hlen
 have hl_c_Map_Wall := hlL (n := c.Map.Wall.length) hlen
 refine zx Tryz.func119 rfl ?_
 refine zg rfl (zz (o := .box [_, _, _, _, _, _, _, _, _, _]) (nx' := 1) rfl rfl rfl trivial (zz (o := .box [_, _, _]) (nx' := 2) rfl rfl rfl trivial (za rfl (zd (zm (zg rfl (zh rfl rfl aP0 (za rfl (zB rfl rfl rfl rfl (zaN e.Kind 1 7) rfl rfl rfl (za rfl (za rfl ?_)))))))))))
 refine zG rfl (fun h2 => ?_) (fun h2 => ?_)
 ·have g2 : ¬ (zV e.Kind 1 7 = true) := zaA (zbA h2)
  refine zf rfl h2 rfl (zf rfl h2 rfl (zf rfl h2 rfl (zf rfl h2 rfl (zf rfl h2 rfl (zo rfl h2 rfl rfl (zd (zK rfl (zg rfl (za rfl (zd (zl (zE ?_))))))))))))
  have e3 : zbw c e = false := by
   unfold zbw
   try dsimp only
   rewrite [if_neg g2]
   all_goals rfl
  rw [e3]
  exact zk rfl ⟨trivial, trivial⟩ (rfl) rfl
 ·have g2 : zV e.Kind 1 7 = true := (zbz h2)
  refine ze rfl h2 (zh rfl rfl aP0 (ze rfl h2 (za rfl (ze rfl h2 (zz (o := .row _ _ [_]) (nx' := 3) rfl rfl rfl aP0 (ze rfl h2 ?_))))))
  refine zaD (Hin := [.row _ _ _]) (H' := [(2, _), (1, _), (0, _)]) (nx' := 3) [2] rfl rfl rfl rfl rfl rfl rfl rfl rfl aP6 (zfb ([e.Amount]) false) rfl aP0 rfl rfl trivial rfl rfl rfl rfl ?_
  refine ze rfl h2 (za rfl (zn rfl h2 rfl rfl (zd ?_)))
  refine zr rfl (fun h5 => ?_) (fun h5 => ?_)
  ·have g5 : ¬ (za3 ([e.Amount]) = true) := zaA (zbA h5)
   refine zg rfl (za rfl (zd (zl (zE ?_))))
   have e6 : zbw c e = false := by
    unfold zbw
    try dsimp only
    rewrite [if_pos g2, if_neg g5]
    all_goals rfl
   rw [e6]
   exact zk rfl ⟨trivial, trivial⟩ (rfl) rfl
  ·have g5 : za3 ([e.Amount]) = true := (zbz h5)
   refine zt (zu (zm (zg rfl (zh rfl rfl aP0 (za rfl (zi rfl rfl rfl rfl rfl trivial (zd ?_)))))))
   refine zr rfl (fun h7 => ?_) (fun h7 => ?_)
   ·have g7 : ¬ ((e.Kind : Int) = 4) := zc9 h7
    refine zg rfl (zh rfl rfl aP0 (za rfl (zi rfl rfl rfl rfl rfl trivial (za rfl (zd (zl (zE ?_)))))))
    have e9 : zbw c e = ((e.Aura : Int) == 0) := by
     unfold zbw
     try dsimp only
     rewrite [if_pos g2, if_pos g5, if_neg g7]
     all_goals rfl
    rw [e9]
    exact zk rfl ⟨trivial, trivial⟩ (rfl) rfl
   ·have g7 : (e.Kind : Int) = 4 := zdl h7
    refine zt (zu (zg rfl (zh (v := (.agg [_, _, _, _, _, _, _, _, _, _])) rfl rfl (Nat.le_of_ble_eq_true rfl) (zh rfl rfl aP0 (za rfl (zB rfl rfl rfl rfl (zt1 c e.Aura) rfl rfl rfl (za rfl (za rfl (za rfl (zz (o := .box [_, _, _, _, _, _, _]) (nx' := 4) rfl rfl rfl trivial ?_))))))))))
    refine zH (H' := [(3, .box [_, _, _, _, _, _, _]), (2, _), (1, _), (0, _)]) rfl rfl rfl rfl rfl rfl (.inl rfl) rfl ?_
    refine za rfl (zd (zg rfl (za rfl (za rfl ?_))))
    refine zG rfl (fun h11 => ?_) (fun h11 => ?_)
    ·have g11 : (getU c e.Aura).2 = true := h11
     refine ze rfl h11 (zh rfl rfl aP0 (ze rfl h11 (za rfl (ze rfl h11 (zi rfl rfl rfl rfl rfl trivial (zo rfl h11 rfl rfl (za rfl (zd (zl ?_)))))))))
     have e13 : zbw c e = ((e.Amount : Int) == 0) := by
      unfold zbw
      try dsimp only
      rewrite [if_pos g2, if_pos g5, if_pos g7, if_pos g11]
      all_goals rfl
     rw [e13]
     exact zk rfl ⟨trivial, trivial⟩ (rfl) rfl
    ·have g11 : ¬ ((getU c e.Aura).2 = true) := zaA h11
     refine zf rfl h11 rfl (zf rfl h11 rfl (zf rfl h11 rfl (zn rfl h11 rfl rfl (za rfl (zd (zl ?_))))))
     have e14 : zbw c e = false := by
      unfold zbw
      try dsimp only
      rewrite [if_pos g2, if_pos g5, if_pos g7, if_neg g11]
      all_goals rfl
     rw [e14]
     exact zk rfl ⟨trivial, trivial⟩ (rfl) rfl

def badE (e : zaJ) (c1 : zA) : Bool :=
  (!(zbw c1 e))
theorem ztY (e : zaJ) (c1 : zA) : Ok Tryz.prog 118 [zfO e, .pptr [.slc c1.Abilities.length false (c1.Abilities.flatMap zj), .slc c1.Auras.length false (c1.Auras.flatMap zp), .slc c1.Foes.length false (c1.Foes.flatMap zC), i64 c1.Map.W, i64 c1.Map.H, .slc c1.Map.Wall.length false (encB c1.Map.Wall), i64 c1.Door.X, i64 c1.Door.Y, i64 c1.Lair.X, i64 c1.Lair.Y] 0] [] (B (badE e c1)) [] [] := by
 refine zx Tryz.func118 rfl ?_
 refine zg rfl (zz (o := .box [_, _, _]) (nx' := 1) rfl rfl rfl trivial (za rfl (zd (zg rfl (zF rfl rfl rfl (Nat.le_of_ble_eq_true rfl) (rfl) rfl (zh (v := (.agg [_, _, _])) rfl rfl (Nat.le_of_ble_eq_true rfl) (zB rfl rfl rfl rfl (zpj c1 e) rfl rfl rfl (za rfl (za rfl (zd (zl ?_)))))))))))
 have e2 : badE e c1 = (!(zbw c1 e)) := by
  unfold badE
  try dsimp only
  all_goals rfl
 rw [e2]
 exact zk rfl ⟨trivial, trivial⟩ (rfl) rfl

def zco (c : zA) (a : zI) : Bool :=
  if za3 ([a.Cast, a.Cool, a.Range, a.Cost]) = true then (if zV a.Charges 1 100 = true then (if zV a.Effects.length 1 16 = true then (!(a.Effects.any (fun x_ => badE x_ c))) else false) else false) else false
theorem zmz (c : zA) (a : zI) : Ok Tryz.prog 92 [zak c, zaX a] [] (B (zco c a)) [] [] := by
 refine Ok.len fun hlen => ?_
 have hl_c_Abilities := hlL (n := c.Abilities.length) hlen
 have hl_c_Auras := hlL (n := c.Auras.length) hlen
 have hl_c_Foes := hlL (n := c.Foes.length) hlen
 have hl_c_Map_Wall := hlL (n := c.Map.Wall.length) hlen
 have hl_a_Effects := hlL (n := a.Effects.length) hlen
 refine zx Tryz.func92 rfl ?_
 refine zg rfl (zz (o := .box [_, _, _, _, _, _, _, _, _, _]) (nx' := 1) rfl rfl rfl trivial (zz (o := .box [_, _, _, _, _, _, _, _]) (nx' := 2) rfl rfl rfl trivial (za rfl (zd (zg rfl (zh rfl rfl aP0 (za rfl (zh rfl rfl aP0 (za rfl (zh rfl rfl aP0 (za rfl (zh rfl rfl aP0 (za rfl (zz (o := .row _ _ [_, _, _, _]) (nx' := 3) rfl rfl rfl aP0 ?_))))))))))))))
 refine zaD (Hin := [.row _ _ _]) (H' := [(2, _), (1, _), (0, _)]) (nx' := 3) [2] rfl rfl rfl rfl rfl rfl rfl rfl rfl aP6 (zfb ([a.Cast, a.Cool, a.Range, a.Cost]) false) rfl aP0 rfl rfl trivial rfl rfl rfl rfl ?_
 refine za rfl ?_
 refine zG rfl (fun h2 => ?_) (fun h2 => ?_)
 ·have g2 : za3 ([a.Cast, a.Cool, a.Range, a.Cost]) = true := h2
  refine ze rfl h2 (zh rfl rfl aP0 (ze rfl h2 (za rfl (ze rfl h2 (zB rfl rfl rfl rfl (zaN a.Charges 1 100) rfl rfl rfl (zo rfl h2 rfl rfl (za rfl ?_)))))))
  refine zG rfl (fun h4 => ?_) (fun h4 => ?_)
  ·have g4 : zV a.Charges 1 100 = true := h4
   refine ze rfl h4 (zh rfl rfl aP0 (ze rfl h4 (za rfl (ze rfl h4 (za rfl (ze rfl h4 (zB rfl rfl rfl rfl (zaN a.Effects.length 1 16) rfl rfl rfl (zo rfl h4 rfl rfl (za rfl ?_)))))))))
   refine zG rfl (fun h6 => ?_) (fun h6 => ?_)
   ·have g6 : zV a.Effects.length 1 16 = true := h6
    refine ze rfl h6 (zh rfl rfl aP0 (ze rfl h6 (za rfl (ze rfl h6 (za rfl (ze rfl h6 ?_))))))
    refine zaD (Hin := [.box [.pv _, .pv _, .pv _, .pv _, .pv _, .pv _, .pv _, .pv _, .pv _, .pv _]]) (H' := [(2, _), (1, _), (0, _)]) (nx' := 3) [0] rfl rfl rfl rfl rfl rfl rfl rfl rfl aP6 (zmc a.Effects false 118 [.pptr [(.slc c.Abilities.length false (c.Abilities.flatMap zj)), (.slc c.Auras.length false (c.Auras.flatMap zp)), (.slc c.Foes.length false (c.Foes.flatMap zC)), i64 c.Map.W, i64 c.Map.H, (.slc c.Map.Wall.length false (encB c.Map.Wall)), i64 c.Door.X, i64 c.Door.Y, i64 c.Lair.X, i64 c.Lair.Y] 0] (fun x_ => badE x_ c) ⟨rfl, rfl, fun _ => rfl, fun _ => rfl, fun x_ => ztY x_ c⟩) rfl aP0 rfl rfl trivial rfl rfl rfl rfl ?_
    refine ze rfl h6 (za rfl (zo rfl h6 rfl rfl (za rfl (zd (zl ?_)))))
    have e8 : zco c a = (!(a.Effects.any (fun x_ => badE x_ c))) := by
     unfold zco
     try dsimp only
     rewrite [if_pos g2, if_pos g4, if_pos g6]
     all_goals rfl
    rw [e8]
    exact zk rfl ⟨trivial, trivial⟩ (rfl) rfl
   ·have g6 : ¬ (zV a.Effects.length 1 16 = true) := zaA h6
    refine zf rfl h6 rfl (zf rfl h6 rfl (zf rfl h6 rfl (zf rfl h6 rfl (zf rfl h6 rfl (zn rfl h6 rfl rfl (za rfl (zd (zl ?_))))))))
    have e9 : zco c a = false := by
     unfold zco
     try dsimp only
     rewrite [if_pos g2, if_pos g4, if_neg g6]
     all_goals rfl
    rw [e9]
    exact zk rfl ⟨trivial, trivial⟩ (rfl) rfl
  ·have g4 : ¬ (zV a.Charges 1 100 = true) := zaA h4
   refine zf rfl h4 rfl (zf rfl h4 rfl (zf rfl h4 rfl (zf rfl h4 rfl (zn rfl h4 rfl rfl (za rfl (zc rfl (zc rfl (zc rfl (zc rfl (zc rfl (za rfl (za rfl (zd (zl ?_))))))))))))))
   have e10 : zco c a = false := by
    unfold zco
    try dsimp only
    rewrite [if_pos g2, if_neg g4]
    all_goals rfl
   rw [e10]
   exact zk rfl ⟨trivial, trivial⟩ (rfl) rfl
 ·have g2 : ¬ (za3 ([a.Cast, a.Cool, a.Range, a.Cost]) = true) := zaA h2
  refine zf rfl h2 rfl (zf rfl h2 rfl (zf rfl h2 rfl (zn rfl h2 rfl rfl (za rfl (zc rfl (zc rfl (zc rfl (zc rfl (za rfl (za rfl (zc rfl (zc rfl (zc rfl (zc rfl (zc rfl (za rfl (za rfl ?_)))))))))))))))))
  refine zd (zl ?_)
  have e11 : zco c a = false := by
   unfold zco
   try dsimp only
   rewrite [if_neg g2]
   all_goals rfl
  rw [e11]
  exact zk rfl ⟨trivial, trivial⟩ (rfl) rfl

def zdH (a : zaI) : Bool :=
  if (a.Kind : Int) = 1 then ((a.Kind : Int) == 1) else ((a.Kind : Int) == 2)
def zdR (a : zaI) : Bool :=
  if (a.Kind : Int) = 3 then ((a.Kind : Int) == 3) else ((a.Kind : Int) == 4)
def zdD (a : zaI) : Bool :=
  if (a.Kind : Int) = 5 then ((a.Kind : Int) == 5) else ((a.Kind : Int) == 6)
def zcS (a : zaI) : Sum Bool (Int × Int × Bool) :=
  (let t11_12 := zdH a; if t11_12 = true then .inr (0, 1000000, (zV a.Every 1 1000000)) else (let t17_18 := zdR a; if t17_18 = true then .inr ((-100), 1000, ((a.Every : Int) == 0)) else (let t20_21 := zdD a; if t20_21 = true then .inr (0, 1000000, ((a.Every : Int) == 0)) else .inl false)))
def zeb (a : zaI) : Bool :=
  (match zcS a with
    | .inl r_ => r_
    | .inr (least_9, most_9, every_9) => if every_9 = true then (if zV a.Ticks 1 1000000 = true then (if zV a.Stacks 1 100 = true then (zV a.Amount least_9 most_9) else false) else false) else false)
theorem ztl (a : zaI) : Ok Tryz.prog 95 [zfk a] [] (B (zeb a)) [] [] := by
 refine zx Tryz.func95 rfl ?_
 refine zg rfl (zz (o := .box [_, _, _, _, _, _, _]) (nx' := 1) rfl rfl rfl trivial (za rfl (zd (zg rfl (za rfl (za rfl (zd (zg rfl (zh rfl rfl aP0 (za rfl (zi rfl rfl rfl rfl rfl trivial (za rfl ?_))))))))))))
 refine zd (zm ?_)
 refine zX (fun w_ : Int × Int × Bool => match w_ with | (least_9, most_9, every_9) => (⟨[(1, .ptr 0 0), (3, I least_9), (4, I most_9), (5, B every_9)], [(0, .box [I a.Id, I a.Kind, I a.Ticks, I a.Every, I a.Stacks, I a.Amount, B a.Harm])], 1, [], 41, 0⟩ : St)) (fun w_ => zcS a = .inr w_) ?_ ?_
 ·refine zg rfl (zh rfl rfl aP0 (za rfl (zd (zw (zm ?_)))))
  refine zX (fun t11_12 : Bool => (⟨[(1, .ptr 0 0), (3, I 0), (4, I 1000000), (5, B ((a.Every : Int) == 0)), (10, I a.Kind), (11, B t11_12)], [(0, .box [I a.Id, I a.Kind, I a.Ticks, I a.Every, I a.Stacks, I a.Amount, B a.Harm])], 1, [], 41, 0⟩ : St)) (fun w_ => zdH a = w_) ?_ ?_
  ·refine zg rfl (zi rfl rfl rfl rfl rfl trivial (za rfl (zd ?_)))
   refine zr rfl (fun h5 => ?_) (fun h5 => ?_)
   ·have g5 : (a.Kind : Int) = 1 := zd5 h5
    refine zt ?_
    have e6 : zdH a = ((a.Kind : Int) == 1) := by
     unfold zdH
     try dsimp only
     rewrite [if_pos g5]
     all_goals rfl
    exact z0 ((a.Kind : Int) == 1) e6 (zD.ren [] aP1 aP1 rfl ⟨⟨rfl, rfl⟩, ⟨rfl, rfl⟩, ⟨rfl, rfl⟩, ⟨rfl, rfl⟩, ⟨rfl, rfl⟩, ⟨rfl, rfl⟩, trivial⟩ ⟨⟨rfl, rfl, rfl⟩, trivial⟩ aP0)
   ·have g5 : ¬ ((a.Kind : Int) = 1) := zed h5
    refine zy rfl (zi rfl rfl rfl rfl rfl trivial (za rfl (zq ?_)))
    have e8 : zdH a = ((a.Kind : Int) == 2) := by
     unfold zdH
     try dsimp only
     rewrite [if_neg g5]
     all_goals rfl
    exact z0 ((a.Kind : Int) == 2) e8 (zD.ren [] aP1 aP1 rfl ⟨⟨rfl, rfl⟩, ⟨rfl, rfl⟩, ⟨rfl, rfl⟩, ⟨rfl, rfl⟩, ⟨rfl, rfl⟩, ⟨rfl, rfl⟩, trivial⟩ ⟨⟨rfl, rfl, rfl⟩, trivial⟩ aP0)
  ·rintro t11_12 (hJ3 : zdH a = t11_12)
   refine zu ?_
   refine zr rfl (fun h9 => ?_) (fun h9 => ?_)
   ·have g9 : t11_12 = true := h9
    refine zy rfl (zh rfl rfl aP0 (za rfl (zB rfl rfl rfl rfl (zaN a.Every 1 1000000) rfl rfl rfl (za rfl (zq (zal ?_))))))
    have e11 : zcS a = .inr (0, 1000000, (zV a.Every 1 1000000)) := by
     unfold zcS
     try dsimp only
     rewrite [hJ3]
     try dsimp only
     rewrite [if_pos g9]
     all_goals rfl
    exact z0 (0, 1000000, (zV a.Every 1 1000000)) e11 (zD.ren [] aP1 aP1 rfl ⟨⟨rfl, rfl⟩, ⟨rfl, rfl⟩, ⟨rfl, rfl⟩, ⟨rfl, rfl⟩, trivial⟩ ⟨⟨rfl, rfl, rfl⟩, trivial⟩ aP0)
   ·have g9 : ¬ (t11_12 = true) := zaA h9
    refine zm ?_
    refine zX (fun t17_18 : Bool => (⟨[(1, .ptr 0 0), (3, I 0), (4, I 1000000), (5, B ((a.Every : Int) == 0)), (10, I a.Kind), (17, B t17_18)], [(0, .box [I a.Id, I a.Kind, I a.Ticks, I a.Every, I a.Stacks, I a.Amount, B a.Harm])], 1, [], 41, 0⟩ : St)) (fun w_ => zdR a = w_) ?_ ?_
    ·refine zg rfl (zi rfl rfl rfl rfl rfl trivial (za rfl (zd ?_)))
     refine zr rfl (fun h14 => ?_) (fun h14 => ?_)
     ·have g14 : (a.Kind : Int) = 3 := zd5 h14
      refine zt ?_
      have e15 : zdR a = ((a.Kind : Int) == 3) := by
       unfold zdR
       try dsimp only
       rewrite [if_pos g14]
       all_goals rfl
      exact z0 ((a.Kind : Int) == 3) e15 (zD.ren [] aP1 aP1 rfl ⟨⟨rfl, rfl⟩, ⟨rfl, rfl⟩, ⟨rfl, rfl⟩, ⟨rfl, rfl⟩, ⟨rfl, rfl⟩, ⟨rfl, rfl⟩, trivial⟩ ⟨⟨rfl, rfl, rfl⟩, trivial⟩ aP0)
     ·have g14 : ¬ ((a.Kind : Int) = 3) := zed h14
      refine zy rfl (zi rfl rfl rfl rfl rfl trivial (za rfl (zq ?_)))
      have e17 : zdR a = ((a.Kind : Int) == 4) := by
       unfold zdR
       try dsimp only
       rewrite [if_neg g14]
       all_goals rfl
      exact z0 ((a.Kind : Int) == 4) e17 (zD.ren [] aP1 aP1 rfl ⟨⟨rfl, rfl⟩, ⟨rfl, rfl⟩, ⟨rfl, rfl⟩, ⟨rfl, rfl⟩, ⟨rfl, rfl⟩, ⟨rfl, rfl⟩, trivial⟩ ⟨⟨rfl, rfl, rfl⟩, trivial⟩ aP0)
    ·rintro t17_18 (hJ12 : zdR a = t17_18)
     refine zu ?_
     refine zr rfl (fun h18 => ?_) (fun h18 => ?_)
     ·have g18 : t17_18 = true := h18
      refine zy rfl (za rfl (za rfl (zq (zal ?_))))
      have e19 : zcS a = .inr ((-100), 1000, ((a.Every : Int) == 0)) := by
       unfold zcS
       try dsimp only
       rewrite [hJ3]
       try dsimp only
       rewrite [if_neg g9, hJ12]
       try dsimp only
       rewrite [if_pos g18]
       all_goals rfl
      exact z0 ((-100), 1000, ((a.Every : Int) == 0)) e19 (zD.ren [] aP1 aP1 rfl ⟨⟨rfl, rfl⟩, ⟨rfl, rfl⟩, ⟨rfl, rfl⟩, ⟨rfl, rfl⟩, trivial⟩ ⟨⟨rfl, rfl, rfl⟩, trivial⟩ aP0)
     ·have g18 : ¬ (t17_18 = true) := zaA h18
      refine zm ?_
      refine zX (fun t20_21 : Bool => (⟨[(1, .ptr 0 0), (3, I 0), (4, I 1000000), (5, B ((a.Every : Int) == 0)), (20, B t20_21)], [(0, .box [I a.Id, I a.Kind, I a.Ticks, I a.Every, I a.Stacks, I a.Amount, B a.Harm])], 1, [], 41, 0⟩ : St)) (fun w_ => zdD a = w_) ?_ ?_
      ·refine zg rfl (zi rfl rfl rfl rfl rfl trivial (za rfl (zd ?_)))
       refine zr rfl (fun h22 => ?_) (fun h22 => ?_)
       ·have g22 : (a.Kind : Int) = 5 := zd5 h22
        refine zt ?_
        have e23 : zdD a = ((a.Kind : Int) == 5) := by
         unfold zdD
         try dsimp only
         rewrite [if_pos g22]
         all_goals rfl
        exact z0 ((a.Kind : Int) == 5) e23 (zD.ren [] aP1 aP1 rfl ⟨⟨rfl, rfl⟩, ⟨rfl, rfl⟩, ⟨rfl, rfl⟩, ⟨rfl, rfl⟩, ⟨rfl, rfl⟩, trivial⟩ ⟨⟨rfl, rfl, rfl⟩, trivial⟩ aP0)
       ·have g22 : ¬ ((a.Kind : Int) = 5) := zed h22
        refine zy rfl (zi rfl rfl rfl rfl rfl trivial (za rfl (zq ?_)))
        have e25 : zdD a = ((a.Kind : Int) == 6) := by
         unfold zdD
         try dsimp only
         rewrite [if_neg g22]
         all_goals rfl
        exact z0 ((a.Kind : Int) == 6) e25 (zD.ren [] aP1 aP1 rfl ⟨⟨rfl, rfl⟩, ⟨rfl, rfl⟩, ⟨rfl, rfl⟩, ⟨rfl, rfl⟩, ⟨rfl, rfl⟩, trivial⟩ ⟨⟨rfl, rfl, rfl⟩, trivial⟩ aP0)
      ·rintro t20_21 (hJ20 : zdD a = t20_21)
       refine zu ?_
       refine zr rfl (fun h26 => ?_) (fun h26 => ?_)
       ·have g26 : t20_21 = true := h26
        refine zt (zal ?_)
        have e27 : zcS a = .inr (0, 1000000, ((a.Every : Int) == 0)) := by
         unfold zcS
         try dsimp only
         rewrite [hJ3]
         try dsimp only
         rewrite [if_neg g9, hJ12]
         try dsimp only
         rewrite [if_neg g18, hJ20]
         try dsimp only
         rewrite [if_pos g26]
         all_goals rfl
        exact z0 (0, 1000000, ((a.Every : Int) == 0)) e27 (zD.ren [] aP1 aP1 rfl ⟨⟨rfl, rfl⟩, ⟨rfl, rfl⟩, ⟨rfl, rfl⟩, ⟨rfl, rfl⟩, trivial⟩ ⟨⟨rfl, rfl, rfl⟩, trivial⟩ aP0)
       ·have g26 : ¬ (t20_21 = true) := zaA h26
        refine zg rfl (za rfl (zd (zl (z8 (zaz (zE ?_))))))
        have e28 : zcS a = .inl false := by
         unfold zcS
         try dsimp only
         rewrite [hJ3]
         try dsimp only
         rewrite [if_neg g9, hJ12]
         try dsimp only
         rewrite [if_neg g18, hJ20]
         try dsimp only
         rewrite [if_neg g26]
         all_goals rfl
        have e29 : zeb a = false := by
         unfold zeb
         try dsimp only
         rewrite [e28]
         try dsimp only
         all_goals rfl
        rw [e29]
        exact zk rfl ⟨trivial, trivial⟩ (rfl) rfl
 ·rintro ⟨least_9, most_9, every_9⟩ (hJ2 : zcS a = .inr (least_9, most_9, every_9))
  refine zu (zg rfl (za rfl (za rfl ?_)))
  refine zG rfl (fun h31 => ?_) (fun h31 => ?_)
  ·have g31 : every_9 = true := h31
   refine ze rfl h31 (zh rfl rfl aP0 (ze rfl h31 (za rfl (ze rfl h31 (zB rfl rfl rfl rfl (zaN a.Ticks 1 1000000) rfl rfl rfl (zo rfl h31 rfl rfl (za rfl ?_)))))))
   refine zG rfl (fun h33 => ?_) (fun h33 => ?_)
   ·have g33 : zV a.Ticks 1 1000000 = true := h33
    refine ze rfl h33 (zh rfl rfl aP0 (ze rfl h33 (za rfl (ze rfl h33 (zB rfl rfl rfl rfl (zaN a.Stacks 1 100) rfl rfl rfl (zo rfl h33 rfl rfl (za rfl ?_)))))))
    refine zG rfl (fun h35 => ?_) (fun h35 => ?_)
    ·have g35 : zV a.Stacks 1 100 = true := h35
     refine ze rfl h35 (zh rfl rfl aP0 (ze rfl h35 (za rfl (ze rfl h35 (za rfl (ze rfl h35 (za rfl (ze rfl h35 (zB rfl rfl rfl rfl (zaN a.Amount least_9 most_9) rfl rfl rfl (zo rfl h35 rfl rfl (za rfl (zd (zl ?_)))))))))))))
     have e39 : zeb a = (zV a.Amount least_9 most_9) := by
      unfold zeb
      try dsimp only
      rewrite [hJ2]
      try dsimp only
      rewrite [if_pos g31, if_pos g33, if_pos g35]
      all_goals rfl
     rw [e39]
     exact zk rfl ⟨trivial, trivial⟩ (rfl) rfl
    ·have g35 : ¬ (zV a.Stacks 1 100 = true) := zaA h35
     refine zf rfl h35 rfl (zf rfl h35 rfl (zf rfl h35 rfl (zf rfl h35 rfl (zf rfl h35 rfl (zn rfl h35 rfl rfl (za rfl (zd (zl ?_))))))))
     have e40 : zeb a = false := by
      unfold zeb
      try dsimp only
      rewrite [hJ2]
      try dsimp only
      rewrite [if_pos g31, if_pos g33, if_neg g35]
      all_goals rfl
     rw [e40]
     exact zk rfl ⟨trivial, trivial⟩ (rfl) rfl
   ·have g33 : ¬ (zV a.Ticks 1 1000000 = true) := zaA h33
    refine zf rfl h33 rfl (zf rfl h33 rfl (zf rfl h33 rfl (zn rfl h33 rfl rfl (za rfl (zc rfl (zc rfl (zc rfl (zc rfl (zc rfl (za rfl (za rfl (zd (zl ?_)))))))))))))
    have e41 : zeb a = false := by
     unfold zeb
     try dsimp only
     rewrite [hJ2]
     try dsimp only
     rewrite [if_pos g31, if_neg g33]
     all_goals rfl
    rw [e41]
    exact zk rfl ⟨trivial, trivial⟩ (rfl) rfl
  ·have g31 : ¬ (every_9 = true) := zaA h31
   refine zf rfl h31 rfl (zf rfl h31 rfl (zf rfl h31 rfl (zn rfl h31 rfl rfl (za rfl (zc rfl (zc rfl (zc rfl (za rfl (za rfl (zc rfl (zc rfl (zc rfl (zc rfl (zc rfl (za rfl (za rfl (zq ?_)))))))))))))))))
   refine zu (zl ?_)
   have e42 : zeb a = false := by
    unfold zeb
    try dsimp only
    rewrite [hJ2]
    try dsimp only
    rewrite [if_neg g31]
    all_goals rfl
   rw [e42]
   exact zk rfl ⟨trivial, trivial⟩ (rfl) rfl

def zeq (l : zcc) : Int :=
  if (l.When : Int) = 1 then 100 else 1000000
def zdp (c : zA) (l : zcc) : Bool :=
  (let most_8 := zeq l; if zV l.Phase 1 100 = true then (if zV l.When 1 3 = true then (if zV l.Arg 1 most_8 = true then (if za3 ([l.Value]) = true then (if (l.Do : Int) = 1 then (zV l.Value 1 100) else if (l.Do : Int) = 2 then (getA c l.Value).2 else if (l.Do : Int) = 3 then true else ((l.Do : Int) == 4)) else false) else false) else false) else false)
theorem zsq (c : zA) (l : zcc) (hF : Few9 c) : Ok Tryz.prog 122 [zak c, ziE l] [] (B (zdp c l)) [] [] := by
 refine Ok.len fun hlen => ?_
 have hl_c_Abilities := hlL (n := c.Abilities.length) hlen
 have hl_c_Auras := hlL (n := c.Auras.length) hlen
 have hl_c_Foes := hlL (n := c.Foes.length) hlen
 have hl_c_Map_Wall := hlL (n := c.Map.Wall.length) hlen
 refine zx Tryz.func122 rfl ?_
 refine zg rfl (zz (o := .box [_, _, _, _, _, _, _, _, _, _]) (nx' := 1) rfl rfl rfl trivial (zz (o := .box [_, _, _, _, _]) (nx' := 2) rfl rfl rfl trivial (za rfl (zd (zg rfl (za rfl (zd (zm ?_))))))))
 refine zX (fun most_8 : Int => (⟨[(2, .ptr 0 0), (3, .ptr 1 0), (5, I most_8)], [(0, .box [.pv (.slc c.Abilities.length false (c.Abilities.flatMap zj)), .pv (.slc c.Auras.length false (c.Auras.flatMap zp)), .pv (.slc c.Foes.length false (c.Foes.flatMap zC)), I c.Map.W, I c.Map.H, .pv (.slc c.Map.Wall.length false (encB c.Map.Wall)), I c.Door.X, I c.Door.Y, I c.Lair.X, I c.Lair.Y]), (1, .box [I l.Phase, I l.When, I l.Arg, I l.Do, I l.Value])], 2, [], 60, 0⟩ : St)) (fun w_ => zeq l = w_) ?_ ?_
 ·refine zg rfl (zh rfl rfl aP0 (za rfl (zi rfl rfl rfl rfl rfl trivial (zd ?_))))
  refine zr rfl (fun h2 => ?_) (fun h2 => ?_)
  ·have g2 : (l.When : Int) = 1 := zd5 h2
   refine zy rfl (za rfl (zq ?_))
   have e3 : zeq l = 100 := by
    unfold zeq
    try dsimp only
    rewrite [if_pos g2]
    all_goals rfl
   exact z0 100 e3 (zD.ren [] aP1 aP1 rfl ⟨⟨rfl, rfl⟩, ⟨rfl, rfl⟩, ⟨rfl, rfl⟩, trivial⟩ ⟨⟨rfl, rfl, rfl⟩, ⟨rfl, rfl, rfl⟩, trivial⟩ aP0)
  ·have g2 : ¬ ((l.When : Int) = 1) := zed h2
   refine zt ?_
   have e4 : zeq l = 1000000 := by
    unfold zeq
    try dsimp only
    rewrite [if_neg g2]
    all_goals rfl
   exact z0 1000000 e4 (zD.ren [] aP1 aP1 rfl ⟨⟨rfl, rfl⟩, ⟨rfl, rfl⟩, ⟨rfl, rfl⟩, trivial⟩ ⟨⟨rfl, rfl, rfl⟩, ⟨rfl, rfl, rfl⟩, trivial⟩ aP0)
 ·rintro most_8 (hJ1 : zeq l = most_8)
  refine zu (zm (zg rfl (zh rfl rfl aP0 (za rfl (zB rfl rfl rfl rfl (zaN l.Phase 1 100) rfl rfl rfl (za rfl (za rfl ?_)))))))
  refine zG rfl (fun h6 => ?_) (fun h6 => ?_)
  ·have g6 : ¬ (zV l.Phase 1 100 = true) := zaA (zbA h6)
   refine zf rfl h6 rfl (zf rfl h6 rfl (zf rfl h6 rfl (zf rfl h6 rfl (zo rfl h6 rfl rfl (za rfl (zc rfl (zc rfl (zc rfl (zc rfl (zc rfl (za rfl (za rfl (zc rfl (zc rfl (zc rfl (zc rfl (zc rfl ?_)))))))))))))))))
   refine za rfl (zd (zK rfl (zg rfl (za rfl (zd (zl (zE ?_)))))))
   have e7 : zdp c l = false := by
    unfold zdp
    try dsimp only
    rewrite [hJ1]
    try dsimp only
    rewrite [if_neg g6]
    all_goals rfl
   rw [e7]
   exact zk rfl ⟨trivial, trivial⟩ (rfl) rfl
  ·have g6 : zV l.Phase 1 100 = true := (zbz h6)
   refine ze rfl h6 (zh rfl rfl aP0 (ze rfl h6 (za rfl (ze rfl h6 (zB rfl rfl rfl rfl (zaN l.When 1 3) rfl rfl rfl (ze rfl h6 (za rfl (zn rfl h6 rfl rfl (za rfl ?_)))))))))
   refine zG rfl (fun h9 => ?_) (fun h9 => ?_)
   ·have g9 : ¬ (zV l.When 1 3 = true) := zaA (zbA h9)
    refine zf rfl h9 rfl (zf rfl h9 rfl (zf rfl h9 rfl (zf rfl h9 rfl (zf rfl h9 rfl (zo rfl h9 rfl rfl (za rfl (zc rfl (zc rfl (zc rfl (zc rfl (zc rfl (za rfl (zd (zK rfl (zg rfl ?_)))))))))))))))
    refine za rfl (zd (zl (zE ?_)))
    have e10 : zdp c l = false := by
     unfold zdp
     try dsimp only
     rewrite [hJ1]
     try dsimp only
     rewrite [if_pos g6, if_neg g9]
     all_goals rfl
    rw [e10]
    exact zk rfl ⟨trivial, trivial⟩ (rfl) rfl
   ·have g9 : zV l.When 1 3 = true := (zbz h9)
    refine ze rfl h9 (zh rfl rfl aP0 (ze rfl h9 (za rfl (ze rfl h9 (za rfl (ze rfl h9 (zB rfl rfl rfl rfl (zaN l.Arg 1 most_8) rfl rfl rfl (ze rfl h9 (za rfl (zn rfl h9 rfl rfl (za rfl ?_)))))))))))
    refine zG rfl (fun h13 => ?_) (fun h13 => ?_)
    ·have g13 : ¬ (zV l.Arg 1 most_8 = true) := zaA (zbA h13)
     refine zf rfl h13 rfl (zf rfl h13 rfl (zf rfl h13 rfl (zf rfl h13 rfl (zf rfl h13 rfl (zo rfl h13 rfl rfl (zd (zK rfl (zg rfl (za rfl (zd (zl (zE ?_))))))))))))
     have e14 : zdp c l = false := by
      unfold zdp
      try dsimp only
      rewrite [hJ1]
      try dsimp only
      rewrite [if_pos g6, if_pos g9, if_neg g13]
      all_goals rfl
     rw [e14]
     exact zk rfl ⟨trivial, trivial⟩ (rfl) rfl
    ·have g13 : zV l.Arg 1 most_8 = true := (zbz h13)
     refine ze rfl h13 (zh rfl rfl aP0 (ze rfl h13 (za rfl (ze rfl h13 (zz (o := .row _ _ [_]) (nx' := 3) rfl rfl rfl aP0 (ze rfl h13 ?_))))))
     refine zaD (Hin := [.row _ _ _]) (H' := [(2, _), (0, _), (1, _)]) (nx' := 3) [2] rfl rfl rfl rfl rfl rfl rfl rfl rfl aP6 (zfb ([l.Value]) false) rfl aP0 rfl rfl trivial rfl rfl rfl rfl ?_
     refine ze rfl h13 (za rfl (zn rfl h13 rfl rfl (zd ?_)))
     refine zr rfl (fun h16 => ?_) (fun h16 => ?_)
     ·have g16 : ¬ (za3 ([l.Value]) = true) := zaA (zbA h16)
      refine zg rfl (za rfl (zd (zl (zE ?_))))
      have e17 : zdp c l = false := by
       unfold zdp
       try dsimp only
       rewrite [hJ1]
       try dsimp only
       rewrite [if_pos g6, if_pos g9, if_pos g13, if_neg g16]
       all_goals rfl
      rw [e17]
      exact zk rfl ⟨trivial, trivial⟩ (rfl) rfl
     ·have g16 : za3 ([l.Value]) = true := (zbz h16)
      refine zt (zu (zm (zg rfl (zh rfl rfl aP0 (za rfl (zd (zw (zg rfl (zi rfl rfl rfl rfl rfl trivial (za rfl (zd ?_)))))))))))
      refine zr rfl (fun h19 => ?_) (fun h19 => ?_)
      ·have g19 : (l.Do : Int) = 1 := zd5 h19
       refine zg rfl (zh rfl rfl aP0 (za rfl (zB rfl rfl rfl rfl (zaN l.Value 1 100) rfl rfl rfl (za rfl (zd (zl (z8 (zE ?_))))))))
       have e21 : zdp c l = (zV l.Value 1 100) := by
        unfold zdp
        try dsimp only
        rewrite [hJ1]
        try dsimp only
        rewrite [if_pos g6, if_pos g9, if_pos g13, if_pos g16, if_pos g19]
        all_goals rfl
       rw [e21]
       exact zk rfl ⟨trivial, trivial⟩ (rfl) rfl
      ·have g19 : ¬ ((l.Do : Int) = 1) := zed h19
       refine zg rfl (zi rfl rfl rfl rfl rfl trivial (za rfl (zd ?_)))
       refine zr rfl (fun h23 => ?_) (fun h23 => ?_)
       ·have g23 : (l.Do : Int) = 2 := zd5 h23
        refine zg rfl (zh (v := (.agg [_, _, _, _, _, _, _, _, _, _])) rfl rfl (Nat.le_of_ble_eq_true rfl) (zh rfl rfl aP0 (za rfl (zB rfl rfl rfl rfl (zuB c l.Value (by first | assumption | exact zdk (by decide +kernel) | exact zgy (by assumption) | grind)) rfl rfl rfl (za rfl (za rfl (za rfl (zz (o := .box [_, _, _, _, _, _, _, _]) (nx' := 4) rfl rfl rfl trivial ?_))))))))
        refine zH (H' := [(3, .box [_, _, _, _, _, _, _, _]), (2, _), (0, _), (1, _)]) rfl rfl rfl rfl rfl rfl (.inl rfl) rfl ?_
        refine za rfl (zd (zg rfl (za rfl (za rfl (zd (zl (z8 (zE ?_))))))))
        have e25 : zdp c l = (getA c l.Value).2 := by
         unfold zdp
         try dsimp only
         rewrite [hJ1]
         try dsimp only
         rewrite [if_pos g6, if_pos g9, if_pos g13, if_pos g16, if_neg g19, if_pos g23]
         all_goals rfl
        rw [e25]
        exact zk rfl ⟨trivial, trivial⟩ (rfl) rfl
       ·have g23 : ¬ ((l.Do : Int) = 2) := zed h23
        refine zt (zal (zu (zg rfl (zh rfl rfl aP0 (za rfl (zi rfl rfl rfl rfl rfl trivial (za rfl ?_)))))))
        refine zG rfl (fun h27 => ?_) (fun h27 => ?_)
        ·have g27 : (l.Do : Int) = 3 := zd5 h27
         refine zf rfl h27 rfl (zf rfl h27 rfl (zf rfl h27 rfl (zo rfl h27 rfl rfl (za rfl (zd (zl ?_))))))
         have e28 : zdp c l = true := by
          unfold zdp
          try dsimp only
          rewrite [hJ1]
          try dsimp only
          rewrite [if_pos g6, if_pos g9, if_pos g13, if_pos g16, if_neg g19, if_neg g23, if_pos g27]
          all_goals rfl
         rw [e28]
         exact zk rfl ⟨trivial, trivial⟩ (rfl) rfl
        ·have g27 : ¬ ((l.Do : Int) = 3) := zed h27
         refine ze rfl h27 (zh rfl rfl aP0 (ze rfl h27 (za rfl (ze rfl h27 (zi rfl rfl rfl rfl rfl trivial (zn rfl h27 rfl rfl (za rfl (zd (zl ?_)))))))))
         have e30 : zdp c l = ((l.Do : Int) == 4) := by
          unfold zdp
          try dsimp only
          rewrite [hJ1]
          try dsimp only
          rewrite [if_pos g6, if_pos g9, if_pos g13, if_pos g16, if_neg g19, if_neg g23, if_neg g27]
          all_goals rfl
         rw [e30]
         exact zk rfl ⟨trivial, trivial⟩ (rfl) rfl

def zfh (p : zbD) : Bool :=
  if zV p.Item 1 1000000 = true then (zV p.Weight 1 1000000) else false
theorem zqy (p : zbD) : Ok Tryz.prog 125 [zhH p] [] (B (zfh p)) [] [] := by
 refine zx Tryz.func125 rfl ?_
 refine zg rfl (zz (o := .box [_, _]) (nx' := 1) rfl rfl rfl trivial (za rfl (zd (zg rfl (zh rfl rfl aP0 (za rfl (zB rfl rfl rfl rfl (zaN p.Item 1 1000000) rfl rfl rfl (za rfl ?_))))))))
 refine zG rfl (fun h2 => ?_) (fun h2 => ?_)
 ·have g2 : zV p.Item 1 1000000 = true := h2
  refine ze rfl h2 (zh rfl rfl aP0 (ze rfl h2 (za rfl (ze rfl h2 (zB rfl rfl rfl rfl (zaN p.Weight 1 1000000) rfl rfl rfl (zo rfl h2 rfl rfl (za rfl (zd (zl ?_)))))))))
  have e4 : zfh p = (zV p.Weight 1 1000000) := by
   unfold zfh
   try dsimp only
   rewrite [if_pos g2]
   all_goals rfl
  rw [e4]
  exact zk rfl ⟨trivial, trivial⟩ (rfl) rfl
 ·have g2 : ¬ (zV p.Item 1 1000000 = true) := zaA h2
  refine zf rfl h2 rfl (zf rfl h2 rfl (zf rfl h2 rfl (zn rfl h2 rfl rfl (za rfl (zd (zl ?_))))))
  have e5 : zfh p = false := by
   unfold zfh
   try dsimp only
   rewrite [if_neg g2]
   all_goals rfl
  rw [e5]
  exact zk rfl ⟨trivial, trivial⟩ (rfl) rfl

def badL (l : zcc) (c1 : zA) : Bool :=
  (!(zdp c1 l))
theorem zt5 (l : zcc) (c1 : zA) (hF : Few9 c1) : Ok Tryz.prog 121 [ziE l, .pptr [.slc c1.Abilities.length false (c1.Abilities.flatMap zj), .slc c1.Auras.length false (c1.Auras.flatMap zp), .slc c1.Foes.length false (c1.Foes.flatMap zC), i64 c1.Map.W, i64 c1.Map.H, .slc c1.Map.Wall.length false (encB c1.Map.Wall), i64 c1.Door.X, i64 c1.Door.Y, i64 c1.Lair.X, i64 c1.Lair.Y] 0] [] (B (badL l c1)) [] [] := by
 refine zx Tryz.func121 rfl ?_
 refine zg rfl (zz (o := .box [_, _, _, _, _]) (nx' := 1) rfl rfl rfl trivial (za rfl (zd (zg rfl (zF rfl rfl rfl (Nat.le_of_ble_eq_true rfl) (rfl) rfl (zh (v := (.agg [_, _, _, _, _])) rfl rfl (Nat.le_of_ble_eq_true rfl) (zB rfl rfl rfl rfl (zsq c1 l (by first | assumption | exact zdk (by decide +kernel) | exact zgy (by assumption) | grind)) rfl rfl rfl (za rfl (za rfl (zd (zl ?_)))))))))))
 have e2 : badL l c1 = (!(zdp c1 l)) := by
  unfold badL
  try dsimp only
  all_goals rfl
 rw [e2]
 exact zk rfl ⟨trivial, trivial⟩ (rfl) rfl

def badP (p : zbD) : Bool :=
  (!(zfh p))
theorem ztU (p : zbD) : Ok Tryz.prog 124 [zhH p] [] (B (badP p)) [] [] := by
 refine zx Tryz.func124 rfl ?_
 refine zg rfl (zz (o := .box [_, _]) (nx' := 1) rfl rfl rfl trivial (za rfl (zd (zg rfl (zh (v := (.agg [_, _])) rfl rfl (Nat.le_of_ble_eq_true rfl) (zB rfl rfl rfl rfl (zqy p) rfl rfl rfl (za rfl (za rfl (zd (zl ?_))))))))))
 have e2 : badP p = (!(zfh p)) := by
  unfold badP
  try dsimp only
  all_goals rfl
 rw [e2]
 exact zk rfl ⟨trivial, trivial⟩ (rfl) rfl

def zdS (f : GFoe) : Bool :=
  if zV f.Health 1 1000000 = true then (if zV f.Every 1 1000000 = true then (!(za3 ([f.Hit, f.Reach]))) else (!(zV f.Every 1 1000000))) else (!(zV f.Health 1 1000000))
def zbX (f : GFoe) : Bool :=
  if zV f.Drops 0 16 = true then (if (f.Script.length : Int) > 16 then (decide ((f.Script.length : Int) > 16)) else if (f.Hoard.length : Int) > 16 then (decide ((f.Hoard.length : Int) > 16)) else if (f.Drops : Int) > 0 then ((f.Hoard.length : Int) == 0) else false) else (!(zV f.Drops 0 16))
def foe9 (c : zA) (f : GFoe) : Bool :=
  (let t6_7 := zdS f; if t6_7 = true then false else (let t22_23 := zbX f; if t22_23 = true then false else if f.Script.any (fun x_ => badL x_ c) = true then false else (!(f.Hoard.any (fun x_ => badP x_)))))
theorem zuz (c : zA) (f : GFoe) (hF : Few9 c) : Ok Tryz.prog 99 [zak c, zg9 f] [] (B (foe9 c f)) [] [] := by
 refine Ok.len fun hlen => ?_
 have hl_c_Abilities := hlL (n := c.Abilities.length) hlen
 have hl_c_Auras := hlL (n := c.Auras.length) hlen
 have hl_c_Foes := hlL (n := c.Foes.length) hlen
 have hl_c_Map_Wall := hlL (n := c.Map.Wall.length) hlen
 have hl_f_Script := hlL (n := f.Script.length) hlen
 have hl_f_Hoard := hlL (n := f.Hoard.length) hlen
 refine zx Tryz.func99 rfl ?_
 refine zg rfl (zz (o := .box [_, _, _, _, _, _, _, _, _, _]) (nx' := 1) rfl rfl rfl trivial (zz (o := .box [_, _, _, _, _, _, _, _]) (nx' := 2) rfl rfl rfl trivial (za rfl (zd (zm (zw (zm ?_)))))))
 refine zX (fun t6_7 : Bool => (⟨[(2, .ptr 0 0), (3, .ptr 1 0), (6, B t6_7)], [(0, .box [.pv (.slc c.Abilities.length false (c.Abilities.flatMap zj)), .pv (.slc c.Auras.length false (c.Auras.flatMap zp)), .pv (.slc c.Foes.length false (c.Foes.flatMap zC)), I c.Map.W, I c.Map.H, .pv (.slc c.Map.Wall.length false (encB c.Map.Wall)), I c.Door.X, I c.Door.Y, I c.Lair.X, I c.Lair.Y]), (1, .box [I f.Id, I f.Health, I f.Hit, I f.Every, I f.Reach, .pv (.slc f.Script.length false (f.Script.flatMap zU)), .pv (.slc f.Hoard.length false (f.Hoard.flatMap zM)), I f.Drops])], 2, [], 56, 0⟩ : St)) (fun w_ => zdS f = w_) ?_ ?_
 ·refine zg rfl (zh rfl rfl aP0 (za rfl (zB rfl rfl rfl rfl (zaN f.Health 1 1000000) rfl rfl rfl (za rfl (za rfl (zd ?_))))))
  refine zr rfl (fun h3 => ?_) (fun h3 => ?_)
  ·have g3 : ¬ (zV f.Health 1 1000000 = true) := zaA (zbA h3)
   refine zt ?_
   have e4 : zdS f = (!(zV f.Health 1 1000000)) := by
    unfold zdS
    try dsimp only
    rewrite [if_neg g3]
    all_goals rfl
   exact z0 (!(zV f.Health 1 1000000)) e4 (zD.ren [] aP1 aP1 rfl ⟨⟨rfl, rfl⟩, ⟨rfl, rfl⟩, ⟨rfl, rfl⟩, trivial⟩ ⟨⟨rfl, rfl, rfl⟩, ⟨rfl, rfl, rfl⟩, trivial⟩ aP0)
  ·have g3 : zV f.Health 1 1000000 = true := (zbz h3)
   refine zg rfl (zh rfl rfl aP0 (za rfl (zB rfl rfl rfl rfl (zaN f.Every 1 1000000) rfl rfl rfl (za rfl (za rfl (zd ?_))))))
   refine zr rfl (fun h6 => ?_) (fun h6 => ?_)
   ·have g6 : ¬ (zV f.Every 1 1000000 = true) := zaA (zbA h6)
    refine zt ?_
    have e7 : zdS f = (!(zV f.Every 1 1000000)) := by
     unfold zdS
     try dsimp only
     rewrite [if_pos g3, if_neg g6]
     all_goals rfl
    exact z0 (!(zV f.Every 1 1000000)) e7 (zD.ren [] aP1 aP1 rfl ⟨⟨rfl, rfl⟩, ⟨rfl, rfl⟩, ⟨rfl, rfl⟩, trivial⟩ ⟨⟨rfl, rfl, rfl⟩, ⟨rfl, rfl, rfl⟩, trivial⟩ aP0)
   ·have g6 : zV f.Every 1 1000000 = true := (zbz h6)
    refine zy rfl (zh rfl rfl aP0 (za rfl (zh rfl rfl aP0 (za rfl (zz (o := .row _ _ [_, _]) (nx' := 3) rfl rfl rfl aP0 ?_)))))
    refine zaD (Hin := [.row _ _ _]) (H' := [(2, _), (1, _), (0, _)]) (nx' := 3) [2] rfl rfl rfl rfl rfl rfl rfl rfl rfl aP6 (zfb ([f.Hit, f.Reach]) false) rfl aP0 rfl rfl trivial rfl rfl rfl rfl ?_
    refine za rfl (za rfl (zq ?_))
    have e9 : zdS f = (!(za3 ([f.Hit, f.Reach]))) := by
     unfold zdS
     try dsimp only
     rewrite [if_pos g3, if_pos g6]
     all_goals rfl
    exact z0 (!(za3 ([f.Hit, f.Reach]))) e9 (zD.ren [] aP1 aP1 rfl ⟨⟨rfl, rfl⟩, ⟨rfl, rfl⟩, ⟨rfl, rfl⟩, trivial⟩ ⟨⟨rfl, rfl, rfl⟩, ⟨rfl, rfl, rfl⟩, trivial⟩ aP0)
 ·rintro t6_7 (hJ1 : zdS f = t6_7)
  refine zu ?_
  refine zr rfl (fun h10 => ?_) (fun h10 => ?_)
  ·have g10 : t6_7 = true := h10
   refine zg rfl (za rfl (zd (zl (z8 (zE ?_)))))
   have e11 : foe9 c f = false := by
    unfold foe9
    try dsimp only
    rewrite [hJ1]
    try dsimp only
    rewrite [if_pos g10]
    all_goals rfl
   rw [e11]
   exact zk rfl ⟨trivial, trivial⟩ (rfl) rfl
  ·have g10 : ¬ (t6_7 = true) := zaA h10
   refine zm ?_
   refine zX (fun t22_23 : Bool => (⟨[(2, .ptr 0 0), (3, .ptr 1 0), (22, B t22_23)], [(0, .box [.pv (.slc c.Abilities.length false (c.Abilities.flatMap zj)), .pv (.slc c.Auras.length false (c.Auras.flatMap zp)), .pv (.slc c.Foes.length false (c.Foes.flatMap zC)), I c.Map.W, I c.Map.H, .pv (.slc c.Map.Wall.length false (encB c.Map.Wall)), I c.Door.X, I c.Door.Y, I c.Lair.X, I c.Lair.Y]), (1, .box [I f.Id, I f.Health, I f.Hit, I f.Every, I f.Reach, .pv (.slc f.Script.length false (f.Script.flatMap zU)), .pv (.slc f.Hoard.length false (f.Hoard.flatMap zM)), I f.Drops])], 2, [], 56, 0⟩ : St)) (fun w_ => zbX f = w_) ?_ ?_
   ·refine zg rfl (zh rfl rfl aP0 (za rfl (zB rfl rfl rfl rfl (zaN f.Drops 0 16) rfl rfl rfl (za rfl (za rfl (zd ?_))))))
    refine zr rfl (fun h14 => ?_) (fun h14 => ?_)
    ·have g14 : ¬ (zV f.Drops 0 16 = true) := zaA (zbA h14)
     refine zt ?_
     have e15 : zbX f = (!(zV f.Drops 0 16)) := by
      unfold zbX
      try dsimp only
      rewrite [if_neg g14]
      all_goals rfl
     exact z0 (!(zV f.Drops 0 16)) e15 (zD.ren [] aP1 aP1 rfl ⟨⟨rfl, rfl⟩, ⟨rfl, rfl⟩, ⟨rfl, rfl⟩, trivial⟩ ⟨⟨rfl, rfl, rfl⟩, ⟨rfl, rfl, rfl⟩, trivial⟩ aP0)
    ·have g14 : zV f.Drops 0 16 = true := (zbz h14)
     refine zg rfl (zh rfl rfl aP0 (za rfl (za rfl (zi rfl rfl rfl rfl rfl trivial (za rfl (zd ?_))))))
     refine zr rfl (fun h17 => ?_) (fun h17 => ?_)
     ·have g17 : (f.Script.length : Int) > 16 := of_decide_eq_true h17
      refine zt ?_
      have e18 : zbX f = (decide ((f.Script.length : Int) > 16)) := by
       unfold zbX
       try dsimp only
       rewrite [if_pos g14, if_pos g17]
       all_goals rfl
      exact z0 (decide ((f.Script.length : Int) > 16)) e18 (zD.ren [] aP1 aP1 rfl ⟨⟨rfl, rfl⟩, ⟨rfl, rfl⟩, ⟨rfl, rfl⟩, trivial⟩ ⟨⟨rfl, rfl, rfl⟩, ⟨rfl, rfl, rfl⟩, trivial⟩ aP0)
     ·have g17 : ¬ ((f.Script.length : Int) > 16) := of_decide_eq_false h17
      refine zg rfl (zh rfl rfl aP0 (za rfl (za rfl (zi rfl rfl rfl rfl rfl trivial (za rfl (zd ?_))))))
      refine zr rfl (fun h20 => ?_) (fun h20 => ?_)
      ·have g20 : (f.Hoard.length : Int) > 16 := of_decide_eq_true h20
       refine zt ?_
       have e21 : zbX f = (decide ((f.Hoard.length : Int) > 16)) := by
        unfold zbX
        try dsimp only
        rewrite [if_pos g14, if_neg g17, if_pos g20]
        all_goals rfl
       exact z0 (decide ((f.Hoard.length : Int) > 16)) e21 (zD.ren [] aP1 aP1 rfl ⟨⟨rfl, rfl⟩, ⟨rfl, rfl⟩, ⟨rfl, rfl⟩, trivial⟩ ⟨⟨rfl, rfl, rfl⟩, ⟨rfl, rfl, rfl⟩, trivial⟩ aP0)
      ·have g20 : ¬ ((f.Hoard.length : Int) > 16) := of_decide_eq_false h20
       refine zy rfl (zh rfl rfl aP0 (za rfl (zi rfl rfl rfl rfl rfl trivial (za rfl ?_))))
       refine zG rfl (fun h23 => ?_) (fun h23 => ?_)
       ·have g23 : (f.Drops : Int) > 0 := of_decide_eq_true h23
        refine ze rfl h23 (zh rfl rfl aP0 (ze rfl h23 (za rfl (ze rfl h23 (za rfl (ze rfl h23 (zi rfl rfl rfl rfl rfl trivial (zo rfl h23 rfl rfl (za rfl (zq ?_))))))))))
        have e25 : zbX f = ((f.Hoard.length : Int) == 0) := by
         unfold zbX
         try dsimp only
         rewrite [if_pos g14, if_neg g17, if_neg g20, if_pos g23]
         all_goals rfl
        exact z0 ((f.Hoard.length : Int) == 0) e25 (zD.ren [] aP1 aP1 rfl ⟨⟨rfl, rfl⟩, ⟨rfl, rfl⟩, ⟨rfl, rfl⟩, trivial⟩ ⟨⟨rfl, rfl, rfl⟩, ⟨rfl, rfl, rfl⟩, trivial⟩ aP0)
       ·have g23 : ¬ ((f.Drops : Int) > 0) := of_decide_eq_false h23
        refine zf rfl h23 rfl (zf rfl h23 rfl (zf rfl h23 rfl (zf rfl h23 rfl (zn rfl h23 rfl rfl (za rfl (zq ?_))))))
        have e26 : zbX f = false := by
         unfold zbX
         try dsimp only
         rewrite [if_pos g14, if_neg g17, if_neg g20, if_neg g23]
         all_goals rfl
        exact z0 false e26 (zD.ren [] aP1 aP1 rfl ⟨⟨rfl, rfl⟩, ⟨rfl, rfl⟩, ⟨rfl, rfl⟩, trivial⟩ ⟨⟨rfl, rfl, rfl⟩, ⟨rfl, rfl, rfl⟩, trivial⟩ aP0)
   ·rintro t22_23 (hJ12 : zbX f = t22_23)
    refine zu ?_
    refine zr rfl (fun h27 => ?_) (fun h27 => ?_)
    ·have g27 : t22_23 = true := h27
     refine zg rfl (za rfl (zd (zl (z8 (zE ?_)))))
     have e28 : foe9 c f = false := by
      unfold foe9
      try dsimp only
      rewrite [hJ1]
      try dsimp only
      rewrite [if_neg g10, hJ12]
      try dsimp only
      rewrite [if_pos g27]
      all_goals rfl
     rw [e28]
     exact zk rfl ⟨trivial, trivial⟩ (rfl) rfl
    ·have g27 : ¬ (t22_23 = true) := zaA h27
     refine zt (zal (zu (zg rfl (zh rfl rfl aP0 (za rfl (za rfl ?_))))))
     refine zaD (Hin := [.box [.pv _, .pv _, .pv _, .pv _, .pv _, .pv _, .pv _, .pv _, .pv _, .pv _]]) (H' := [(0, _), (1, _)]) (nx' := 2) [0] rfl rfl rfl rfl rfl rfl rfl rfl rfl aP6 (zo9 f.Script false 121 [.pptr [(.slc c.Abilities.length false (c.Abilities.flatMap zj)), (.slc c.Auras.length false (c.Auras.flatMap zp)), (.slc c.Foes.length false (c.Foes.flatMap zC)), i64 c.Map.W, i64 c.Map.H, (.slc c.Map.Wall.length false (encB c.Map.Wall)), i64 c.Door.X, i64 c.Door.Y, i64 c.Lair.X, i64 c.Lair.Y] 0] (fun x_ => badL x_ c) ⟨rfl, rfl, fun _ => rfl, fun _ => rfl, fun x_ => zt5 x_ c (by first | assumption | exact zdk (by decide +kernel) | exact zgy (by assumption) | grind)⟩) rfl aP0 rfl rfl trivial rfl rfl rfl rfl ?_
     refine za rfl (zd (zg rfl (za rfl (za rfl (za rfl ?_)))))
     refine zG rfl (fun h31 => ?_) (fun h31 => ?_)
     ·have g31 : ¬ (f.Script.any (fun x_ => badL x_ c) = true) := zaA (zbA h31)
      refine ze rfl h31 (zh rfl rfl aP0 (ze rfl h31 (za rfl (ze rfl h31 (zB rfl rfl rfl rfl (zni f.Hoard false 124 [] (fun x_ => badP x_) ⟨rfl, rfl, fun _ => rfl, fun _ => rfl, fun x_ => ztU x_⟩) rfl rfl rfl (ze rfl h31 (za rfl (zo rfl h31 rfl rfl (za rfl (zd (zl ?_)))))))))))
      have e33 : foe9 c f = (!(f.Hoard.any (fun x_ => badP x_))) := by
       unfold foe9
       try dsimp only
       rewrite [hJ1]
       try dsimp only
       rewrite [if_neg g10, hJ12]
       try dsimp only
       rewrite [if_neg g27, if_neg g31]
       all_goals rfl
      rw [e33]
      exact zk rfl ⟨trivial, trivial⟩ (rfl) rfl
     ·have g31 : f.Script.any (fun x_ => badL x_ c) = true := (zbz h31)
      refine zf rfl h31 rfl (zf rfl h31 rfl (zf rfl h31 rfl (zf rfl h31 rfl (zn rfl h31 rfl rfl (za rfl (zd (zl ?_)))))))
      have e34 : foe9 c f = false := by
       unfold foe9
       try dsimp only
       rewrite [hJ1]
       try dsimp only
       rewrite [if_neg g10, hJ12]
       try dsimp only
       rewrite [if_neg g27, if_pos g31]
       all_goals rfl
      rw [e34]
      exact zk rfl ⟨trivial, trivial⟩ (rfl) rfl

def okA (a : zI) (c1 : zA) : Bool :=
  (zco c1 a)
theorem zuL (a : zI) (c1 : zA) : Ok Tryz.prog 91 [zaX a, .pptr [.slc c1.Abilities.length false (c1.Abilities.flatMap zj), .slc c1.Auras.length false (c1.Auras.flatMap zp), .slc c1.Foes.length false (c1.Foes.flatMap zC), i64 c1.Map.W, i64 c1.Map.H, .slc c1.Map.Wall.length false (encB c1.Map.Wall), i64 c1.Door.X, i64 c1.Door.Y, i64 c1.Lair.X, i64 c1.Lair.Y] 0] [] (B (okA a c1)) [] [] := by
 refine Ok.len fun hlen => ?_
 have hl_a_Effects := hlL (n := a.Effects.length) hlen
 refine zx Tryz.func91 rfl ?_
 refine zg rfl (zz (o := .box [_, _, _, _, _, _, _, _]) (nx' := 1) rfl rfl rfl trivial (za rfl (zd (zg rfl (zF rfl rfl rfl (Nat.le_of_ble_eq_true rfl) (rfl) rfl (zh (v := (.agg [_, _, _, _, _, _, _, _])) rfl rfl (Nat.le_of_ble_eq_true rfl) (zB rfl rfl rfl rfl (zmz c1 a) rfl rfl rfl (za rfl (zd (zl ?_))))))))))
 have e2 : okA a c1 = (zco c1 a) := by
  unfold okA
  try dsimp only
  all_goals rfl
 rw [e2]
 exact zk rfl ⟨trivial, trivial⟩ (rfl) rfl

def okF (f : GFoe) (c1 : zA) : Bool :=
  (foe9 c1 f)
theorem zuO (f : GFoe) (c1 : zA) (hF : Few9 c1) : Ok Tryz.prog 98 [zg9 f, .pptr [.slc c1.Abilities.length false (c1.Abilities.flatMap zj), .slc c1.Auras.length false (c1.Auras.flatMap zp), .slc c1.Foes.length false (c1.Foes.flatMap zC), i64 c1.Map.W, i64 c1.Map.H, .slc c1.Map.Wall.length false (encB c1.Map.Wall), i64 c1.Door.X, i64 c1.Door.Y, i64 c1.Lair.X, i64 c1.Lair.Y] 0] [] (B (okF f c1)) [] [] := by
 refine Ok.len fun hlen => ?_
 have hl_f_Script := hlL (n := f.Script.length) hlen
 have hl_f_Hoard := hlL (n := f.Hoard.length) hlen
 refine zx Tryz.func98 rfl ?_
 refine zg rfl (zz (o := .box [_, _, _, _, _, _, _, _]) (nx' := 1) rfl rfl rfl trivial (za rfl (zd (zg rfl (zF rfl rfl rfl (Nat.le_of_ble_eq_true rfl) (rfl) rfl (zh (v := (.agg [_, _, _, _, _, _, _, _])) rfl rfl (Nat.le_of_ble_eq_true rfl) (zB rfl rfl rfl rfl (zuz c1 f (by first | assumption | exact zdk (by decide +kernel) | exact zgy (by assumption) | grind)) rfl rfl rfl (za rfl (zd (zl ?_))))))))))
 have e2 : okF f c1 = (foe9 c1 f) := by
  unfold okF
  try dsimp only
  all_goals rfl
 rw [e2]
 exact zk rfl ⟨trivial, trivial⟩ (rfl) rfl

def zaM (id : zI → Int) (right : zI → Bool) : List zI → Nat → Int → Int → Int
  | [], k0, last0, bad0 => bad0
  | x0 :: l_, k0, last0, bad0 => if (k0 : Int) = 64 then k0 else if (id x0 : Int) ≤ last0 then k0 else if right x0 = true then zaM id right l_ (k0 + 1) (id x0) bad0 else k0
def zgI (l : List zI) (id : zI → Int) (right : zI → Bool) : Int :=
  (let bad_0 := zaM id right l 0 0 (-1); bad_0)
theorem aP2 {p : Prop} (h : p := by first | omega | (simp; omega)) : p := h
theorem zq4 (l : List zI) (l_f : Bool) (id_c : FuncId) (id_k : List AV) (id : zI → Int) (id_h : Fn1 Tryz.prog id_c id_k (fun x_ : zI => [zaX x_]) (fun x_ => I (id x_))) (right_c : FuncId) (right_k : List AV) (right : zI → Bool) (right_h : Fn1 Tryz.prog right_c right_k (fun x_ : zI => [zaX x_]) (fun x_ => B (right x_))) : Ok Tryz.prog 89 [.pv (.slc l.length l_f (l.flatMap zj)), .fnc id_c id_k, .fnc right_c right_k] [] (I (zgI l id right)) [] [] := by
 refine Ok.len fun hlen => ?_
 have hl_l := hlL (n := l.length) hlen
 refine zx Tryz.func89 rfl ?_
 refine zg rfl (za rfl (zd ?_))
 refine zgN ?_
 refine zg rfl (za rfl (za rfl (zd (zm ?_))))
 refine zg1 ?_
 refine zu (zm (zg rfl (za rfl (za rfl (za rfl (zd ?_))))))
 refine zX (fun bad_0 : Int => (⟨[(8, I bad_0)], [], 0, [], 39, 0⟩ : St)) (fun w_ => zaM id right l 0 0 (-1) = w_) ?_ ?_
 ·refine zw ?_
  refine z1 (fun w_ : Nat × Int × Int => match w_ with | (k0, last0, bad0) => (⟨[(1, .fnc id_c id_k), (2, .fnc right_c right_k), (7, I last0), (8, I bad0), (11, .pv (.slc l.length l_f (l.flatMap zj))), (12, I l.length), (13, I k0)], [], 0, [], 39, 0⟩ : St)) (fun w_ : Nat × Int × Int => match w_ with | (k0, last0, bad0) => zaM id right (l.drop k0) k0 last0 bad0 = zaM id right l 0 0 (-1) ∧ k0 ≤ l.length) (fun w_ : Nat × Int × Int => match w_ with | (k0, last0, bad0) => l.length - k0) (0, 0, (-1)) (⟨rfl, Nat.zero_le _⟩) ?_ (fun w_ hh_ => ?_)
  ·exact (zD.ren [] aP1 aP1 rfl ⟨⟨congrArg some id_h.renN.symm, id_h.belN⟩, ⟨congrArg some right_h.renN.symm, right_h.belN⟩, ⟨rfl, rfl⟩, ⟨rfl, rfl⟩, ⟨rfl, rfl⟩, ⟨rfl, rfl⟩, ⟨rfl, rfl⟩, trivial⟩ trivial aP0)
  obtain ⟨k0, last0, bad0⟩ := w_
  obtain ⟨hI0, hb0⟩ := hh_
  refine zg rfl (zi rfl rfl rfl rfl rfl trivial (zd (zm ?_)))
  refine zr rfl (fun h2 => ?_) (fun h2 => ?_)
  ·have g2 : (k0 : Int) < l.length := of_decide_eq_true h2
   have hk0 : k0 < l.length := by omega
   obtain ⟨x0, hx0⟩ : ∃ z_, l[k0]? = some z_ := ⟨_, List.getElem?_eq_getElem hk0⟩
   refine zt (zu (zm (zw (zg rfl (za rfl (zJ (k := k0) rfl rfl rfl rfl hk0 (z3 (s := 8) (enc := zj) (fun _ => rfl) aP0 hk0) rfl (zF rfl rfl rfl (zai (s := 8) (enc := zj) (fun _ => rfl) hk0) (zZ (s := 8) (enc := zj) (fun _ => rfl) hx0) rfl (zz (o := .box [_, _, _, _, _, _, _, _]) (nx' := 1) rfl rfl rfl trivial (za rfl ?_)))))))))
   refine zH (H' := [(0, .box [_, _, _, _, _, _, _, _])]) rfl rfl rfl rfl rfl rfl (.inl rfl) rfl ?_
   refine zd (zm (zg rfl (za rfl (zi rfl rfl rfl rfl rfl trivial (za rfl ?_)))))
   refine zG rfl (fun h5 => ?_) (fun h5 => ?_)
   ·have g5 : (k0 : Int) = 64 := zd5 h5
    refine zf rfl h5 rfl (zf rfl h5 rfl (zf rfl h5 rfl (zf rfl h5 rfl (zf rfl h5 rfl (zo rfl h5 rfl rfl (za rfl (zc rfl (zc rfl (zc rfl (zc rfl (za rfl (zd (zK rfl (zg rfl (za rfl ?_)))))))))))))))
    refine za rfl (zd (zS (z5 ?_)))
    refine zgV rfl ?_
    refine z5 (zag (zaf rfl ?_))
    have e6 : zaM id right l 0 0 (-1) = k0 := by
     rewrite [← hI0, zT hx0]
     rewrite [zaM]
     try dsimp only
     rewrite [if_pos g5]
     all_goals rfl
    exact z0 k0 e6 (zD.ren [] aP1 aP1 rfl ⟨⟨rfl, rfl⟩, trivial⟩ trivial aP0)
   ·have g5 : ¬ ((k0 : Int) = 64) := zed h5
    refine ze rfl h5 (za rfl (ze rfl h5 (zh (v := (.agg [_, _, _, _, _, _, _, _])) rfl rfl (Nat.le_of_ble_eq_true rfl) (ze rfl h5 ?_))))
    refine za8 id_h x0 rfl rfl rfl rfl rfl rfl ?_
    refine ze rfl h5 (za rfl (ze rfl h5 (zi rfl rfl rfl rfl rfl trivial (zn rfl h5 rfl rfl (za rfl ?_)))))
    refine zG rfl (fun h9 => ?_) (fun h9 => ?_)
    ·have g9 : (id x0 : Int) ≤ last0 := of_decide_eq_true h9
     refine zf rfl h9 rfl (zf rfl h9 rfl (zf rfl h9 rfl (zf rfl h9 rfl (zo rfl h9 rfl rfl (zd (zK rfl (zg rfl (za rfl (za rfl (zd (zS (z5 ?_))))))))))))
     refine zgV rfl ?_
     refine z5 (zag (zaf rfl ?_))
     have e10 : zaM id right l 0 0 (-1) = k0 := by
      rewrite [← hI0, zT hx0]
      rewrite [zaM]
      try dsimp only
      rewrite [if_neg g5, if_pos g9]
      all_goals rfl
     exact z0 k0 e10 (zD.ren [] aP1 aP1 rfl ⟨⟨rfl, rfl⟩, trivial⟩ trivial aP0)
    ·have g9 : ¬ ((id x0 : Int) ≤ last0) := of_decide_eq_false h9
     refine ze rfl h9 (za rfl (ze rfl h9 (zh (v := (.agg [_, _, _, _, _, _, _, _])) rfl rfl (Nat.le_of_ble_eq_true rfl) (ze rfl h9 ?_))))
     refine za8 right_h x0 rfl rfl rfl rfl rfl rfl ?_
     refine ze rfl h9 (za rfl (zn rfl h9 rfl rfl (zd ?_)))
     refine zr rfl (fun h12 => ?_) (fun h12 => ?_)
     ·have g12 : ¬ (right x0 = true) := zaA (zbA h12)
      refine zg rfl (za rfl (za rfl (zd (zS (z5 ?_)))))
      refine zgV rfl ?_
      refine z5 (zag (zaf rfl ?_))
      have e13 : zaM id right l 0 0 (-1) = k0 := by
       rewrite [← hI0, zT hx0]
       rewrite [zaM]
       try dsimp only
       rewrite [if_neg g5, if_neg g9, if_neg g12]
       all_goals rfl
      exact z0 k0 e13 (zD.ren [] aP1 aP1 rfl ⟨⟨rfl, rfl⟩, trivial⟩ trivial aP0)
     ·have g12 : right x0 = true := (zbz h12)
      refine zt (zu (zy rfl (za rfl (zh (v := (.agg [_, _, _, _, _, _, _, _])) rfl rfl (Nat.le_of_ble_eq_true rfl) ?_))))
      refine za8 id_h x0 rfl rfl rfl rfl rfl rfl ?_
      refine za rfl (zq (zal (zu (zy rfl (zi rfl rfl rfl rfl rfl trivial (za rfl (zq ?_)))))))
      have e16 : zaM id right (l.drop k0) k0 last0 bad0 = zaM id right (l.drop (k0 + 1)) (k0 + 1) (id x0) bad0 := by
       rewrite [zT hx0]
       rewrite [zaM]
       try dsimp only
       rewrite [if_neg g5, if_neg g9, if_pos g12]
       all_goals rfl
      exact zQ (k0 + 1, (id x0), bad0) ⟨e16.symm.trans hI0, hk0⟩ (by show l.length - (k0 + 1) < l.length - k0; omega) (zD.ren [] aP1 aP1 rfl ⟨⟨congrArg some id_h.renN.symm, id_h.belN⟩, ⟨congrArg some right_h.renN.symm, right_h.belN⟩, ⟨rfl, rfl⟩, ⟨rfl, rfl⟩, ⟨rfl, rfl⟩, ⟨rfl, rfl⟩, ⟨congrArg (fun n => some (I n)) (zbS (k := k0) aP2), rfl⟩, trivial⟩ trivial aP0)
  ·have g2 : ¬ ((k0 : Int) < l.length) := of_decide_eq_false h2
   have hk0 : k0 = l.length := by omega
   refine zS (z5 (zag (zaf rfl ?_)))
   have e17 : zaM id right l 0 0 (-1) = bad0 := by
    rewrite [← hI0, hk0, List.drop_length]
    rewrite [zaM]
    try dsimp only
    all_goals rfl
   exact z0 bad0 e17 (zD.ren [] aP1 aP1 rfl ⟨⟨rfl, rfl⟩, trivial⟩ trivial aP0)
 ·rintro bad_0 (hJ1 : zaM id right l 0 0 (-1) = bad_0)
  refine zu (zg rfl (za rfl (za rfl (zd (zl ?_)))))
  refine zrk ?_
  have e19 : zgI l id right = bad_0 := by
   unfold zgI
   try dsimp only
   rewrite [hJ1]
   try dsimp only
   all_goals rfl
  rw [e19]
  exact zk rfl ⟨trivial, trivial⟩ (rfl) rfl

def zaL (id : zaI → Int) (right : zaI → Bool) : List zaI → Nat → Int → Int → Int
  | [], k0, last0, bad0 => bad0
  | x0 :: l_, k0, last0, bad0 => if (k0 : Int) = 64 then k0 else if (id x0 : Int) ≤ last0 then k0 else if right x0 = true then zaL id right l_ (k0 + 1) (id x0) bad0 else k0
def zgC (l : List zaI) (id : zaI → Int) (right : zaI → Bool) : Int :=
  (let bad_0 := zaL id right l 0 0 (-1); bad_0)
theorem zrf (l : List zaI) (l_f : Bool) (id_c : FuncId) (id_k : List AV) (id : zaI → Int) (id_h : Fn1 Tryz.prog id_c id_k (fun x_ : zaI => [zfk x_]) (fun x_ => I (id x_))) (right_c : FuncId) (right_k : List AV) (right : zaI → Bool) (right_h : Fn1 Tryz.prog right_c right_k (fun x_ : zaI => [zfk x_]) (fun x_ => B (right x_))) : Ok Tryz.prog 93 [.pv (.slc l.length l_f (l.flatMap zp)), .fnc id_c id_k, .fnc right_c right_k] [] (I (zgC l id right)) [] [] := by
 refine Ok.len fun hlen => ?_
 have hl_l := hlL (n := l.length) hlen
 refine zx Tryz.func93 rfl ?_
 refine zg rfl (za rfl (zd ?_))
 refine zgN ?_
 refine zg rfl (za rfl (za rfl (zd (zm ?_))))
 refine zg1 ?_
 refine zu (zm (zg rfl (za rfl (za rfl (za rfl (zd ?_))))))
 refine zX (fun bad_0 : Int => (⟨[(8, I bad_0)], [], 0, [], 39, 0⟩ : St)) (fun w_ => zaL id right l 0 0 (-1) = w_) ?_ ?_
 ·refine zw ?_
  refine z1 (fun w_ : Nat × Int × Int => match w_ with | (k0, last0, bad0) => (⟨[(1, .fnc id_c id_k), (2, .fnc right_c right_k), (7, I last0), (8, I bad0), (11, .pv (.slc l.length l_f (l.flatMap zp))), (12, I l.length), (13, I k0)], [], 0, [], 39, 0⟩ : St)) (fun w_ : Nat × Int × Int => match w_ with | (k0, last0, bad0) => zaL id right (l.drop k0) k0 last0 bad0 = zaL id right l 0 0 (-1) ∧ k0 ≤ l.length) (fun w_ : Nat × Int × Int => match w_ with | (k0, last0, bad0) => l.length - k0) (0, 0, (-1)) (⟨rfl, Nat.zero_le _⟩) ?_ (fun w_ hh_ => ?_)
  ·exact (zD.ren [] aP1 aP1 rfl ⟨⟨congrArg some id_h.renN.symm, id_h.belN⟩, ⟨congrArg some right_h.renN.symm, right_h.belN⟩, ⟨rfl, rfl⟩, ⟨rfl, rfl⟩, ⟨rfl, rfl⟩, ⟨rfl, rfl⟩, ⟨rfl, rfl⟩, trivial⟩ trivial aP0)
  obtain ⟨k0, last0, bad0⟩ := w_
  obtain ⟨hI0, hb0⟩ := hh_
  refine zg rfl (zi rfl rfl rfl rfl rfl trivial (zd (zm ?_)))
  refine zr rfl (fun h2 => ?_) (fun h2 => ?_)
  ·have g2 : (k0 : Int) < l.length := of_decide_eq_true h2
   have hk0 : k0 < l.length := by omega
   obtain ⟨x0, hx0⟩ : ∃ z_, l[k0]? = some z_ := ⟨_, List.getElem?_eq_getElem hk0⟩
   refine zt (zu (zm (zw (zg rfl (za rfl (zJ (k := k0) rfl rfl rfl rfl hk0 (z3 (s := 7) (enc := zp) (fun _ => rfl) aP0 hk0) rfl (zF rfl rfl rfl (zai (s := 7) (enc := zp) (fun _ => rfl) hk0) (zZ (s := 7) (enc := zp) (fun _ => rfl) hx0) rfl (zz (o := .box [_, _, _, _, _, _, _]) (nx' := 1) rfl rfl rfl trivial (za rfl ?_)))))))))
   refine zH (H' := [(0, .box [_, _, _, _, _, _, _])]) rfl rfl rfl rfl rfl rfl (.inl rfl) rfl ?_
   refine zd (zm (zg rfl (za rfl (zi rfl rfl rfl rfl rfl trivial (za rfl ?_)))))
   refine zG rfl (fun h5 => ?_) (fun h5 => ?_)
   ·have g5 : (k0 : Int) = 64 := zd5 h5
    refine zf rfl h5 rfl (zf rfl h5 rfl (zf rfl h5 rfl (zf rfl h5 rfl (zf rfl h5 rfl (zo rfl h5 rfl rfl (za rfl (zc rfl (zc rfl (zc rfl (zc rfl (za rfl (zd (zK rfl (zg rfl (za rfl ?_)))))))))))))))
    refine za rfl (zd (zS (z5 ?_)))
    refine zgV rfl ?_
    refine z5 (zag (zaf rfl ?_))
    have e6 : zaL id right l 0 0 (-1) = k0 := by
     rewrite [← hI0, zT hx0]
     rewrite [zaL]
     try dsimp only
     rewrite [if_pos g5]
     all_goals rfl
    exact z0 k0 e6 (zD.ren [] aP1 aP1 rfl ⟨⟨rfl, rfl⟩, trivial⟩ trivial aP0)
   ·have g5 : ¬ ((k0 : Int) = 64) := zed h5
    refine ze rfl h5 (za rfl (ze rfl h5 (zh (v := (.agg [_, _, _, _, _, _, _])) rfl rfl (Nat.le_of_ble_eq_true rfl) (ze rfl h5 ?_))))
    refine za8 id_h x0 rfl rfl rfl rfl rfl rfl ?_
    refine ze rfl h5 (za rfl (ze rfl h5 (zi rfl rfl rfl rfl rfl trivial (zn rfl h5 rfl rfl (za rfl ?_)))))
    refine zG rfl (fun h9 => ?_) (fun h9 => ?_)
    ·have g9 : (id x0 : Int) ≤ last0 := of_decide_eq_true h9
     refine zf rfl h9 rfl (zf rfl h9 rfl (zf rfl h9 rfl (zf rfl h9 rfl (zo rfl h9 rfl rfl (zd (zK rfl (zg rfl (za rfl (za rfl (zd (zS (z5 ?_))))))))))))
     refine zgV rfl ?_
     refine z5 (zag (zaf rfl ?_))
     have e10 : zaL id right l 0 0 (-1) = k0 := by
      rewrite [← hI0, zT hx0]
      rewrite [zaL]
      try dsimp only
      rewrite [if_neg g5, if_pos g9]
      all_goals rfl
     exact z0 k0 e10 (zD.ren [] aP1 aP1 rfl ⟨⟨rfl, rfl⟩, trivial⟩ trivial aP0)
    ·have g9 : ¬ ((id x0 : Int) ≤ last0) := of_decide_eq_false h9
     refine ze rfl h9 (za rfl (ze rfl h9 (zh (v := (.agg [_, _, _, _, _, _, _])) rfl rfl (Nat.le_of_ble_eq_true rfl) (ze rfl h9 ?_))))
     refine za8 right_h x0 rfl rfl rfl rfl rfl rfl ?_
     refine ze rfl h9 (za rfl (zn rfl h9 rfl rfl (zd ?_)))
     refine zr rfl (fun h12 => ?_) (fun h12 => ?_)
     ·have g12 : ¬ (right x0 = true) := zaA (zbA h12)
      refine zg rfl (za rfl (za rfl (zd (zS (z5 ?_)))))
      refine zgV rfl ?_
      refine z5 (zag (zaf rfl ?_))
      have e13 : zaL id right l 0 0 (-1) = k0 := by
       rewrite [← hI0, zT hx0]
       rewrite [zaL]
       try dsimp only
       rewrite [if_neg g5, if_neg g9, if_neg g12]
       all_goals rfl
      exact z0 k0 e13 (zD.ren [] aP1 aP1 rfl ⟨⟨rfl, rfl⟩, trivial⟩ trivial aP0)
     ·have g12 : right x0 = true := (zbz h12)
      refine zt (zu (zy rfl (za rfl (zh (v := (.agg [_, _, _, _, _, _, _])) rfl rfl (Nat.le_of_ble_eq_true rfl) ?_))))
      refine za8 id_h x0 rfl rfl rfl rfl rfl rfl ?_
      refine za rfl (zq (zal (zu (zy rfl (zi rfl rfl rfl rfl rfl trivial (za rfl (zq ?_)))))))
      have e16 : zaL id right (l.drop k0) k0 last0 bad0 = zaL id right (l.drop (k0 + 1)) (k0 + 1) (id x0) bad0 := by
       rewrite [zT hx0]
       rewrite [zaL]
       try dsimp only
       rewrite [if_neg g5, if_neg g9, if_pos g12]
       all_goals rfl
      exact zQ (k0 + 1, (id x0), bad0) ⟨e16.symm.trans hI0, hk0⟩ (by show l.length - (k0 + 1) < l.length - k0; omega) (zD.ren [] aP1 aP1 rfl ⟨⟨congrArg some id_h.renN.symm, id_h.belN⟩, ⟨congrArg some right_h.renN.symm, right_h.belN⟩, ⟨rfl, rfl⟩, ⟨rfl, rfl⟩, ⟨rfl, rfl⟩, ⟨rfl, rfl⟩, ⟨congrArg (fun n => some (I n)) (zbS (k := k0) aP2), rfl⟩, trivial⟩ trivial aP0)
  ·have g2 : ¬ ((k0 : Int) < l.length) := of_decide_eq_false h2
   have hk0 : k0 = l.length := by omega
   refine zS (z5 (zag (zaf rfl ?_)))
   have e17 : zaL id right l 0 0 (-1) = bad0 := by
    rewrite [← hI0, hk0, List.drop_length]
    rewrite [zaL]
    try dsimp only
    all_goals rfl
   exact z0 bad0 e17 (zD.ren [] aP1 aP1 rfl ⟨⟨rfl, rfl⟩, trivial⟩ trivial aP0)
 ·rintro bad_0 (hJ1 : zaL id right l 0 0 (-1) = bad_0)
  refine zu (zg rfl (za rfl (za rfl (zd (zl ?_)))))
  refine zrk ?_
  have e19 : zgC l id right = bad_0 := by
   unfold zgC
   try dsimp only
   rewrite [hJ1]
   try dsimp only
   all_goals rfl
  rw [e19]
  exact zk rfl ⟨trivial, trivial⟩ (rfl) rfl

def zaS (id : GFoe → Int) (right : GFoe → Bool) : List GFoe → Nat → Int → Int → Int
  | [], k0, last0, bad0 => bad0
  | x0 :: l_, k0, last0, bad0 => if (k0 : Int) = 64 then k0 else if (id x0 : Int) ≤ last0 then k0 else if right x0 = true then zaS id right l_ (k0 + 1) (id x0) bad0 else k0
def zhg (l : List GFoe) (id : GFoe → Int) (right : GFoe → Bool) : Int :=
  (let bad_0 := zaS id right l 0 0 (-1); bad_0)
theorem zp0 (l : List GFoe) (l_f : Bool) (id_c : FuncId) (id_k : List AV) (id : GFoe → Int) (id_h : Fn1 Tryz.prog id_c id_k (fun x_ : GFoe => [zg9 x_]) (fun x_ => I (id x_))) (right_c : FuncId) (right_k : List AV) (right : GFoe → Bool) (right_h : Fn1 Tryz.prog right_c right_k (fun x_ : GFoe => [zg9 x_]) (fun x_ => B (right x_))) : Ok Tryz.prog 96 [.pv (.slc l.length l_f (l.flatMap zC)), .fnc id_c id_k, .fnc right_c right_k] [] (I (zhg l id right)) [] [] := by
 refine Ok.len fun hlen => ?_
 have hl_l := hlL (n := l.length) hlen
 refine zx Tryz.func96 rfl ?_
 refine zg rfl (za rfl (zd ?_))
 refine zgN ?_
 refine zg rfl (za rfl (za rfl (zd (zm ?_))))
 refine zg1 ?_
 refine zu (zm (zg rfl (za rfl (za rfl (za rfl (zd ?_))))))
 refine zX (fun bad_0 : Int => (⟨[(8, I bad_0)], [], 0, [], 39, 0⟩ : St)) (fun w_ => zaS id right l 0 0 (-1) = w_) ?_ ?_
 ·refine zw ?_
  refine z1 (fun w_ : Nat × Int × Int => match w_ with | (k0, last0, bad0) => (⟨[(1, .fnc id_c id_k), (2, .fnc right_c right_k), (7, I last0), (8, I bad0), (11, .pv (.slc l.length l_f (l.flatMap zC))), (12, I l.length), (13, I k0)], [], 0, [], 39, 0⟩ : St)) (fun w_ : Nat × Int × Int => match w_ with | (k0, last0, bad0) => zaS id right (l.drop k0) k0 last0 bad0 = zaS id right l 0 0 (-1) ∧ k0 ≤ l.length) (fun w_ : Nat × Int × Int => match w_ with | (k0, last0, bad0) => l.length - k0) (0, 0, (-1)) (⟨rfl, Nat.zero_le _⟩) ?_ (fun w_ hh_ => ?_)
  ·exact (zD.ren [] aP1 aP1 rfl ⟨⟨congrArg some id_h.renN.symm, id_h.belN⟩, ⟨congrArg some right_h.renN.symm, right_h.belN⟩, ⟨rfl, rfl⟩, ⟨rfl, rfl⟩, ⟨rfl, rfl⟩, ⟨rfl, rfl⟩, ⟨rfl, rfl⟩, trivial⟩ trivial aP0)
  obtain ⟨k0, last0, bad0⟩ := w_
  obtain ⟨hI0, hb0⟩ := hh_
  refine zg rfl (zi rfl rfl rfl rfl rfl trivial (zd (zm ?_)))
  refine zr rfl (fun h2 => ?_) (fun h2 => ?_)
  ·have g2 : (k0 : Int) < l.length := of_decide_eq_true h2
   have hk0 : k0 < l.length := by omega
   obtain ⟨x0, hx0⟩ : ∃ z_, l[k0]? = some z_ := ⟨_, List.getElem?_eq_getElem hk0⟩
   refine zt (zu (zm (zw (zg rfl (za rfl (zJ (k := k0) rfl rfl rfl rfl hk0 (z3 (s := 8) (enc := zC) (fun _ => rfl) aP0 hk0) rfl (zF rfl rfl rfl (zai (s := 8) (enc := zC) (fun _ => rfl) hk0) (zZ (s := 8) (enc := zC) (fun _ => rfl) hx0) rfl (zz (o := .box [_, _, _, _, _, _, _, _]) (nx' := 1) rfl rfl rfl trivial (za rfl ?_)))))))))
   refine zH (H' := [(0, .box [_, _, _, _, _, _, _, _])]) rfl rfl rfl rfl rfl rfl (.inl rfl) rfl ?_
   refine zd (zm (zg rfl (za rfl (zi rfl rfl rfl rfl rfl trivial (za rfl ?_)))))
   refine zG rfl (fun h5 => ?_) (fun h5 => ?_)
   ·have g5 : (k0 : Int) = 64 := zd5 h5
    refine zf rfl h5 rfl (zf rfl h5 rfl (zf rfl h5 rfl (zf rfl h5 rfl (zf rfl h5 rfl (zo rfl h5 rfl rfl (za rfl (zc rfl (zc rfl (zc rfl (zc rfl (za rfl (zd (zK rfl (zg rfl (za rfl ?_)))))))))))))))
    refine za rfl (zd (zS (z5 ?_)))
    refine zgV rfl ?_
    refine z5 (zag (zaf rfl ?_))
    have e6 : zaS id right l 0 0 (-1) = k0 := by
     rewrite [← hI0, zT hx0]
     rewrite [zaS]
     try dsimp only
     rewrite [if_pos g5]
     all_goals rfl
    exact z0 k0 e6 (zD.ren [] aP1 aP1 rfl ⟨⟨rfl, rfl⟩, trivial⟩ trivial aP0)
   ·have g5 : ¬ ((k0 : Int) = 64) := zed h5
    refine ze rfl h5 (za rfl (ze rfl h5 (zh (v := (.agg [_, _, _, _, _, _, _, _])) rfl rfl (Nat.le_of_ble_eq_true rfl) (ze rfl h5 ?_))))
    refine za8 id_h x0 rfl rfl rfl rfl rfl rfl ?_
    refine ze rfl h5 (za rfl (ze rfl h5 (zi rfl rfl rfl rfl rfl trivial (zn rfl h5 rfl rfl (za rfl ?_)))))
    refine zG rfl (fun h9 => ?_) (fun h9 => ?_)
    ·have g9 : (id x0 : Int) ≤ last0 := of_decide_eq_true h9
     refine zf rfl h9 rfl (zf rfl h9 rfl (zf rfl h9 rfl (zf rfl h9 rfl (zo rfl h9 rfl rfl (zd (zK rfl (zg rfl (za rfl (za rfl (zd (zS (z5 ?_))))))))))))
     refine zgV rfl ?_
     refine z5 (zag (zaf rfl ?_))
     have e10 : zaS id right l 0 0 (-1) = k0 := by
      rewrite [← hI0, zT hx0]
      rewrite [zaS]
      try dsimp only
      rewrite [if_neg g5, if_pos g9]
      all_goals rfl
     exact z0 k0 e10 (zD.ren [] aP1 aP1 rfl ⟨⟨rfl, rfl⟩, trivial⟩ trivial aP0)
    ·have g9 : ¬ ((id x0 : Int) ≤ last0) := of_decide_eq_false h9
     refine ze rfl h9 (za rfl (ze rfl h9 (zh (v := (.agg [_, _, _, _, _, _, _, _])) rfl rfl (Nat.le_of_ble_eq_true rfl) (ze rfl h9 ?_))))
     refine za8 right_h x0 rfl rfl rfl rfl rfl rfl ?_
     refine ze rfl h9 (za rfl (zn rfl h9 rfl rfl (zd ?_)))
     refine zr rfl (fun h12 => ?_) (fun h12 => ?_)
     ·have g12 : ¬ (right x0 = true) := zaA (zbA h12)
      refine zg rfl (za rfl (za rfl (zd (zS (z5 ?_)))))
      refine zgV rfl ?_
      refine z5 (zag (zaf rfl ?_))
      have e13 : zaS id right l 0 0 (-1) = k0 := by
       rewrite [← hI0, zT hx0]
       rewrite [zaS]
       try dsimp only
       rewrite [if_neg g5, if_neg g9, if_neg g12]
       all_goals rfl
      exact z0 k0 e13 (zD.ren [] aP1 aP1 rfl ⟨⟨rfl, rfl⟩, trivial⟩ trivial aP0)
     ·have g12 : right x0 = true := (zbz h12)
      refine zt (zu (zy rfl (za rfl (zh (v := (.agg [_, _, _, _, _, _, _, _])) rfl rfl (Nat.le_of_ble_eq_true rfl) ?_))))
      refine za8 id_h x0 rfl rfl rfl rfl rfl rfl ?_
      refine za rfl (zq (zal (zu (zy rfl (zi rfl rfl rfl rfl rfl trivial (za rfl (zq ?_)))))))
      have e16 : zaS id right (l.drop k0) k0 last0 bad0 = zaS id right (l.drop (k0 + 1)) (k0 + 1) (id x0) bad0 := by
       rewrite [zT hx0]
       rewrite [zaS]
       try dsimp only
       rewrite [if_neg g5, if_neg g9, if_pos g12]
       all_goals rfl
      exact zQ (k0 + 1, (id x0), bad0) ⟨e16.symm.trans hI0, hk0⟩ (by show l.length - (k0 + 1) < l.length - k0; omega) (zD.ren [] aP1 aP1 rfl ⟨⟨congrArg some id_h.renN.symm, id_h.belN⟩, ⟨congrArg some right_h.renN.symm, right_h.belN⟩, ⟨rfl, rfl⟩, ⟨rfl, rfl⟩, ⟨rfl, rfl⟩, ⟨rfl, rfl⟩, ⟨congrArg (fun n => some (I n)) (zbS (k := k0) aP2), rfl⟩, trivial⟩ trivial aP0)
  ·have g2 : ¬ ((k0 : Int) < l.length) := of_decide_eq_false h2
   have hk0 : k0 = l.length := by omega
   refine zS (z5 (zag (zaf rfl ?_)))
   have e17 : zaS id right l 0 0 (-1) = bad0 := by
    rewrite [← hI0, hk0, List.drop_length]
    rewrite [zaS]
    try dsimp only
    all_goals rfl
   exact z0 bad0 e17 (zD.ren [] aP1 aP1 rfl ⟨⟨rfl, rfl⟩, trivial⟩ trivial aP0)
 ·rintro bad_0 (hJ1 : zaS id right l 0 0 (-1) = bad_0)
  refine zu (zg rfl (za rfl (za rfl (zd (zl ?_)))))
  refine zrk ?_
  have e19 : zhg l id right = bad_0 := by
   unfold zhg
   try dsimp only
   rewrite [hJ1]
   try dsimp only
   all_goals rfl
  rw [e19]
  exact zk rfl ⟨trivial, trivial⟩ (rfl) rfl

structure zdv where
  (Part : Int)
  (At : Int)
  deriving DecidableEq, Inhabited
abbrev ztF (x : zdv) : AV := .agg [I x.Part, I x.At]
def zdP (c : zA) : zdv × Bool :=
  if (zgI c.Abilities (fun x_ => idA x_) (fun x_ => okA x_ c) : Int) ≥ 0 then ((⟨1, (zgI c.Abilities (fun x_ => idA x_) (fun x_ => okA x_ c))⟩ : zdv), false) else if (zgC c.Auras (fun x_ => idU x_) (fun x_ => zeb x_) : Int) ≥ 0 then ((⟨2, (zgC c.Auras (fun x_ => idU x_) (fun x_ => zeb x_))⟩ : zdv), false) else if (zhg c.Foes (fun x_ => idF x_) (fun x_ => okF x_ c) : Int) ≥ 0 then ((⟨3, (zhg c.Foes (fun x_ => idF x_) (fun x_ => okF x_ c))⟩ : zdv), false) else if zbu c.Map c.Door = true then ((⟨4, 0⟩ : zdv), false) else if zbu c.Map c.Lair = true then ((⟨4, 0⟩ : zdv), false) else ((⟨0, 0⟩ : zdv), true)
theorem zp5 (c : zA) (hF : Few9 c) : Ok Tryz.prog 56 [zak c] [] (.tup [ztF (zdP c).1, B (zdP c).2]) [] [] := by
 refine Ok.len fun hlen => ?_
 have hl_c_Abilities := hlL (n := c.Abilities.length) hlen
 have hl_c_Auras := hlL (n := c.Auras.length) hlen
 have hl_c_Foes := hlL (n := c.Foes.length) hlen
 have hl_c_Map_Wall := hlL (n := c.Map.Wall.length) hlen
 refine zx Tryz.func56 rfl ?_
 refine zg rfl (zz (o := .box [_, _, _, _, _, _, _, _, _, _]) (nx' := 1) rfl rfl rfl trivial (zz (o := .box [_, _]) (nx' := 2) rfl rfl rfl trivial (za rfl (zd (zg rfl (zh rfl rfl aP0 (za rfl (za rfl ?_))))))))
 refine zaD (Hin := [.box [.pv _, .pv _, .pv _, .pv _, .pv _, .pv _, .pv _, .pv _, .pv _, .pv _]]) (H' := [(1, _), (0, _)]) (nx' := 2) [0] rfl rfl rfl rfl rfl rfl rfl rfl rfl aP6 (zq4 c.Abilities false 90 [] (fun x_ => idA x_) ⟨rfl, rfl, fun _ => rfl, fun _ => rfl, fun x_ => ztz x_⟩ 91 [.pptr [(.slc c.Abilities.length false (c.Abilities.flatMap zj)), (.slc c.Auras.length false (c.Auras.flatMap zp)), (.slc c.Foes.length false (c.Foes.flatMap zC)), i64 c.Map.W, i64 c.Map.H, (.slc c.Map.Wall.length false (encB c.Map.Wall)), i64 c.Door.X, i64 c.Door.Y, i64 c.Lair.X, i64 c.Lair.Y] 0] (fun x_ => okA x_ c) ⟨rfl, rfl, fun _ => rfl, fun _ => rfl, fun x_ => zuL x_ c⟩) rfl aP0 rfl rfl trivial rfl rfl rfl rfl ?_
 refine za rfl (zd (zm (zg rfl (za rfl (zi rfl rfl rfl rfl rfl trivial (zd ?_))))))
 refine zr rfl (fun h2 => ?_) (fun h2 => ?_)
 ·have g2 : (zgI c.Abilities (fun x_ => idA x_) (fun x_ => okA x_ c) : Int) ≥ 0 := of_decide_eq_true h2
  refine zg rfl (za rfl (zh (v := (.agg [_, _])) rfl rfl trivial ?_))
  refine zH (H' := [(1, .box [_, _]), (0, _)]) rfl rfl rfl rfl rfl rfl (.inl rfl) rfl ?_
  refine za rfl (zd (zl (zE ?_)))
  have e3 : zdP c = ((⟨1, (zgI c.Abilities (fun x_ => idA x_) (fun x_ => okA x_ c))⟩ : zdv), false) := by
   unfold zdP
   try dsimp only
   rewrite [if_pos g2]
   all_goals rfl
  rw [e3]
  exact zk rfl ⟨Nat.le_of_ble_eq_true rfl, trivial, trivial⟩ (rfl) rfl
 ·have g2 : ¬ ((zgI c.Abilities (fun x_ => idA x_) (fun x_ => okA x_ c) : Int) ≥ 0) := of_decide_eq_false h2
  refine zt (zu (zm (zg rfl (zh rfl rfl aP0 (za rfl (zB rfl rfl rfl rfl (zrf c.Auras false 94 [] (fun x_ => idU x_) ⟨rfl, rfl, fun _ => rfl, fun _ => rfl, fun x_ => ztw x_⟩ 95 [] (fun x_ => zeb x_) ⟨rfl, rfl, fun _ => rfl, fun _ => rfl, fun x_ => ztl x_⟩) rfl rfl rfl (za rfl (zd (zg rfl (za rfl (zi rfl rfl rfl rfl rfl trivial (zd ?_))))))))))))
  refine zr rfl (fun h5 => ?_) (fun h5 => ?_)
  ·have g5 : (zgC c.Auras (fun x_ => idU x_) (fun x_ => zeb x_) : Int) ≥ 0 := of_decide_eq_true h5
   refine zg rfl (za rfl (zh (v := (.agg [_, _])) rfl rfl trivial ?_))
   refine zH (H' := [(1, .box [_, _]), (0, _)]) rfl rfl rfl rfl rfl rfl (.inl rfl) rfl ?_
   refine za rfl (zd (zl (zE ?_)))
   have e6 : zdP c = ((⟨2, (zgC c.Auras (fun x_ => idU x_) (fun x_ => zeb x_))⟩ : zdv), false) := by
    unfold zdP
    try dsimp only
    rewrite [if_neg g2, if_pos g5]
    all_goals rfl
   rw [e6]
   exact zk rfl ⟨Nat.le_of_ble_eq_true rfl, trivial, trivial⟩ (rfl) rfl
  ·have g5 : ¬ ((zgC c.Auras (fun x_ => idU x_) (fun x_ => zeb x_) : Int) ≥ 0) := of_decide_eq_false h5
   refine zt (zu (zg rfl (zh rfl rfl aP0 (za rfl (za rfl ?_)))))
   refine zaD (Hin := [.box [.pv _, .pv _, .pv _, .pv _, .pv _, .pv _, .pv _, .pv _, .pv _, .pv _]]) (H' := [(1, _), (0, _)]) (nx' := 2) [0] rfl rfl rfl rfl rfl rfl rfl rfl rfl aP6 (zp0 c.Foes false 97 [] (fun x_ => idF x_) ⟨rfl, rfl, fun _ => rfl, fun _ => rfl, fun x_ => zva x_⟩ 98 [.pptr [(.slc c.Abilities.length false (c.Abilities.flatMap zj)), (.slc c.Auras.length false (c.Auras.flatMap zp)), (.slc c.Foes.length false (c.Foes.flatMap zC)), i64 c.Map.W, i64 c.Map.H, (.slc c.Map.Wall.length false (encB c.Map.Wall)), i64 c.Door.X, i64 c.Door.Y, i64 c.Lair.X, i64 c.Lair.Y] 0] (fun x_ => okF x_ c) ⟨rfl, rfl, fun _ => rfl, fun _ => rfl, fun x_ => zuO x_ c (by first | assumption | exact zdk (by decide +kernel) | exact zgy (by assumption) | grind)⟩) rfl aP0 rfl rfl trivial rfl rfl rfl rfl ?_
   refine za rfl (zd (zm (zg rfl (za rfl (zi rfl rfl rfl rfl rfl trivial (zd ?_))))))
   refine zr rfl (fun h8 => ?_) (fun h8 => ?_)
   ·have g8 : (zhg c.Foes (fun x_ => idF x_) (fun x_ => okF x_ c) : Int) ≥ 0 := of_decide_eq_true h8
    refine zg rfl (za rfl (zh (v := (.agg [_, _])) rfl rfl trivial ?_))
    refine zH (H' := [(1, .box [_, _]), (0, _)]) rfl rfl rfl rfl rfl rfl (.inl rfl) rfl ?_
    refine za rfl (zd (zl (zE ?_)))
    have e9 : zdP c = ((⟨3, (zhg c.Foes (fun x_ => idF x_) (fun x_ => okF x_ c))⟩ : zdv), false) := by
     unfold zdP
     try dsimp only
     rewrite [if_neg g2, if_neg g5, if_pos g8]
     all_goals rfl
    rw [e9]
    exact zk rfl ⟨Nat.le_of_ble_eq_true rfl, trivial, trivial⟩ (rfl) rfl
   ·have g8 : ¬ ((zhg c.Foes (fun x_ => idF x_) (fun x_ => okF x_ c) : Int) ≥ 0) := of_decide_eq_false h8
    refine zt (zu (zm (zg rfl (zh rfl rfl aP0 (zh (v := (.agg [_, _, _])) rfl rfl (Nat.le_of_ble_eq_true rfl) (zh rfl rfl aP0 (zh (v := (.agg [_, _])) rfl rfl (Nat.le_of_ble_eq_true rfl) (zB rfl rfl rfl rfl (ziK c.Map c.Door) rfl rfl rfl (za rfl ?_)))))))))
    refine zG rfl (fun h11 => ?_) (fun h11 => ?_)
    ·have g11 : zbu c.Map c.Door = true := h11
     refine zf rfl h11 rfl (zf rfl h11 rfl (zf rfl h11 rfl (zf rfl h11 rfl (zf rfl h11 rfl (zo rfl h11 rfl rfl (zd (zK rfl (zg rfl (zh (v := (.agg [_, _])) rfl rfl trivial ?_)))))))))
     refine zH (H' := [(1, .box [_, _]), (0, _)]) rfl rfl rfl rfl rfl rfl (.inl rfl) rfl ?_
     refine za rfl (zd (zl (zE ?_)))
     have e12 : zdP c = ((⟨4, 0⟩ : zdv), false) := by
      unfold zdP
      try dsimp only
      rewrite [if_neg g2, if_neg g5, if_neg g8, if_pos g11]
      all_goals rfl
     rw [e12]
     exact zk rfl ⟨Nat.le_of_ble_eq_true rfl, trivial, trivial⟩ (rfl) rfl
    ·have g11 : ¬ (zbu c.Map c.Door = true) := zaA h11
     refine ze rfl h11 (zh rfl rfl aP0 (ze rfl h11 (zh (v := (.agg [_, _, _])) rfl rfl (Nat.le_of_ble_eq_true rfl) (ze rfl h11 (zh rfl rfl aP0 (ze rfl h11 (zh (v := (.agg [_, _])) rfl rfl (Nat.le_of_ble_eq_true rfl) (ze rfl h11 (zB rfl rfl rfl rfl (ziK c.Map c.Lair) rfl rfl rfl (zn rfl h11 rfl rfl (zd ?_)))))))))))
     refine zr rfl (fun h14 => ?_) (fun h14 => ?_)
     ·have g14 : zbu c.Map c.Lair = true := h14
      refine zg rfl (zh (v := (.agg [_, _])) rfl rfl trivial ?_)
      refine zH (H' := [(1, .box [_, _]), (0, _)]) rfl rfl rfl rfl rfl rfl (.inl rfl) rfl ?_
      refine za rfl (zd (zl (zE ?_)))
      have e15 : zdP c = ((⟨4, 0⟩ : zdv), false) := by
       unfold zdP
       try dsimp only
       rewrite [if_neg g2, if_neg g5, if_neg g8, if_neg g11, if_pos g14]
       all_goals rfl
      rw [e15]
      exact zk rfl ⟨Nat.le_of_ble_eq_true rfl, trivial, trivial⟩ (rfl) rfl
     ·have g14 : ¬ (zbu c.Map c.Lair = true) := zaA h14
      refine zt (zu (zg rfl (zh (v := (.agg [_, _])) rfl rfl trivial ?_)))
      refine zH (H' := [(1, .box [_, _]), (0, _)]) rfl rfl rfl rfl rfl rfl (.inl rfl) rfl ?_
      refine za rfl (zd (zl ?_))
      have e16 : zdP c = ((⟨0, 0⟩ : zdv), true) := by
       unfold zdP
       try dsimp only
       rewrite [if_neg g2, if_neg g5, if_neg g8, if_neg g11, if_neg g14]
       all_goals rfl
      rw [e16]
      exact zk rfl ⟨Nat.le_of_ble_eq_true rfl, trivial, trivial⟩ (rfl) rfl

def zf4 (c : zA) : Bool :=
  (zdP c).2
theorem zqr (c : zA) (hF : Few9 c) : Ok Tryz.prog 20 [zak c] [] (B (zf4 c)) [] [] := by
 refine Ok.len fun hlen => ?_
 have hl_c_Abilities := hlL (n := c.Abilities.length) hlen
 have hl_c_Auras := hlL (n := c.Auras.length) hlen
 have hl_c_Foes := hlL (n := c.Foes.length) hlen
 have hl_c_Map_Wall := hlL (n := c.Map.Wall.length) hlen
 refine zx Tryz.func20 rfl ?_
 refine zg rfl (zz (o := .box [_, _, _, _, _, _, _, _, _, _]) (nx' := 1) rfl rfl rfl trivial (za rfl (zd (zg rfl (zh (v := (.agg [_, _, _, _, _, _, _, _, _, _])) rfl rfl (Nat.le_of_ble_eq_true rfl) (zB rfl rfl rfl rfl (zp5 c (by first | assumption | exact zdk (by decide +kernel) | exact zgy (by assumption) | grind)) rfl rfl rfl (za rfl (za rfl (za rfl (zz (o := .box [_, _]) (nx' := 2) rfl rfl rfl trivial ?_))))))))))
 refine zH (H' := [(1, .box [_, _]), (0, _)]) rfl rfl rfl rfl rfl rfl (.inl rfl) rfl ?_
 refine za rfl (zd (zg rfl (za rfl (za rfl (zd (zl ?_))))))
 have e2 : zf4 c = (zdP c).2 := by
  unfold zf4
  try dsimp only
  all_goals rfl
 rw [e2]
 exact zk rfl ⟨trivial, trivial⟩ (rfl) rfl

def zif (a : GFoe) (b : GFoe) : Bool :=
  if ((a.Id == b.Id) && ((a.Health == b.Health) && ((a.Hit == b.Hit) && ((a.Every == b.Every) && ((a.Reach == b.Reach) && ((a.Drops == b.Drops) && true)))))) = true then (if a.Script = b.Script then (decide (a.Hoard = b.Hoard)) else false) else false
theorem zkU (a : GFoe) (b : GFoe) : Ok Tryz.prog 62 [zg9 a, zg9 b] [] (B (zif a b)) [] [] := by
 refine Ok.len fun hlen => ?_
 have hl_a_Script := hlL (n := a.Script.length) hlen
 have hl_a_Hoard := hlL (n := a.Hoard.length) hlen
 have hl_b_Script := hlL (n := b.Script.length) hlen
 have hl_b_Hoard := hlL (n := b.Hoard.length) hlen
 refine zx Tryz.func62 rfl ?_
 refine zg rfl (zz (o := .box [_, _, _, _, _, _, _, _]) (nx' := 1) rfl rfl rfl trivial (zz (o := .box [_, _, _, _, _, _, _, _]) (nx' := 2) rfl rfl rfl trivial (za rfl (zd (zg rfl (zh rfl rfl aP0 (za rfl (zh rfl rfl aP0 (za rfl (zh rfl rfl aP0 (za rfl (zh rfl rfl aP0 (za rfl (zh rfl rfl aP0 ?_))))))))))))))
 refine za rfl (zh rfl rfl aP0 (za rfl (zh (v := (.agg [_, _, _, _, _, _])) rfl rfl trivial (zz (o := .box [_, _, _, _, _, _]) (nx' := 3) rfl rfl rfl trivial ?_))))
 refine zH (H' := [(2, .box [_, _, _, _, _, _]), (1, _), (0, _)]) rfl rfl rfl rfl rfl rfl (.inl rfl) rfl ?_
 refine zd (zg rfl (zh rfl rfl aP0 (za rfl (zh rfl rfl aP0 (za rfl (zh rfl rfl aP0 (za rfl (zh rfl rfl aP0 (za rfl (zh rfl rfl aP0 (za rfl (zh rfl rfl aP0 (za rfl (zh (v := (.agg [_, _, _, _, _, _])) rfl rfl trivial (zz (o := .box [_, _, _, _, _, _]) (nx' := 4) rfl rfl rfl trivial ?_)))))))))))))))
 refine zH (H' := [(3, .box [_, _, _, _, _, _]), (2, _), (1, _), (0, _)]) rfl rfl rfl rfl rfl rfl (.inl rfl) rfl ?_
 refine zd (zg rfl (zh (v := (.agg [_, _, _, _, _, _])) rfl rfl (Nat.le_of_ble_eq_true rfl) (zh (v := (.agg [_, _, _, _, _, _])) rfl rfl (Nat.le_of_ble_eq_true rfl) ?_)))
 refine zqV rfl rfl rfl (by kernel_rfl) rfl rfl rfl rfl rfl ?_
 refine za rfl ?_
 refine zG rfl (fun h2 => ?_) (fun h2 => ?_)
 ·have g2 : ((a.Id == b.Id) && ((a.Health == b.Health) && ((a.Hit == b.Hit) && ((a.Every == b.Every) && ((a.Reach == b.Reach) && ((a.Drops == b.Drops) && true)))))) = true := h2
  refine ze rfl h2 (zh rfl rfl aP0 (ze rfl h2 (za rfl (ze rfl h2 (zh rfl rfl aP0 (ze rfl h2 (za rfl (ze rfl h2 (zB rfl rfl rfl rfl (zmO a.Script false b.Script false) rfl rfl rfl (zo rfl h2 rfl rfl (za rfl ?_)))))))))))
  refine zG rfl (fun h4 => ?_) (fun h4 => ?_)
  ·have g4 : a.Script = b.Script := of_decide_eq_true h4
   refine ze rfl h4 (zh rfl rfl aP0 (ze rfl h4 (za rfl (ze rfl h4 (zh rfl rfl aP0 (ze rfl h4 (za rfl (ze rfl h4 (zB rfl rfl rfl rfl (zlT a.Hoard false b.Hoard false) rfl rfl rfl (zo rfl h4 rfl rfl (za rfl (zd (zl ?_)))))))))))))
   have e6 : zif a b = (decide (a.Hoard = b.Hoard)) := by
    unfold zif
    try dsimp only
    rewrite [if_pos g2, if_pos g4]
    all_goals rfl
   rw [e6]
   exact zk rfl ⟨trivial, trivial⟩ (rfl) rfl
  ·have g4 : ¬ (a.Script = b.Script) := of_decide_eq_false h4
   refine zf rfl h4 rfl (zf rfl h4 rfl (zf rfl h4 rfl (zf rfl h4 rfl (zf rfl h4 rfl (zn rfl h4 rfl rfl (za rfl (zd (zl ?_))))))))
   have e7 : zif a b = false := by
    unfold zif
    try dsimp only
    rewrite [if_pos g2, if_neg g4]
    all_goals rfl
   rw [e7]
   exact zk rfl ⟨trivial, trivial⟩ (rfl) rfl
 ·have g2 : ¬ (((a.Id == b.Id) && ((a.Health == b.Health) && ((a.Hit == b.Hit) && ((a.Every == b.Every) && ((a.Reach == b.Reach) && ((a.Drops == b.Drops) && true)))))) = true) := zaA h2
  refine zf rfl h2 rfl (zf rfl h2 rfl (zf rfl h2 rfl (zf rfl h2 rfl (zf rfl h2 rfl (zn rfl h2 rfl rfl (za rfl (zc rfl (zc rfl (zc rfl (zc rfl (zc rfl (za rfl (za rfl (zd (zl ?_)))))))))))))))
  have e8 : zif a b = false := by
   unfold zif
   try dsimp only
   rewrite [if_neg g2]
   all_goals rfl
  rw [e8]
  exact zk rfl ⟨trivial, trivial⟩ (rfl) rfl

end Go.Proofs.YtppnccjeggnllaaGreat

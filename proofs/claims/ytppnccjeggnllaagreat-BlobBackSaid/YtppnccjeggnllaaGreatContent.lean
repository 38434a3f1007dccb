import Derived.Test.YtppnccjeggnllaaGreatSl
namespace Go.Proofs.YtppnccjeggnllaaGreat
open Go Go.RowKit Go.Proofs.YtppnccjeggnllaaGreatVm
attribute [local irreducible] zY zaM OpsS
set_option maxHeartbeats 400000
set_option maxRecDepth 100000
set_option linter.all false
theorem zm0 {α : Type} (p : α → Bool) (l : List α) : -1 ≤ fidx p l ∧ fidx p l < l.length := by
  rcases zgk p l with ⟨h, _⟩ | ⟨k, x, h, h2, _⟩
  · rw [h]; omega
  · rw [h]; have := (List.getElem?_eq_some_iff.1 h2).1; omega

def zes (n : Int) : Bool :=
  if (n : Int) ≥ 1 then (decide ((n : Int) ≤ 256)) else false
theorem zk2 (n : Int) : Ok Tryz.prog 148 [I n] [] (B (zes n)) [] [] := by
 refine zz Tryz.func148 rfl ?_
 show zO Tryz.prog _ _ ⟨[(0, I n)], [], 0, [], 9, 0⟩
 refine zd (zb rfl (za rfl rfl trivial (zc (ze (zd (zb rfl (za rfl rfl trivial (zl rfl rfl rfl rfl rfl trivial (za rfl rfl trivial ?_)))))))))
 refine zK rfl (fun h3 => ?_) (fun h3 => ?_)
 ·have g3 : (n : Int) ≥ 1 := of_decide_eq_true h3
  refine zg rfl h3 (za rfl rfl trivial (zg rfl h3 (zl rfl rfl rfl rfl rfl trivial (zr rfl h3 rfl rfl (za rfl rfl trivial (zc (ze (zo ?_))))))))
  have e5 : zes n = (decide ((n : Int) ≤ 256)) := by
   unfold zes
   try dsimp only
   rewrite [if_pos g3]
   all_goals rfl
  rw [e5]
  exact zp rfl ⟨trivial, trivial⟩ (rfl) rfl
 ·have g3 : ¬ ((n : Int) ≥ 1) := of_decide_eq_false h3
  refine zh rfl h3 rfl (zh rfl h3 rfl (zt rfl h3 rfl rfl (za rfl rfl trivial (zc (ze (zo ?_))))))
  have e6 : zes n = false := by
   unfold zes
   try dsimp only
   rewrite [if_neg g3]
   all_goals rfl
  rw [e6]
  exact zp rfl ⟨trivial, trivial⟩ (rfl) rfl

structure zax where
  (W : Int)
  (H : Int)
  (Wall : List Bool)
  deriving DecidableEq, Inhabited
def zqe (x : zax) : List PV := [i64 x.W, i64 x.H, .slc x.Wall.length false (encB x.Wall)]
abbrev ze8 (x : zax) : AV := .agg [I x.W, I x.H, .pv (.slc x.Wall.length false (encB x.Wall))]
def zko (x : zax) : Prop := (InR x.W) ∧ (InR x.H) ∧ (x.Wall.length ≤ 140737488355328)

def zbB (g : zax) : Bool :=
  if zes g.W = true then (if zes g.H = true then ((g.Wall.length : Int) == (IntKind.i64.wrap (g.W * g.H))) else false) else false
theorem zjT (g : zax) : Ok Tryz.prog 140 [ze8 g] [] (B (zbB g)) [] [] := by
 refine Ok.len fun hlen => ?_
 have hl_g_Wall : g.Wall.length ≤ maxLen := hlen _ (by simp [zT, lens, zU])
 unfold maxLen at hl_g_Wall
 refine zz Tryz.func140 rfl ?_
 show zO Tryz.prog _ _ ⟨[(0, ze8 g)], [], 0, [], 25, 0⟩
 refine zd (zb rfl (zB (o := .box [_, _, _]) (nx' := 1) rfl rfl rfl trivial (za rfl rfl trivial (zc (ze (zd (zb rfl (za rfl rfl trivial (zc (ze (zd ?_)))))))))))
 refine zb rfl (za rfl rfl trivial (za rfl rfl (by decide) (za rfl rfl trivial (zF rfl rfl rfl rfl (zk2 g.W) rfl rfl rfl (za rfl rfl trivial ?_)))))
 refine zK rfl (fun h2 => ?_) (fun h2 => ?_)
 ·have g2 : zes g.W = true := h2
  refine zg rfl h2 (za rfl rfl trivial (zg rfl h2 (za rfl rfl (by decide) (zg rfl h2 (za rfl rfl trivial (zg rfl h2 (zF rfl rfl rfl rfl (zk2 g.H) rfl rfl rfl (zr rfl h2 rfl rfl (za rfl rfl trivial ?_)))))))))
  refine zK rfl (fun h4 => ?_) (fun h4 => ?_)
  ·have g4 : zes g.H = true := h4
   refine zg rfl h4 (za rfl rfl (by decide) (zg rfl h4 (za rfl rfl trivial (zg rfl h4 (za rfl rfl trivial (zg rfl h4 (za rfl rfl (by decide) (zg rfl h4 (za rfl rfl trivial (zg rfl h4 (za rfl rfl (by decide) ?_)))))))))))
   refine zg rfl h4 (za rfl rfl trivial (zg rfl h4 (zl rfl rfl rfl rfl rfl trivial (zg rfl h4 (zl rfl rfl rfl rfl rfl trivial (zr rfl h4 rfl rfl (za rfl rfl trivial (zc (ze (zo ?_))))))))))
   have e6 : zbB g = ((g.Wall.length : Int) == (IntKind.i64.wrap (g.W * g.H))) := by
    unfold zbB
    try dsimp only
    rewrite [if_pos g2, if_pos g4]
    all_goals rfl
   rw [e6]
   exact zp rfl ⟨trivial, trivial⟩ (rfl) rfl
  ·have g4 : ¬ (zes g.H = true) := zaw h4
   refine zh rfl h4 rfl (zh rfl h4 rfl (zh rfl h4 rfl (zh rfl h4 rfl (zh rfl h4 rfl (zh rfl h4 rfl (zh rfl h4 rfl (zh rfl h4 rfl (zh rfl h4 rfl (zt rfl h4 rfl rfl (za rfl rfl trivial (zc ?_)))))))))))
   refine ze (zo ?_)
   have e7 : zbB g = false := by
    unfold zbB
    try dsimp only
    rewrite [if_pos g2, if_neg g4]
    all_goals rfl
   rw [e7]
   exact zp rfl ⟨trivial, trivial⟩ (rfl) rfl
 ·have g2 : ¬ (zes g.W = true) := zaw h2
  refine zh rfl h2 rfl (zh rfl h2 rfl (zh rfl h2 rfl (zh rfl h2 rfl (zt rfl h2 rfl rfl (za rfl rfl trivial (zf rfl rfl (zf rfl rfl (zf rfl rfl (zf rfl rfl (zf rfl rfl (zf rfl rfl ?_)))))))))))
  refine zf rfl rfl (zf rfl rfl (zf rfl rfl (za rfl rfl trivial (za rfl rfl trivial (zc (ze (zo ?_)))))))
  have e8 : zbB g = false := by
   unfold zbB
   try dsimp only
   rewrite [if_neg g2]
   all_goals rfl
  rw [e8]
  exact zp rfl ⟨trivial, trivial⟩ (rfl) rfl

structure GPos where
  (X : Int)
  (Y : Int)
  deriving DecidableEq, Inhabited
def zqO (x : GPos) : List PV := [i64 x.X, i64 x.Y]
abbrev zjx (x : GPos) : AV := .agg [I x.X, I x.Y]
def zk6 (x : GPos) : Prop := (InR x.X) ∧ (InR x.Y)
def zcW (g : zax) (p : GPos) : Bool :=
  if (p.X : Int) ≥ 0 then (if (p.X : Int) < g.W then (if (p.Y : Int) ≥ 0 then (decide ((p.Y : Int) < g.H)) else false) else false) else false
theorem zmd (g : zax) (p : GPos) : Ok Tryz.prog 141 [ze8 g, zjx p] [] (B (zcW g p)) [] [] := by
 refine Ok.len fun hlen => ?_
 have hl_g_Wall : g.Wall.length ≤ maxLen := hlen _ (by simp [zT, lens, zU])
 unfold maxLen at hl_g_Wall
 refine zz Tryz.func141 rfl ?_
 show zO Tryz.prog _ _ ⟨[(0, ze8 g), (1, zjx p)], [], 0, [], 27, 0⟩
 refine zd (zb rfl (zB (o := .box [_, _, _]) (nx' := 1) rfl rfl rfl trivial (zB (o := .box [_, _]) (nx' := 2) rfl rfl rfl trivial (za rfl rfl trivial (zc (ze (zd (zb rfl (za rfl rfl (by decide) (za rfl rfl trivial (zl rfl rfl rfl rfl rfl trivial ?_)))))))))))
 refine za rfl rfl trivial ?_
 refine zK rfl (fun h2 => ?_) (fun h2 => ?_)
 ·have g2 : (p.X : Int) ≥ 0 := of_decide_eq_true h2
  refine zg rfl h2 (za rfl rfl (by decide) (zg rfl h2 (za rfl rfl trivial (zg rfl h2 (za rfl rfl (by decide) (zg rfl h2 (za rfl rfl trivial (zg rfl h2 (zl rfl rfl rfl rfl rfl trivial (zr rfl h2 rfl rfl (za rfl rfl trivial ?_)))))))))))
  refine zK rfl (fun h4 => ?_) (fun h4 => ?_)
  ·have g4 : (p.X : Int) < g.W := of_decide_eq_true h4
   refine zg rfl h4 (za rfl rfl (by decide) (zg rfl h4 (za rfl rfl trivial (zg rfl h4 (zl rfl rfl rfl rfl rfl trivial (zr rfl h4 rfl rfl (za rfl rfl trivial ?_)))))))
   refine zK rfl (fun h6 => ?_) (fun h6 => ?_)
   ·have g6 : (p.Y : Int) ≥ 0 := of_decide_eq_true h6
    refine zg rfl h6 (za rfl rfl (by decide) (zg rfl h6 (za rfl rfl trivial (zg rfl h6 (za rfl rfl (by decide) (zg rfl h6 (za rfl rfl trivial (zg rfl h6 (zl rfl rfl rfl rfl rfl trivial (zr rfl h6 rfl rfl (za rfl rfl trivial ?_)))))))))))
    refine zc (ze (zo ?_))
    have e8 : zcW g p = (decide ((p.Y : Int) < g.H)) := by
     unfold zcW
     try dsimp only
     rewrite [if_pos g2, if_pos g4, if_pos g6]
     all_goals rfl
    rw [e8]
    exact zp rfl ⟨trivial, trivial⟩ (rfl) rfl
   ·have g6 : ¬ ((p.Y : Int) ≥ 0) := of_decide_eq_false h6
    refine zh rfl h6 rfl (zh rfl h6 rfl (zh rfl h6 rfl (zh rfl h6 rfl (zh rfl h6 rfl (zt rfl h6 rfl rfl (za rfl rfl trivial (zc (ze (zo ?_)))))))))
    have e9 : zcW g p = false := by
     unfold zcW
     try dsimp only
     rewrite [if_pos g2, if_pos g4, if_neg g6]
     all_goals rfl
    rw [e9]
    exact zp rfl ⟨trivial, trivial⟩ (rfl) rfl
  ·have g4 : ¬ ((p.X : Int) < g.W) := of_decide_eq_false h4
   refine zh rfl h4 rfl (zh rfl h4 rfl (zh rfl h4 rfl (zt rfl h4 rfl rfl (za rfl rfl trivial (zf rfl rfl (zf rfl rfl (zf rfl rfl (zf rfl rfl (zf rfl rfl (za rfl rfl trivial (za rfl rfl trivial ?_)))))))))))
   refine zc (ze (zo ?_))
   have e10 : zcW g p = false := by
    unfold zcW
    try dsimp only
    rewrite [if_pos g2, if_neg g4]
    all_goals rfl
   rw [e10]
   exact zp rfl ⟨trivial, trivial⟩ (rfl) rfl
 ·have g2 : ¬ ((p.X : Int) ≥ 0) := of_decide_eq_false h2
  refine zh rfl h2 rfl (zh rfl h2 rfl (zh rfl h2 rfl (zh rfl h2 rfl (zh rfl h2 rfl (zt rfl h2 rfl rfl (za rfl rfl trivial (zf rfl rfl (zf rfl rfl (zf rfl rfl (za rfl rfl trivial (za rfl rfl trivial ?_)))))))))))
  refine zf rfl rfl (zf rfl rfl (zf rfl rfl (zf rfl rfl (zf rfl rfl (za rfl rfl trivial (za rfl rfl trivial (zc (ze (zo ?_)))))))))
  have e11 : zcW g p = false := by
   unfold zcW
   try dsimp only
   rewrite [if_neg g2]
   all_goals rfl
  rw [e11]
  exact zp rfl ⟨trivial, trivial⟩ (rfl) rfl

def zeo (g : zax) (p : GPos) : Bool :=
  if zbB g = true then (zcW g p) else false
theorem zm4 (g : zax) (p : GPos) : Ok Tryz.prog 126 [ze8 g, zjx p] [] (B (zeo g p)) [] [] := by
 refine Ok.len fun hlen => ?_
 have hl_g_Wall : g.Wall.length ≤ maxLen := hlen _ (by simp [zT, lens, zU])
 unfold maxLen at hl_g_Wall
 refine zz Tryz.func126 rfl ?_
 show zO Tryz.prog _ _ ⟨[(0, ze8 g), (1, zjx p)], [], 0, [], 12, 0⟩
 refine zd (zb rfl (zB (o := .box [_, _, _]) (nx' := 1) rfl rfl rfl trivial (zB (o := .box [_, _]) (nx' := 2) rfl rfl rfl trivial (za rfl rfl trivial (zc (ze (zd (zb rfl (za (v := (.agg [_, _, _])) rfl rfl (Nat.le_of_ble_eq_true rfl) (zF rfl rfl rfl rfl (zjT g) rfl rfl rfl (za rfl rfl trivial ?_)))))))))))
 refine zK rfl (fun h2 => ?_) (fun h2 => ?_)
 ·have g2 : zbB g = true := h2
  refine zg rfl h2 (za (v := (.agg [_, _, _])) rfl rfl (Nat.le_of_ble_eq_true rfl) (zg rfl h2 (za (v := (.agg [_, _])) rfl rfl (Nat.le_of_ble_eq_true rfl) (zg rfl h2 (zF rfl rfl rfl rfl (zmd g p) rfl rfl rfl (zr rfl h2 rfl rfl (za rfl rfl trivial (zc (ze (zo ?_))))))))))
  have e4 : zeo g p = (zcW g p) := by
   unfold zeo
   try dsimp only
   rewrite [if_pos g2]
   all_goals rfl
  rw [e4]
  exact zp rfl ⟨trivial, trivial⟩ (rfl) rfl
 ·have g2 : ¬ (zbB g = true) := zaw h2
  refine zh rfl h2 rfl (zh rfl h2 rfl (zh rfl h2 rfl (zt rfl h2 rfl rfl (za rfl rfl trivial (zc (ze (zo ?_)))))))
  have e5 : zeo g p = false := by
   unfold zeo
   try dsimp only
   rewrite [if_neg g2]
   all_goals rfl
  rw [e5]
  exact zp rfl ⟨trivial, trivial⟩ (rfl) rfl

theorem zg2 {n : Int} : zes n = true ↔ 1 ≤ n ∧ n ≤ 256 := by
  unfold zes
  split <;> simp <;> omega
theorem ziJ {g : zax} : zbB g = true ↔ (1 ≤ g.W ∧ g.W ≤ 256) ∧ (1 ≤ g.H ∧ g.H ≤ 256) ∧ (g.Wall.length : Int) = IntKind.i64.wrap (g.W * g.H) := by
  unfold zbB
  by_cases h1 : zes g.W = true
  · rw [if_pos h1]
    by_cases h2 : zes g.H = true
    · rw [if_pos h2]; simp only [beq_iff_eq]; exact ⟨fun h => ⟨zg2.1 h1, zg2.1 h2, h⟩, fun h => h.2.2⟩
    · rw [if_neg h2]; exact ⟨(fun h => by cases h), fun h => absurd (zg2.2 h.2.1) h2⟩
  · rw [if_neg h1]; exact ⟨(fun h => by cases h), fun h => absurd (zg2.2 h.1) h1⟩
theorem zlT {g : zax} {p : GPos} : zcW g p = true ↔ 0 ≤ p.X ∧ p.X < g.W ∧ 0 ≤ p.Y ∧ p.Y < g.H := by
  unfold zcW
  repeat' split
  all_goals simp <;> omega
theorem zq9 {g : zax} {p : GPos} (h : zeo g p = true) : 0 ≤ IntKind.i64.wrap (IntKind.i64.wrap (p.Y * g.W) + p.X) ∧ IntKind.i64.wrap (IntKind.i64.wrap (p.Y * g.W) + p.X) < g.Wall.length := by
  unfold zeo at h
  split at h
  case isFalse => cases h
  rename_i h1
  obtain ⟨h1, h2, h0⟩ := ziJ.1 h1
  have h := zlT.1 h
  have a1 : p.Y * g.W ≤ (g.H - 1) * g.W := Int.mul_le_mul_of_nonneg_right (by omega) (by omega)
  have a2 : 0 ≤ p.Y * g.W := Int.mul_nonneg (by omega) (by omega)
  have a3 : g.H * g.W ≤ 256 * g.W := Int.mul_le_mul_of_nonneg_right (by omega) (by omega)
  rw [Int.sub_mul] at a1
  rw [Int.mul_comm g.W g.H] at h0
  generalize p.Y * g.W = a at *
  generalize g.H * g.W = b at *
  simp only [IntKind.wrap_i64] at *
  omega


def zom (g : zax) (p : GPos) : Bool :=
  (g.Wall.getD ((IntKind.i64.wrap ((IntKind.i64.wrap (p.Y * g.W)) + p.X)).toNat) default)
theorem zoL (g : zax) (p : GPos) (hin : zeo g p = true) : Ok Tryz.prog 127 [ze8 g, zjx p] [] (B (zom g p)) [] [] := by
 refine Ok.len fun hlen => ?_
 have hl_g_Wall : g.Wall.length ≤ maxLen := hlen _ (by simp [zT, lens, zU])
 unfold maxLen at hl_g_Wall
 have hw9 := zq9 hin
 refine zz Tryz.func127 rfl ?_
 show zO Tryz.prog _ _ ⟨[(0, ze8 g), (1, zjx p)], [], 0, [], 17, 0⟩
 refine zd (zb rfl (zB (o := .box [_, _, _]) (nx' := 1) rfl rfl rfl trivial (zB (o := .box [_, _]) (nx' := 2) rfl rfl rfl trivial (za rfl rfl trivial (zc (ze (zd (zb rfl (za rfl rfl (by decide) (za rfl rfl trivial (za rfl rfl (by decide) ?_)))))))))))
 refine za rfl rfl trivial (za rfl rfl (by decide) (za rfl rfl trivial (zl rfl rfl rfl rfl rfl trivial (za rfl rfl (by decide) (za rfl rfl trivial (zl rfl rfl rfl rfl rfl trivial ?_))))))
 have jk1 : (IntKind.i64.wrap ((IntKind.i64.wrap (p.Y * g.W)) + p.X)).toNat < g.Wall.length := by first | assumption | omega | (simp only [List.length_set, List.length_append]; omega) | (simp only [IntKind.wrap_i64] at *; omega) | (simp; omega) | simp_all
 refine zgr (k := (IntKind.i64.wrap ((IntKind.i64.wrap (p.Y * g.W)) + p.X)).toNat) rfl rfl (Int.toNat_of_nonneg (by first | omega | (simp only [IntKind.wrap_i64]; omega) | (simp only [IntKind.wrap_i64] at *; omega) | (simp; omega))).symm rfl rfl jk1 (zgg jk1) rfl ?_
 refine zaf rfl rfl rfl (zeS (zaz jk1)) rfl (za rfl rfl trivial (zc (ze (zo ?_))))
 have e3 : zom g p = (g.Wall.getD ((IntKind.i64.wrap ((IntKind.i64.wrap (p.Y * g.W)) + p.X)).toNat) default) := by
  unfold zom
  try dsimp only
  all_goals rfl
 rw [e3]
 exact zp rfl ⟨trivial, trivial⟩ (rfl) rfl

def zby (g : zax) (p : GPos) : Bool :=
  if zeo g p = true then (zom g p) else true
theorem zhu (g : zax) (p : GPos) : Ok Tryz.prog 100 [ze8 g, zjx p] [] (B (zby g p)) [] [] := by
 refine Ok.len fun hlen => ?_
 have hl_g_Wall : g.Wall.length ≤ maxLen := hlen _ (by simp [zT, lens, zU])
 unfold maxLen at hl_g_Wall
 refine zz Tryz.func100 rfl ?_
 show zO Tryz.prog _ _ ⟨[(0, ze8 g), (1, zjx p)], [], 0, [], 14, 0⟩
 refine zd (zb rfl (zB (o := .box [_, _, _]) (nx' := 1) rfl rfl rfl trivial (zB (o := .box [_, _]) (nx' := 2) rfl rfl rfl trivial (za rfl rfl trivial (zc (ze (zd (zb rfl (za (v := (.agg [_, _, _])) rfl rfl (Nat.le_of_ble_eq_true rfl) (za (v := (.agg [_, _])) rfl rfl (Nat.le_of_ble_eq_true rfl) (zF rfl rfl rfl rfl (zm4 g p) rfl rfl rfl ?_)))))))))))
 refine za rfl rfl trivial (za rfl rfl trivial ?_)
 refine zK rfl (fun h2 => ?_) (fun h2 => ?_)
 ·have g2 : ¬ (zeo g p = true) := zaw (zcl h2)
  refine zh rfl h2 rfl (zh rfl h2 rfl (zh rfl h2 rfl (zr rfl h2 rfl rfl (za rfl rfl trivial (zc (ze (zo ?_)))))))
  have e3 : zby g p = true := by
   unfold zby
   try dsimp only
   rewrite [if_neg g2]
   all_goals rfl
  rw [e3]
  exact zp rfl ⟨trivial, trivial⟩ (rfl) rfl
 ·have g2 : zeo g p = true := (zcm h2)
  refine zg rfl h2 (za (v := (.agg [_, _, _])) rfl rfl (Nat.le_of_ble_eq_true rfl) (zg rfl h2 (za (v := (.agg [_, _])) rfl rfl (Nat.le_of_ble_eq_true rfl) (zg rfl h2 (zF rfl rfl rfl rfl (zoL g p (by first | assumption | simp_all)) rfl rfl rfl (zt rfl h2 rfl rfl (za rfl rfl trivial (zc (ze (zo ?_))))))))))
  have e5 : zby g p = (zom g p) := by
   unfold zby
   try dsimp only
   rewrite [if_pos g2]
   all_goals rfl
  rw [e5]
  exact zp rfl ⟨trivial, trivial⟩ (rfl) rfl

def z0 (n : Int) (lo : Int) (hi : Int) : Bool :=
  if (n : Int) ≥ lo then (decide ((n : Int) ≤ hi)) else false
theorem zaF (n : Int) (lo : Int) (hi : Int) : Ok Tryz.prog 116 [I n, I lo, I hi] [] (B (z0 n lo hi)) [] [] := by
 refine zz Tryz.func116 rfl ?_
 show zO Tryz.prog _ _ ⟨[(0, I n), (1, I lo), (2, I hi)], [], 0, [], 15, 0⟩
 refine zd (zb rfl (za rfl rfl trivial (zc (ze (zd (zb rfl (za rfl rfl trivial (za rfl rfl trivial (zl rfl rfl rfl rfl rfl trivial (za rfl rfl trivial ?_))))))))))
 refine zK rfl (fun h4 => ?_) (fun h4 => ?_)
 ·have g4 : (n : Int) ≥ lo := of_decide_eq_true h4
  refine zg rfl h4 (za rfl rfl trivial (zg rfl h4 (za rfl rfl trivial (zg rfl h4 (zl rfl rfl rfl rfl rfl trivial (zr rfl h4 rfl rfl (za rfl rfl trivial (zc (ze (zo ?_))))))))))
  have e7 : z0 n lo hi = (decide ((n : Int) ≤ hi)) := by
   unfold z0
   try dsimp only
   rewrite [if_pos g4]
   all_goals rfl
  rw [e7]
  exact zp rfl ⟨trivial, trivial⟩ (rfl) rfl
 ·have g4 : ¬ ((n : Int) ≥ lo) := of_decide_eq_false h4
  refine zh rfl h4 rfl (zh rfl h4 rfl (zh rfl h4 rfl (zt rfl h4 rfl rfl (za rfl rfl trivial (zc (ze (zo ?_)))))))
  have e8 : z0 n lo hi = false := by
   unfold z0
   try dsimp only
   rewrite [if_neg g4]
   all_goals rfl
  rw [e8]
  exact zp rfl ⟨trivial, trivial⟩ (rfl) rfl

def zgv (n : Int) : Bool :=
  (!(z0 n 0 1000000))
theorem zmf (n : Int) : Ok Tryz.prog 134 [I n] [] (B (zgv n)) [] [] := by
 refine zz Tryz.func134 rfl ?_
 show zO Tryz.prog _ _ ⟨[(0, I n)], [], 0, [], 6, 0⟩
 refine zd (zb rfl (za rfl rfl trivial (zc (ze (zd (zb rfl (za rfl rfl trivial (zF rfl rfl rfl rfl (zaF n 0 1000000) rfl rfl rfl (za rfl rfl trivial (za rfl rfl trivial (zc ?_)))))))))))
 refine ze (zo ?_)
 have e3 : zgv n = (!(z0 n 0 1000000)) := by
  unfold zgv
  try dsimp only
  all_goals rfl
 rw [e3]
 exact zp rfl ⟨trivial, trivial⟩ (rfl) rfl

def zbT (l : List Int) : Bool :=
  (!(l.any (fun x_ => zgv x_)))
theorem zeh (l : List Int) (l_f : Bool) : Ok Tryz.prog 115 [.pv (.slc l.length l_f (encI l))] [] (B (zbT l)) [] [] := by
 refine Ok.len fun hlen => ?_
 have hl_l : l.length ≤ maxLen := hlen _ (by simp [zT, lens, zU])
 unfold maxLen at hl_l
 refine zz Tryz.func115 rfl ?_
 show zO Tryz.prog _ _ ⟨[(0, .pv (.slc l.length l_f (encI l)))], [], 0, [], 6, 0⟩
 refine zd (zb rfl (za rfl rfl trivial (zc (ze (zd (zb rfl (za rfl rfl trivial (zF rfl rfl rfl rfl (zo2 l l_f 134 [] (fun x_ => zgv x_) ⟨rfl, rfl, fun _ => rfl, fun _ => rfl, fun x_ => zmf x_⟩) rfl rfl rfl (za rfl rfl trivial (za rfl rfl trivial (zc ?_)))))))))))
 refine ze (zo ?_)
 have e2 : zbT l = (!(l.any (fun x_ => zgv x_))) := by
  unfold zbT
  try dsimp only
  all_goals rfl
 rw [e2]
 exact zp rfl ⟨trivial, trivial⟩ (rfl) rfl

def idA (a : zG) : Int :=
  a.Id
theorem zqn (a : zG) : Ok Tryz.prog 90 [zag a] [] (I (idA a)) [] [] := by
 refine Ok.len fun hlen => ?_
 have hl_a_Effects : a.Effects.length ≤ maxLen := hlen _ (by simp [zT, lens, zU])
 unfold maxLen at hl_a_Effects
 refine zz Tryz.func90 rfl ?_
 show zO Tryz.prog _ _ ⟨[(0, zag a)], [], 0, [], 5, 0⟩
 refine zd (zb rfl (zB (o := .box [_, _, _, _, _, _, _, _]) (nx' := 1) rfl rfl rfl trivial (za rfl rfl trivial (zc (ze (zd (zb rfl (za rfl rfl (by decide) (za rfl rfl trivial (za rfl rfl trivial (zc ?_)))))))))))
 refine ze (zo ?_)
 have e2 : idA a = a.Id := by
  unfold idA
  try dsimp only
  all_goals rfl
 rw [e2]
 exact zp rfl ⟨trivial, trivial⟩ (rfl) rfl

def isA (x_ : zG) (c2 : Int) : Bool :=
  ((idA x_ : Int) == c2)
theorem zrn (x_ : zG) (c2 : Int) : Ok Tryz.prog 152 [zag x_, .pptr [.fn 90] 0, .pptr [i64 c2] 0] [] (B (isA x_ c2)) [] [] := by
 refine Ok.len fun hlen => ?_
 have hl_x__Effects : x_.Effects.length ≤ maxLen := hlen _ (by simp [zT, lens, zU])
 unfold maxLen at hl_x__Effects
 refine zz Tryz.func152 rfl ?_
 show zO Tryz.prog _ _ ⟨[(0, zag x_), (1, .pptr [.fn 90] 0), (2, .pptr [i64 c2] 0)], [], 0, [], 10, 0⟩
 refine zd (zb rfl (zB (o := .box [_, _, _, _, _, _, _, _]) (nx' := 1) rfl rfl rfl trivial (za rfl rfl trivial (zc (ze (zd ?_))))))
 refine zaW rfl (by decide +kernel) rfl ?_
 refine zaf rfl rfl rfl (rfl) rfl (za (v := (.agg [_, _, _, _, _, _, _, _])) rfl rfl (Nat.le_of_ble_eq_true rfl) (zF rfl rfl rfl rfl (zqn x_) rfl rfl rfl (zaf rfl rfl rfl (rfl) rfl (zl rfl rfl rfl rfl rfl trivial (za rfl rfl trivial (zc (ze (zo ?_))))))))
 have e2 : isA x_ c2 = ((idA x_ : Int) == c2) := by
  unfold isA
  try dsimp only
  all_goals rfl
 rw [e2]
 exact zp rfl ⟨trivial, trivial⟩ (rfl) rfl

def zfh (l : List zG) (want : Int) : zG × Bool :=
  if (fidx (fun x_ => isA x_ want) l : Int) < 0 then ((⟨0, 0, 0, 0, 0, 0, false, []⟩ : zG), false) else ((l.getD ((fidx (fun x_ => isA x_ want) l).toNat) default), true)
theorem zp5 (l : List zG) (l_f : Bool) (want : Int) : Ok Tryz.prog 146 [.pv (.slc l.length l_f (l.flatMap zj)), .fnc 90 [], I want] [] (.tup [zag (zfh l want).1, B (zfh l want).2]) [] [] := by
 refine Ok.len fun hlen => ?_
 have hl_l : l.length ≤ maxLen := hlen _ (by simp [zT, lens, zU])
 unfold maxLen at hl_l
 refine zz Tryz.func146 rfl ?_
 show zO Tryz.prog _ _ ⟨[(0, .pv (.slc l.length l_f (l.flatMap zj))), (1, .fnc 90 []), (2, I want)], [], 0, [], 19, 0⟩
 refine zaV (zH.loose (T' := [(0, .pv (.slc l.length l_f (l.flatMap zj))), (1, .pv (.fn 90)), (2, I want)]) (H' := []) ⟨⟨_, rfl, .inl rfl⟩, ⟨_, rfl, .inr rfl⟩, ⟨_, rfl, .inl rfl⟩, trivial⟩ trivial) ?_
 refine zd (zb rfl (zB (o := .box [_]) (nx' := 1) rfl rfl rfl trivial (zB (o := .box [_]) (nx' := 2) rfl rfl rfl trivial (zB (o := .box [_, _, _, _, _, _, _, _]) (nx' := 3) rfl rfl rfl trivial (za rfl rfl trivial (zc (ze (zd (zb rfl (za rfl rfl trivial (za rfl rfl trivial ?_)))))))))))
 refine zaX (Hin := [.box [.pv _], .box [.pv _]]) (H' := [(2, _), (1, _), (0, _)]) (nx' := 3) [0, 1] rfl rfl rfl rfl rfl rfl rfl rfl rfl (by (repeat' apply And.intro) <;> first | trivial | rfl | exact zi (fun _ => rfl) _ | exact zk _ | exact zn _ | exact zm _ | exact Nat.le_of_ble_eq_true rfl | assumption) (zjO l false 152 [.pptr [.fn 90] 0, .pptr [i64 want] 0] (fun x_ => isA x_ want) ⟨rfl, rfl, fun _ => rfl, fun _ => rfl, fun x_ => zrn x_ want⟩) rfl (by decide) rfl rfl trivial rfl rfl rfl rfl ?_
 have p1 := zm0 (fun x_ => isA x_ want) l
 refine za rfl rfl trivial (zc (ze (zd (zd (zb rfl (za rfl rfl trivial (zl rfl rfl rfl rfl rfl trivial (zc (ze ?_)))))))))
 refine zy rfl (fun h3 => ?_) (fun h3 => ?_)
 ·have g3 : (fidx (fun x_ => isA x_ want) l : Int) < 0 := of_decide_eq_true h3
  refine zd (zb rfl (za (v := (.agg [_, _, _, _, _, _, _, _])) rfl rfl (Nat.le_of_ble_eq_true rfl) ?_))
  refine zx (H' := [(2, .box [_, _, _, _, _, _, _, _]), (1, _), (0, _)]) rfl rfl rfl rfl rfl rfl (.inl rfl) rfl ?_
  refine za rfl rfl trivial (zc (ze ?_))
  refine zaV (zH.loose (T' := [(6, .ptr 2 0), (7, B false)]) (H' := [(2, .box [I 0, I 0, I 0, I 0, I 0, I 0, B false, .pv (.slc 0 false [])])]) ⟨⟨_, rfl, .inl rfl⟩, ⟨_, rfl, .inl rfl⟩, trivial⟩ ⟨⟨_, rfl, .inr rfl⟩, trivial⟩) ?_
  refine zo (zI ?_)
  have e4 : zfh l want = ((⟨0, 0, 0, 0, 0, 0, false, []⟩ : zG), false) := by
   unfold zfh
   try dsimp only
   rewrite [if_pos g3]
   all_goals rfl
  rw [e4]
  exact zp rfl ⟨Nat.le_of_ble_eq_true rfl, trivial, trivial⟩ (rfl) rfl
 ·have g3 : ¬ ((fidx (fun x_ => isA x_ want) l : Int) < 0) := of_decide_eq_false h3
  refine zA (ze (zd (zb rfl (za rfl rfl trivial (za rfl rfl trivial ?_)))))
  have jk5 : (fidx (fun x_ => isA x_ want) l).toNat < l.length := by first | assumption | omega | (simp only [List.length_set, List.length_append]; omega) | (simp only [IntKind.wrap_i64] at *; omega) | (simp; omega) | simp_all
  refine zgr (k := (fidx (fun x_ => isA x_ want) l).toNat) rfl rfl (Int.toNat_of_nonneg (by first | omega | (simp only [IntKind.wrap_i64]; omega) | (simp only [IntKind.wrap_i64] at *; omega) | (simp; omega))).symm rfl rfl jk5 (zaj (s := 8) (enc := zj) (fun _ => rfl) (by decide) jk5) rfl ?_
  refine zJ rfl rfl rfl (zap (s := 8) (enc := zj) (fun _ => rfl) jk5) (z2 (s := 8) (enc := zj) (fun _ => rfl) (zaz jk5)) rfl ?_
  refine zx (H' := [(2, .box [_, _, _, _, _, _, _, _]), (1, _), (0, _)]) rfl rfl rfl rfl rfl rfl (.inl rfl) rfl ?_
  refine za rfl rfl trivial (zc (ze (zo ?_)))
  have e6 : zfh l want = ((l.getD ((fidx (fun x_ => isA x_ want) l).toNat) default), true) := by
   unfold zfh
   try dsimp only
   rewrite [if_neg g3]
   all_goals rfl
  rw [e6]
  exact zp rfl ⟨Nat.le_of_ble_eq_true rfl, trivial, trivial⟩ (rfl) rfl

def idU (a : zaB) : Int :=
  a.Id
theorem zqk (a : zaB) : Ok Tryz.prog 94 [zdG a] [] (I (idU a)) [] [] := by
 refine zz Tryz.func94 rfl ?_
 show zO Tryz.prog _ _ ⟨[(0, zdG a)], [], 0, [], 5, 0⟩
 refine zd (zb rfl (zB (o := .box [_, _, _, _, _, _, _]) (nx' := 1) rfl rfl rfl trivial (za rfl rfl trivial (zc (ze (zd (zb rfl (za rfl rfl (by decide) (za rfl rfl trivial (za rfl rfl trivial (zc ?_)))))))))))
 refine ze (zo ?_)
 have e2 : idU a = a.Id := by
  unfold idU
  try dsimp only
  all_goals rfl
 rw [e2]
 exact zp rfl ⟨trivial, trivial⟩ (rfl) rfl

def isU (x_ : zaB) (c2 : Int) : Bool :=
  ((idU x_ : Int) == c2)
theorem zro (x_ : zaB) (c2 : Int) : Ok Tryz.prog 150 [zdG x_, .pptr [.fn 94] 0, .pptr [i64 c2] 0] [] (B (isU x_ c2)) [] [] := by
 refine zz Tryz.func150 rfl ?_
 show zO Tryz.prog _ _ ⟨[(0, zdG x_), (1, .pptr [.fn 94] 0), (2, .pptr [i64 c2] 0)], [], 0, [], 10, 0⟩
 refine zd (zb rfl (zB (o := .box [_, _, _, _, _, _, _]) (nx' := 1) rfl rfl rfl trivial (za rfl rfl trivial (zc (ze (zd ?_))))))
 refine zaW rfl (by decide +kernel) rfl ?_
 refine zaf rfl rfl rfl (rfl) rfl (za (v := (.agg [_, _, _, _, _, _, _])) rfl rfl (Nat.le_of_ble_eq_true rfl) (zF rfl rfl rfl rfl (zqk x_) rfl rfl rfl (zaf rfl rfl rfl (rfl) rfl (zl rfl rfl rfl rfl rfl trivial (za rfl rfl trivial (zc (ze (zo ?_))))))))
 have e2 : isU x_ c2 = ((idU x_ : Int) == c2) := by
  unfold isU
  try dsimp only
  all_goals rfl
 rw [e2]
 exact zp rfl ⟨trivial, trivial⟩ (rfl) rfl

def zh9 (l : List zaB) (want : Int) : zaB × Bool :=
  if (fidx (fun x_ => isU x_ want) l : Int) < 0 then ((⟨0, 0, 0, 0, 0, 0, false⟩ : zaB), false) else ((l.getD ((fidx (fun x_ => isU x_ want) l).toNat) default), true)
theorem zpl (l : List zaB) (l_f : Bool) (want : Int) : Ok Tryz.prog 145 [.pv (.slc l.length l_f (l.flatMap zq)), .fnc 94 [], I want] [] (.tup [zdG (zh9 l want).1, B (zh9 l want).2]) [] [] := by
 refine Ok.len fun hlen => ?_
 have hl_l : l.length ≤ maxLen := hlen _ (by simp [zT, lens, zU])
 unfold maxLen at hl_l
 refine zz Tryz.func145 rfl ?_
 show zO Tryz.prog _ _ ⟨[(0, .pv (.slc l.length l_f (l.flatMap zq))), (1, .fnc 94 []), (2, I want)], [], 0, [], 19, 0⟩
 refine zaV (zH.loose (T' := [(0, .pv (.slc l.length l_f (l.flatMap zq))), (1, .pv (.fn 94)), (2, I want)]) (H' := []) ⟨⟨_, rfl, .inl rfl⟩, ⟨_, rfl, .inr rfl⟩, ⟨_, rfl, .inl rfl⟩, trivial⟩ trivial) ?_
 refine zd (zb rfl (zB (o := .box [_]) (nx' := 1) rfl rfl rfl trivial (zB (o := .box [_]) (nx' := 2) rfl rfl rfl trivial (zB (o := .box [_, _, _, _, _, _, _]) (nx' := 3) rfl rfl rfl trivial (za rfl rfl trivial (zc (ze (zd (zb rfl (za rfl rfl trivial (za rfl rfl trivial ?_)))))))))))
 refine zaX (Hin := [.box [.pv _], .box [.pv _]]) (H' := [(2, _), (1, _), (0, _)]) (nx' := 3) [0, 1] rfl rfl rfl rfl rfl rfl rfl rfl rfl (by (repeat' apply And.intro) <;> first | trivial | rfl | exact zi (fun _ => rfl) _ | exact zk _ | exact zn _ | exact zm _ | exact Nat.le_of_ble_eq_true rfl | assumption) (zod l false 150 [.pptr [.fn 94] 0, .pptr [i64 want] 0] (fun x_ => isU x_ want) ⟨rfl, rfl, fun _ => rfl, fun _ => rfl, fun x_ => zro x_ want⟩) rfl (by decide) rfl rfl trivial rfl rfl rfl rfl ?_
 have p1 := zm0 (fun x_ => isU x_ want) l
 refine za rfl rfl trivial (zc (ze (zd (zd (zb rfl (za rfl rfl trivial (zl rfl rfl rfl rfl rfl trivial (zc (ze ?_)))))))))
 refine zy rfl (fun h3 => ?_) (fun h3 => ?_)
 ·have g3 : (fidx (fun x_ => isU x_ want) l : Int) < 0 := of_decide_eq_true h3
  refine zd (zb rfl (za (v := (.agg [_, _, _, _, _, _, _])) rfl rfl (Nat.le_of_ble_eq_true rfl) ?_))
  refine zx (H' := [(2, .box [_, _, _, _, _, _, _]), (1, _), (0, _)]) rfl rfl rfl rfl rfl rfl (.inl rfl) rfl ?_
  refine za rfl rfl trivial (zc (ze (zo (zI ?_))))
  have e4 : zh9 l want = ((⟨0, 0, 0, 0, 0, 0, false⟩ : zaB), false) := by
   unfold zh9
   try dsimp only
   rewrite [if_pos g3]
   all_goals rfl
  rw [e4]
  exact zp rfl ⟨Nat.le_of_ble_eq_true rfl, trivial, trivial⟩ (rfl) rfl
 ·have g3 : ¬ ((fidx (fun x_ => isU x_ want) l : Int) < 0) := of_decide_eq_false h3
  refine zA (ze (zd (zb rfl (za rfl rfl trivial (za rfl rfl trivial ?_)))))
  have jk5 : (fidx (fun x_ => isU x_ want) l).toNat < l.length := by first | assumption | omega | (simp only [List.length_set, List.length_append]; omega) | (simp only [IntKind.wrap_i64] at *; omega) | (simp; omega) | simp_all
  refine zgr (k := (fidx (fun x_ => isU x_ want) l).toNat) rfl rfl (Int.toNat_of_nonneg (by first | omega | (simp only [IntKind.wrap_i64]; omega) | (simp only [IntKind.wrap_i64] at *; omega) | (simp; omega))).symm rfl rfl jk5 (zaj (s := 7) (enc := zq) (fun _ => rfl) (by decide) jk5) rfl ?_
  refine zJ rfl rfl rfl (zap (s := 7) (enc := zq) (fun _ => rfl) jk5) (z2 (s := 7) (enc := zq) (fun _ => rfl) (zaz jk5)) rfl ?_
  refine zx (H' := [(2, .box [_, _, _, _, _, _, _]), (1, _), (0, _)]) rfl rfl rfl rfl rfl rfl (.inl rfl) rfl ?_
  refine za rfl rfl trivial (zc (ze (zo ?_)))
  have e6 : zh9 l want = ((l.getD ((fidx (fun x_ => isU x_ want) l).toNat) default), true) := by
   unfold zh9
   try dsimp only
   rewrite [if_neg g3]
   all_goals rfl
  rw [e6]
  exact zp rfl ⟨Nat.le_of_ble_eq_true rfl, trivial, trivial⟩ (rfl) rfl

def idF (f : GFoe) : Int :=
  f.Id
theorem zrk (f : GFoe) : Ok Tryz.prog 97 [zdO f] [] (I (idF f)) [] [] := by
 refine Ok.len fun hlen => ?_
 have hl_f_Script : f.Script.length ≤ maxLen := hlen _ (by simp [zT, lens, zU])
 have hl_f_Hoard : f.Hoard.length ≤ maxLen := hlen _ (by simp [zT, lens, zU])
 unfold maxLen at hl_f_Script hl_f_Hoard
 refine zz Tryz.func97 rfl ?_
 show zO Tryz.prog _ _ ⟨[(0, zdO f)], [], 0, [], 5, 0⟩
 refine zd (zb rfl (zB (o := .box [_, _, _, _, _, _, _, _]) (nx' := 1) rfl rfl rfl trivial (za rfl rfl trivial (zc (ze (zd (zb rfl (za rfl rfl (by decide) (za rfl rfl trivial (za rfl rfl trivial (zc ?_)))))))))))
 refine ze (zo ?_)
 have e2 : idF f = f.Id := by
  unfold idF
  try dsimp only
  all_goals rfl
 rw [e2]
 exact zp rfl ⟨trivial, trivial⟩ (rfl) rfl

structure zu where
  (Abilities : List zG)
  (Auras : List zaB)
  (Foes : List GFoe)
  (Map : zax)
  (Door : GPos)
  (Lair : GPos)
  deriving DecidableEq, Inhabited
def zkj (x : zu) : List PV := [.slc x.Abilities.length false (x.Abilities.flatMap zj), .slc x.Auras.length false (x.Auras.flatMap zq), .slc x.Foes.length false (x.Foes.flatMap zw), i64 x.Map.W, i64 x.Map.H, .slc x.Map.Wall.length false (encB x.Map.Wall), i64 x.Door.X, i64 x.Door.Y, i64 x.Lair.X, i64 x.Lair.Y]
abbrev z1 (x : zu) : AV := .agg [.pv (.slc x.Abilities.length false (x.Abilities.flatMap zj)), .pv (.slc x.Auras.length false (x.Auras.flatMap zq)), .pv (.slc x.Foes.length false (x.Foes.flatMap zw)), I x.Map.W, I x.Map.H, .pv (.slc x.Map.Wall.length false (encB x.Map.Wall)), I x.Door.X, I x.Door.Y, I x.Lair.X, I x.Lair.Y]
def zcZ (x : zu) : Prop := ((∀ y ∈ x.Abilities, zdV y) ∧ x.Abilities.length ≤ 140737488355328) ∧ ((∀ y ∈ x.Auras, zhA y) ∧ x.Auras.length ≤ 140737488355328) ∧ ((∀ y ∈ x.Foes, zjU y) ∧ x.Foes.length ≤ 140737488355328) ∧ (zko x.Map) ∧ (zk6 x.Door) ∧ (zk6 x.Lair)

structure Few9 (c : zu) : Prop where
  eff : ∀ a ∈ c.Abilities, a.Effects.length ≤ 16777216
  script : ∀ f ∈ c.Foes, f.Script.length ≤ 16777216
  hoard : ∀ f ∈ c.Foes, f.Hoard.length ≤ 16777216
  ab : c.Abilities.length ≤ 16777216
  au : c.Auras.length ≤ 16777216
  fo : c.Foes.length ≤ 16777216
  wall : c.Map.Wall.length ≤ 16777216

theorem znz (l : List zG) (w : Int) : (zfh l w).1 ∈ l ∨ (zfh l w).1.Effects = [] := by
  unfold zfh
  rcases zgk (fun x_ => isA x_ w) l with ⟨h, _⟩ | ⟨k, x, h, h2, _⟩
  · rw [h, if_pos (by omega)]; exact .inr rfl
  · rw [h, if_neg (by omega)]
    left
    have : l.getD ((k : Int).toNat) default = x := by rw [Int.toNat_natCast, List.getD_eq_getElem?_getD, h2]; rfl
    show l.getD ((k : Int).toNat) default ∈ l
    rw [this]; exact List.mem_of_getElem? h2
theorem zq8 {c : zu} (h : Few9 c) {w : Int} : (zfh c.Abilities w).1.Effects.length ≤ 16777216 := by
  rcases znz c.Abilities w with h1 | h1
  · exact h.eff _ h1
  · rw [h1]; decide

def zm3 (a : zG) : zG :=
  a
theorem zoE (a : zG) (hE : a.Effects.length ≤ 16777216) : Ok Tryz.prog 147 [zag a] [] (zag (zm3 a)) [] [] := by
 refine Ok.len fun hlen => ?_
 have hl_a_Effects : a.Effects.length ≤ maxLen := hlen _ (by simp [zT, lens, zU])
 unfold maxLen at hl_a_Effects
 refine zz Tryz.func147 rfl ?_
 show zO Tryz.prog _ _ ⟨[(0, zag a)], [], 0, [], 8, 0⟩
 refine zd (zb rfl (zB (o := .box [_, _, _, _, _, _, _, _]) (nx' := 1) rfl rfl rfl trivial (zB (o := .box [_, _, _, _, _, _, _, _]) (nx' := 2) rfl rfl rfl trivial (zc (ze (zd (zb rfl (za rfl rfl (by decide) (za rfl rfl trivial ?_)))))))))
 refine zcj (out' := .ref 2 _ _ _) (H' := [(2, .row _ _ _), (1, _), (0, _)]) (nx' := 3) rfl rfl rfl rfl rfl rfl rfl (by (repeat' apply And.intro) <;> first | trivial | rfl | exact zi (fun _ => rfl) _ | exact zk _ | exact zn _ | exact zm _ | exact Nat.le_of_ble_eq_true rfl | assumption) (ziQ a.Effects false (by first | assumption | omega | (simp; omega) | simp_all)) rfl rfl rfl rfl ?_
 refine za rfl rfl (by decide) ?_
 refine zx (H' := [(2, _), (1, _), (0, .box [_, _, _, _, _, _, _, _])]) rfl rfl rfl rfl rfl rfl (.inl rfl) rfl ?_
 refine zc (ze (zd (zb rfl (za (v := (.agg [_, _, _, _, _, _, _, _])) rfl rfl (Nat.le_of_ble_eq_true rfl) ?_))))
 refine zx (H' := [(2, _), (1, .box [_, _, _, _, _, _, _, _]), (0, _)]) rfl rfl rfl rfl rfl rfl (.inl rfl) rfl ?_
 refine zc (ze ?_)
 refine zaV (zH.freezeJ (T' := [(2, .ptr 1 0)]) (H' := [(1, .box [I a.Id, I a.Cast, I a.Cool, I a.Charges, I a.Range, I a.Cost, B a.Sight, .pv (.slc a.Effects.length false (a.Effects.flatMap zD))])]) [2] (by decide) ⟨⟨_, _, rfl, rfl, (by (repeat' apply And.intro) <;> first | trivial | rfl | exact zi (s := 3) (enc := zD) (fun _ => rfl) _ | exact zi (fun _ => rfl) _ | exact zk _ | exact zn _ | exact zm _ | exact Nat.le_of_ble_eq_true rfl | assumption)⟩, trivial⟩ ⟨⟨rfl, _, _, rfl, rfl, (by (repeat' apply And.intro) <;> first | trivial | rfl | exact zi (s := 3) (enc := zD) (fun _ => rfl) _ | exact zi (fun _ => rfl) _ | exact zk _ | exact zn _ | exact zm _ | exact Nat.le_of_ble_eq_true rfl | assumption)⟩, trivial⟩) ?_
 refine zo ?_
 have e1 : zm3 a = a := by
  unfold zm3
  try dsimp only
  all_goals rfl
 rw [e1]
 exact zp rfl ⟨Nat.le_of_ble_eq_true rfl, trivial⟩ (rfl) rfl

def fewB (c : zu) : Bool := (c.Abilities.all fun a => decide (a.Effects.length ≤ 16777216)) && (c.Foes.all fun f => decide (f.Script.length ≤ 16777216) && decide (f.Hoard.length ≤ 16777216)) && decide (c.Abilities.length ≤ 16777216) && decide (c.Auras.length ≤ 16777216) && decide (c.Foes.length ≤ 16777216) && decide (c.Map.Wall.length ≤ 16777216)
theorem zcO {c : zu} (h : fewB c = true) : Few9 c := by
  simp only [fewB, Bool.and_eq_true, List.all_eq_true, decide_eq_true_eq] at h
  obtain ⟨⟨⟨⟨⟨h1, h2⟩, h3⟩, h4⟩, h5⟩, h6⟩ := h
  exact ⟨h1, fun f hf => (h2 f hf).1, fun f hf => (h2 f hf).2, h3, h4, h5, h6⟩
theorem zeH {c : zu} {n : Nat} (h : Few9 c) : Few9 ⟨c.Abilities, c.Auras, c.Foes.take n, c.Map, c.Door, c.Lair⟩ := ⟨h.eff, fun f hf => h.script f (List.mem_of_mem_take hf), fun f hf => h.hoard f (List.mem_of_mem_take hf), h.ab, h.au, by have := h.fo; simp only [List.length_take]; omega, h.wall⟩

def getA (c : zu) (id : Int) : zG × Bool :=
  ((zm3 ((zfh c.Abilities id).1)), (zfh c.Abilities id).2)
theorem zqu (c : zu) (id : Int) (hF : Few9 c) : Ok Tryz.prog 138 [z1 c, I id] [] (.tup [zag (getA c id).1, B (getA c id).2]) [] [] := by
 refine Ok.len fun hlen => ?_
 have hl_c_Abilities : c.Abilities.length ≤ maxLen := hlen _ (by simp [zT, lens, zU])
 have hl_c_Auras : c.Auras.length ≤ maxLen := hlen _ (by simp [zT, lens, zU])
 have hl_c_Foes : c.Foes.length ≤ maxLen := hlen _ (by simp [zT, lens, zU])
 have hl_c_Map_Wall : c.Map.Wall.length ≤ maxLen := hlen _ (by simp [zT, lens, zU])
 unfold maxLen at hl_c_Abilities hl_c_Auras hl_c_Foes hl_c_Map_Wall
 refine zz Tryz.func138 rfl ?_
 show zO Tryz.prog _ _ ⟨[(0, z1 c), (1, I id)], [], 0, [], 18, 0⟩
 refine zd (zb rfl (zB (o := .box [_, _, _, _, _, _, _, _, _, _]) (nx' := 1) rfl rfl rfl trivial (zB (o := .box [_, _, _, _, _, _, _, _]) (nx' := 2) rfl rfl rfl trivial (za rfl rfl trivial (zc (ze (zd (zb rfl (za rfl rfl (by decide) (za rfl rfl trivial (za rfl rfl trivial ?_)))))))))))
 refine zF rfl rfl rfl rfl (zp5 c.Abilities false id) rfl rfl rfl (za rfl rfl trivial (za rfl rfl trivial (za rfl rfl trivial (zB (o := .box [_, _, _, _, _, _, _, _]) (nx' := 3) rfl rfl rfl trivial ?_))))
 refine zx (H' := [(2, .box [_, _, _, _, _, _, _, _]), (1, _), (0, _)]) rfl rfl rfl rfl rfl rfl (.inl rfl) rfl ?_
 refine za rfl rfl trivial (zc (ze (zd (zb rfl (za (v := (.agg [_, _, _, _, _, _, _, _])) rfl rfl (Nat.le_of_ble_eq_true rfl) (zF rfl rfl rfl rfl (zoE ((zfh c.Abilities id).1) (by first | assumption | exact zq8 (by assumption) | omega | simp_all)) rfl rfl rfl (za rfl rfl trivial ?_)))))))
 refine zx (H' := [(2, _), (1, .box [_, _, _, _, _, _, _, _]), (0, _)]) rfl rfl rfl rfl rfl rfl (.inl rfl) rfl ?_
 refine za rfl rfl trivial (zc (ze (zo ?_)))
 have e3 : getA c id = ((zm3 ((zfh c.Abilities id).1)), (zfh c.Abilities id).2) := by
  unfold getA
  try dsimp only
  all_goals rfl
 rw [e3]
 exact zp rfl ⟨Nat.le_of_ble_eq_true rfl, trivial, trivial⟩ (rfl) rfl

def getU (c : zu) (id : Int) : zaB × Bool :=
  (((zh9 c.Auras id).1), (zh9 c.Auras id).2)
theorem zqZ (c : zu) (id : Int) : Ok Tryz.prog 136 [z1 c, I id] [] (.tup [zdG (getU c id).1, B (getU c id).2]) [] [] := by
 refine Ok.len fun hlen => ?_
 have hl_c_Abilities : c.Abilities.length ≤ maxLen := hlen _ (by simp [zT, lens, zU])
 have hl_c_Auras : c.Auras.length ≤ maxLen := hlen _ (by simp [zT, lens, zU])
 have hl_c_Foes : c.Foes.length ≤ maxLen := hlen _ (by simp [zT, lens, zU])
 have hl_c_Map_Wall : c.Map.Wall.length ≤ maxLen := hlen _ (by simp [zT, lens, zU])
 unfold maxLen at hl_c_Abilities hl_c_Auras hl_c_Foes hl_c_Map_Wall
 refine zz Tryz.func136 rfl ?_
 show zO Tryz.prog _ _ ⟨[(0, z1 c), (1, I id)], [], 0, [], 12, 0⟩
 refine zd (zb rfl (zB (o := .box [_, _, _, _, _, _, _, _, _, _]) (nx' := 1) rfl rfl rfl trivial (zB (o := .box [_, _, _, _, _, _, _]) (nx' := 2) rfl rfl rfl trivial (za rfl rfl trivial (zc (ze (zd (zb rfl (za rfl rfl (by decide) (za rfl rfl trivial (za rfl rfl trivial ?_)))))))))))
 refine zF rfl rfl rfl rfl (zpl c.Auras false id) rfl rfl rfl (za rfl rfl trivial (za rfl rfl trivial ?_))
 refine zx (H' := [(1, .box [_, _, _, _, _, _, _]), (0, _)]) rfl rfl rfl rfl rfl rfl (.inl rfl) rfl ?_
 refine za rfl rfl trivial (zc (ze (zo ?_)))
 have e3 : getU c id = (((zh9 c.Auras id).1), (zh9 c.Auras id).2) := by
  unfold getU
  try dsimp only
  all_goals rfl
 rw [e3]
 exact zp rfl ⟨Nat.le_of_ble_eq_true rfl, trivial, trivial⟩ (rfl) rfl

def zc1 (c : zu) (e : zan) : Bool :=
  if z0 e.Kind 1 7 = true then (if zbT ([e.Amount]) = true then (if (e.Kind : Int) = 4 then (if (getU c e.Aura).2 = true then ((e.Amount : Int) == 0) else false) else ((e.Aura : Int) == 0)) else false) else false
theorem zmq (c : zu) (e : zan) : Ok Tryz.prog 119 [z1 c, zdo e] [] (B (zc1 c e)) [] [] := by
 refine Ok.len fun hlen => ?_
 have hl_c_Abilities : c.Abilities.length ≤ maxLen := hlen _ (by simp [zT, lens, zU])
 have hl_c_Auras : c.Auras.length ≤ maxLen := hlen _ (by simp [zT, lens, zU])
 have hl_c_Foes : c.Foes.length ≤ maxLen := hlen _ (by simp [zT, lens, zU])
 have hl_c_Map_Wall : c.Map.Wall.length ≤ maxLen := hlen _ (by simp [zT, lens, zU])
 unfold maxLen at hl_c_Abilities hl_c_Auras hl_c_Foes hl_c_Map_Wall
 refine zz Tryz.func119 rfl ?_
 show zO Tryz.prog _ _ ⟨[(0, z1 c), (1, zdo e)], [], 0, [], 37, 0⟩
 refine zd (zb rfl (zB (o := .box [_, _, _, _, _, _, _, _, _, _]) (nx' := 1) rfl rfl rfl trivial (zB (o := .box [_, _, _]) (nx' := 2) rfl rfl rfl trivial (za rfl rfl trivial (zc (ze (zd (zd (zb rfl (za rfl rfl (by decide) (za rfl rfl trivial ?_)))))))))))
 refine zF rfl rfl rfl rfl (zaF e.Kind 1 7) rfl rfl rfl (za rfl rfl trivial (za rfl rfl trivial ?_))
 refine zK rfl (fun h2 => ?_) (fun h2 => ?_)
 ·have g2 : ¬ (z0 e.Kind 1 7 = true) := zaw (zcl h2)
  refine zh rfl h2 rfl (zh rfl h2 rfl (zh rfl h2 rfl (zh rfl h2 rfl (zh rfl h2 rfl (zr rfl h2 rfl rfl (zc (ze (zP rfl (zd (zb rfl (za rfl rfl trivial ?_)))))))))))
  refine zc (ze (zo (zI ?_)))
  have e3 : zc1 c e = false := by
   unfold zc1
   try dsimp only
   rewrite [if_neg g2]
   all_goals rfl
  rw [e3]
  exact zp rfl ⟨trivial, trivial⟩ (rfl) rfl
 ·have g2 : z0 e.Kind 1 7 = true := (zcm h2)
  refine zg rfl h2 (za rfl rfl (by decide) (zg rfl h2 (za rfl rfl trivial (zg rfl h2 (zB (o := .row _ _ [_]) (nx' := 3) rfl rfl rfl (by decide) (zg rfl h2 ?_))))))
  refine zaX (Hin := [.row _ _ _]) (H' := [(2, _), (1, _), (0, _)]) (nx' := 3) [2] rfl rfl rfl rfl rfl rfl rfl rfl rfl (by (repeat' apply And.intro) <;> first | trivial | rfl | exact zi (fun _ => rfl) _ | exact zk _ | exact zn _ | exact zm _ | exact Nat.le_of_ble_eq_true rfl | assumption) (zeh ([e.Amount]) false) rfl (by decide) rfl rfl trivial rfl rfl rfl rfl ?_
  refine zg rfl h2 (za rfl rfl trivial (zt rfl h2 rfl rfl (zc (ze ?_))))
  refine zy rfl (fun h5 => ?_) (fun h5 => ?_)
  ·have g5 : ¬ (zbT ([e.Amount]) = true) := zaw (zcl h5)
   refine zd (zb rfl (za rfl rfl trivial (zc (ze (zo (zI ?_))))))
   have e6 : zc1 c e = false := by
    unfold zc1
    try dsimp only
    rewrite [if_pos g2, if_neg g5]
    all_goals rfl
   rw [e6]
   exact zp rfl ⟨trivial, trivial⟩ (rfl) rfl
  ·have g5 : zbT ([e.Amount]) = true := (zcm h5)
   refine zA (ze (zd (zd (zb rfl (za rfl rfl (by decide) (za rfl rfl trivial (zl rfl rfl rfl rfl rfl trivial (zc (ze ?_)))))))))
   refine zy rfl (fun h7 => ?_) (fun h7 => ?_)
   ·have g7 : ¬ ((e.Kind : Int) = 4) := zcs h7
    refine zd (zb rfl (za rfl rfl (by decide) (za rfl rfl trivial (zl rfl rfl rfl rfl rfl trivial (za rfl rfl trivial (zc (ze (zo (zI ?_)))))))))
    have e9 : zc1 c e = ((e.Aura : Int) == 0) := by
     unfold zc1
     try dsimp only
     rewrite [if_pos g2, if_pos g5, if_neg g7]
     all_goals rfl
    rw [e9]
    exact zp rfl ⟨trivial, trivial⟩ (rfl) rfl
   ·have g7 : (e.Kind : Int) = 4 := zcu h7
    refine zA (ze (zd (zb rfl (za (v := (.agg [_, _, _, _, _, _, _, _, _, _])) rfl rfl (Nat.le_of_ble_eq_true rfl) (za rfl rfl (by decide) (za rfl rfl trivial (zF rfl rfl rfl rfl (zqZ c e.Aura) rfl rfl rfl (za rfl rfl trivial (za rfl rfl trivial (za rfl rfl trivial (zB (o := .box [_, _, _, _, _, _, _]) (nx' := 4) rfl rfl rfl trivial ?_)))))))))))
    refine zx (H' := [(3, .box [_, _, _, _, _, _, _]), (2, _), (1, _), (0, _)]) rfl rfl rfl rfl rfl rfl (.inl rfl) rfl ?_
    refine za rfl rfl trivial (zc (ze (zd (zb rfl (za rfl rfl trivial (za rfl rfl trivial ?_))))))
    refine zK rfl (fun h11 => ?_) (fun h11 => ?_)
    ·have g11 : (getU c e.Aura).2 = true := h11
     refine zg rfl h11 (za rfl rfl (by decide) (zg rfl h11 (za rfl rfl trivial (zg rfl h11 (zl rfl rfl rfl rfl rfl trivial (zr rfl h11 rfl rfl (za rfl rfl trivial (zc (ze (zo ?_))))))))))
     have e13 : zc1 c e = ((e.Amount : Int) == 0) := by
      unfold zc1
      try dsimp only
      rewrite [if_pos g2, if_pos g5, if_pos g7, if_pos g11]
      all_goals rfl
     rw [e13]
     exact zp rfl ⟨trivial, trivial⟩ (rfl) rfl
    ·have g11 : ¬ ((getU c e.Aura).2 = true) := zaw h11
     refine zh rfl h11 rfl (zh rfl h11 rfl (zh rfl h11 rfl (zt rfl h11 rfl rfl (za rfl rfl trivial (zc (ze (zo ?_)))))))
     have e14 : zc1 c e = false := by
      unfold zc1
      try dsimp only
      rewrite [if_pos g2, if_pos g5, if_pos g7, if_neg g11]
      all_goals rfl
     rw [e14]
     exact zp rfl ⟨trivial, trivial⟩ (rfl) rfl

def badE (e : zan) (c1 : zu) : Bool :=
  (!(zc1 c1 e))
theorem zqA (e : zan) (c1 : zu) : Ok Tryz.prog 118 [zdo e, .pptr [.slc c1.Abilities.length false (c1.Abilities.flatMap zj), .slc c1.Auras.length false (c1.Auras.flatMap zq), .slc c1.Foes.length false (c1.Foes.flatMap zw), i64 c1.Map.W, i64 c1.Map.H, .slc c1.Map.Wall.length false (encB c1.Map.Wall), i64 c1.Door.X, i64 c1.Door.Y, i64 c1.Lair.X, i64 c1.Lair.Y] 0] [] (B (badE e c1)) [] [] := by
 refine zz Tryz.func118 rfl ?_
 show zO Tryz.prog _ _ ⟨[(0, zdo e), (1, .pptr [.slc c1.Abilities.length false (c1.Abilities.flatMap zj), .slc c1.Auras.length false (c1.Auras.flatMap zq), .slc c1.Foes.length false (c1.Foes.flatMap zw), i64 c1.Map.W, i64 c1.Map.H, .slc c1.Map.Wall.length false (encB c1.Map.Wall), i64 c1.Door.X, i64 c1.Door.Y, i64 c1.Lair.X, i64 c1.Lair.Y] 0)], [], 0, [], 8, 0⟩
 refine zd (zb rfl (zB (o := .box [_, _, _]) (nx' := 1) rfl rfl rfl trivial (za rfl rfl trivial (zc (ze (zd (zb rfl (zJ rfl rfl rfl (Nat.le_of_ble_eq_true rfl) (rfl) rfl (za (v := (.agg [_, _, _])) rfl rfl (Nat.le_of_ble_eq_true rfl) (zF rfl rfl rfl rfl (zmq c1 e) rfl rfl rfl (za rfl rfl trivial ?_)))))))))))
 refine za rfl rfl trivial (zc (ze (zo ?_)))
 have e2 : badE e c1 = (!(zc1 c1 e)) := by
  unfold badE
  try dsimp only
  all_goals rfl
 rw [e2]
 exact zp rfl ⟨trivial, trivial⟩ (rfl) rfl

def zcy (c : zu) (a : zG) : Bool :=
  if zbT ([a.Cast, a.Cool, a.Range, a.Cost]) = true then (if z0 a.Charges 1 100 = true then (if z0 a.Effects.length 1 16 = true then (!(a.Effects.any (fun x_ => badE x_ c))) else false) else false) else false
theorem zkb (c : zu) (a : zG) : Ok Tryz.prog 92 [z1 c, zag a] [] (B (zcy c a)) [] [] := by
 refine Ok.len fun hlen => ?_
 have hl_c_Abilities : c.Abilities.length ≤ maxLen := hlen _ (by simp [zT, lens, zU])
 have hl_c_Auras : c.Auras.length ≤ maxLen := hlen _ (by simp [zT, lens, zU])
 have hl_c_Foes : c.Foes.length ≤ maxLen := hlen _ (by simp [zT, lens, zU])
 have hl_c_Map_Wall : c.Map.Wall.length ≤ maxLen := hlen _ (by simp [zT, lens, zU])
 have hl_a_Effects : a.Effects.length ≤ maxLen := hlen _ (by simp [zT, lens, zU])
 unfold maxLen at hl_c_Abilities hl_c_Auras hl_c_Foes hl_c_Map_Wall hl_a_Effects
 refine zz Tryz.func92 rfl ?_
 show zO Tryz.prog _ _ ⟨[(0, z1 c), (1, zag a)], [], 0, [], 33, 0⟩
 refine zd (zb rfl (zB (o := .box [_, _, _, _, _, _, _, _, _, _]) (nx' := 1) rfl rfl rfl trivial (zB (o := .box [_, _, _, _, _, _, _, _]) (nx' := 2) rfl rfl rfl trivial (za rfl rfl trivial (zc (ze (zd (zb rfl (za rfl rfl (by decide) (za rfl rfl trivial (za rfl rfl (by decide) ?_)))))))))))
 refine za rfl rfl trivial (za rfl rfl (by decide) (za rfl rfl trivial (za rfl rfl (by decide) (za rfl rfl trivial (zB (o := .row _ _ [_, _, _, _]) (nx' := 3) rfl rfl rfl (by decide) ?_)))))
 refine zaX (Hin := [.row _ _ _]) (H' := [(2, _), (1, _), (0, _)]) (nx' := 3) [2] rfl rfl rfl rfl rfl rfl rfl rfl rfl (by (repeat' apply And.intro) <;> first | trivial | rfl | exact zi (fun _ => rfl) _ | exact zk _ | exact zn _ | exact zm _ | exact Nat.le_of_ble_eq_true rfl | assumption) (zeh ([a.Cast, a.Cool, a.Range, a.Cost]) false) rfl (by decide) rfl rfl trivial rfl rfl rfl rfl ?_
 refine za rfl rfl trivial ?_
 refine zK rfl (fun h2 => ?_) (fun h2 => ?_)
 ·have g2 : zbT ([a.Cast, a.Cool, a.Range, a.Cost]) = true := h2
  refine zg rfl h2 (za rfl rfl (by decide) (zg rfl h2 (za rfl rfl trivial (zg rfl h2 (zF rfl rfl rfl rfl (zaF a.Charges 1 100) rfl rfl rfl (zr rfl h2 rfl rfl (za rfl rfl trivial ?_)))))))
  refine zK rfl (fun h4 => ?_) (fun h4 => ?_)
  ·have g4 : z0 a.Charges 1 100 = true := h4
   refine zg rfl h4 (za rfl rfl (by decide) (zg rfl h4 (za rfl rfl trivial (zg rfl h4 (za rfl rfl trivial (zg rfl h4 (zF rfl rfl rfl rfl (zaF a.Effects.length 1 16) rfl rfl rfl (zr rfl h4 rfl rfl (za rfl rfl trivial ?_)))))))))
   refine zK rfl (fun h6 => ?_) (fun h6 => ?_)
   ·have g6 : z0 a.Effects.length 1 16 = true := h6
    refine zg rfl h6 (za rfl rfl (by decide) (zg rfl h6 (za rfl rfl trivial (zg rfl h6 (za rfl rfl trivial (zg rfl h6 ?_))))))
    refine zaX (Hin := [.box [.pv _, .pv _, .pv _, .pv _, .pv _, .pv _, .pv _, .pv _, .pv _, .pv _]]) (H' := [(2, _), (1, _), (0, _)]) (nx' := 3) [0] rfl rfl rfl rfl rfl rfl rfl rfl rfl (by (repeat' apply And.intro) <;> first | trivial | rfl | exact zi (fun _ => rfl) _ | exact zk _ | exact zn _ | exact zm _ | exact Nat.le_of_ble_eq_true rfl | assumption) (zjr a.Effects false 118 [.pptr [(.slc c.Abilities.length false (c.Abilities.flatMap zj)), (.slc c.Auras.length false (c.Auras.flatMap zq)), (.slc c.Foes.length false (c.Foes.flatMap zw)), i64 c.Map.W, i64 c.Map.H, (.slc c.Map.Wall.length false (encB c.Map.Wall)), i64 c.Door.X, i64 c.Door.Y, i64 c.Lair.X, i64 c.Lair.Y] 0] (fun x_ => badE x_ c) ⟨rfl, rfl, fun _ => rfl, fun _ => rfl, fun x_ => zqA x_ c⟩) rfl (by decide) rfl rfl trivial rfl rfl rfl rfl ?_
    refine zg rfl h6 (za rfl rfl trivial (zr rfl h6 rfl rfl (za rfl rfl trivial (zc (ze (zo ?_))))))
    have e8 : zcy c a = (!(a.Effects.any (fun x_ => badE x_ c))) := by
     unfold zcy
     try dsimp only
     rewrite [if_pos g2, if_pos g4, if_pos g6]
     all_goals rfl
    rw [e8]
    exact zp rfl ⟨trivial, trivial⟩ (rfl) rfl
   ·have g6 : ¬ (z0 a.Effects.length 1 16 = true) := zaw h6
    refine zh rfl h6 rfl (zh rfl h6 rfl (zh rfl h6 rfl (zh rfl h6 rfl (zh rfl h6 rfl (zt rfl h6 rfl rfl (za rfl rfl trivial (zc (ze (zo ?_)))))))))
    have e9 : zcy c a = false := by
     unfold zcy
     try dsimp only
     rewrite [if_pos g2, if_pos g4, if_neg g6]
     all_goals rfl
    rw [e9]
    exact zp rfl ⟨trivial, trivial⟩ (rfl) rfl
  ·have g4 : ¬ (z0 a.Charges 1 100 = true) := zaw h4
   refine zh rfl h4 rfl (zh rfl h4 rfl (zh rfl h4 rfl (zh rfl h4 rfl (zt rfl h4 rfl rfl (za rfl rfl trivial (zf rfl rfl (zf rfl rfl (zf rfl rfl (zf rfl rfl (zf rfl rfl (za rfl rfl trivial ?_)))))))))))
   refine za rfl rfl trivial (zc (ze (zo ?_)))
   have e10 : zcy c a = false := by
    unfold zcy
    try dsimp only
    rewrite [if_pos g2, if_neg g4]
    all_goals rfl
   rw [e10]
   exact zp rfl ⟨trivial, trivial⟩ (rfl) rfl
 ·have g2 : ¬ (zbT ([a.Cast, a.Cool, a.Range, a.Cost]) = true) := zaw h2
  refine zh rfl h2 rfl (zh rfl h2 rfl (zh rfl h2 rfl (zt rfl h2 rfl rfl (za rfl rfl trivial (zf rfl rfl (zf rfl rfl (zf rfl rfl (zf rfl rfl (za rfl rfl trivial (za rfl rfl trivial (zf rfl rfl ?_)))))))))))
  refine zf rfl rfl (zf rfl rfl (zf rfl rfl (zf rfl rfl (za rfl rfl trivial (za rfl rfl trivial (zc (ze (zo ?_))))))))
  have e11 : zcy c a = false := by
   unfold zcy
   try dsimp only
   rewrite [if_neg g2]
   all_goals rfl
  rw [e11]
  exact zp rfl ⟨trivial, trivial⟩ (rfl) rfl

def zdB (a : zaB) : Bool :=
  if (a.Kind : Int) = 1 then ((a.Kind : Int) == 1) else ((a.Kind : Int) == 2)
def zdD (a : zaB) : Bool :=
  if (a.Kind : Int) = 3 then ((a.Kind : Int) == 3) else ((a.Kind : Int) == 4)
def zdu (a : zaB) : Bool :=
  if (a.Kind : Int) = 5 then ((a.Kind : Int) == 5) else ((a.Kind : Int) == 6)
def zcQ (a : zaB) : Sum Bool (Int × Int × Bool) :=
  (let t11_12 := zdB a; if t11_12 = true then .inr (0, 1000000, (z0 a.Every 1 1000000)) else (let t17_18 := zdD a; if t17_18 = true then .inr ((-100), 1000, ((a.Every : Int) == 0)) else (let t20_21 := zdu a; if t20_21 = true then .inr (0, 1000000, ((a.Every : Int) == 0)) else .inl false)))
def zei (a : zaB) : Bool :=
  (match zcQ a with
    | .inl r_ => r_
    | .inr (least_9, most_9, every_9) => if every_9 = true then (if z0 a.Ticks 1 1000000 = true then (if z0 a.Stacks 1 100 = true then (z0 a.Amount least_9 most_9) else false) else false) else false)
theorem zo9 (a : zaB) : Ok Tryz.prog 95 [zdG a] [] (B (zei a)) [] [] := by
 refine zz Tryz.func95 rfl ?_
 show zO Tryz.prog _ _ ⟨[(0, zdG a)], [], 0, [], 41, 0⟩
 refine zd (zb rfl (zB (o := .box [_, _, _, _, _, _, _]) (nx' := 1) rfl rfl rfl trivial (za rfl rfl trivial (zc (ze (zd (zb rfl (za rfl rfl trivial (za rfl rfl trivial (zc (ze ?_)))))))))))
 refine zd (zb rfl (za rfl rfl (by decide) (za rfl rfl trivial (zl rfl rfl rfl rfl rfl trivial (za rfl rfl trivial (zc (ze (zd ?_))))))))
 refine z6 (fun w_ : Int × Int × Bool => match w_ with | (least_9, most_9, every_9) => (⟨[(1, .ptr 0 0), (3, I least_9), (4, I most_9), (5, B every_9)], [(0, .box [I a.Id, I a.Kind, I a.Ticks, I a.Every, I a.Stacks, I a.Amount, B a.Harm])], 1, [], 41, 0⟩ : St)) (fun w_ => zcQ a = .inr w_) ?_ ?_
 ·refine zd (zb rfl (za rfl rfl (by decide) (za rfl rfl trivial (zc (ze (zC (zd ?_)))))))
  refine z6 (fun t11_12 : Bool => (⟨[(1, .ptr 0 0), (3, I 0), (4, I 1000000), (5, B ((a.Every : Int) == 0)), (10, I a.Kind), (11, B t11_12)], [(0, .box [I a.Id, I a.Kind, I a.Ticks, I a.Every, I a.Stacks, I a.Amount, B a.Harm])], 1, [], 41, 0⟩ : St)) (fun w_ => zdB a = w_) ?_ ?_
  ·refine zd (zb rfl (zl rfl rfl rfl rfl rfl trivial (za rfl rfl trivial (zc (ze ?_)))))
   refine zy rfl (fun h5 => ?_) (fun h5 => ?_)
   ·have g5 : (a.Kind : Int) = 1 := zcF h5
    refine zA ?_
    have e6 : zdB a = ((a.Kind : Int) == 1) := by
     unfold zdB
     try dsimp only
     rewrite [if_pos g5]
     all_goals rfl
    exact zZ ((a.Kind : Int) == 1) e6 (zH.ren [] (by decide +kernel) (by decide +kernel) rfl ⟨⟨rfl, rfl⟩, ⟨rfl, rfl⟩, ⟨rfl, rfl⟩, ⟨rfl, rfl⟩, ⟨rfl, rfl⟩, ⟨rfl, rfl⟩, trivial⟩ ⟨⟨rfl, rfl, rfl⟩, trivial⟩ (by decide))
   ·have g5 : ¬ ((a.Kind : Int) = 1) := zcL h5
    refine zb rfl (zl rfl rfl rfl rfl rfl trivial (za rfl rfl trivial (zc ?_)))
    have e8 : zdB a = ((a.Kind : Int) == 2) := by
     unfold zdB
     try dsimp only
     rewrite [if_neg g5]
     all_goals rfl
    exact zZ ((a.Kind : Int) == 2) e8 (zH.ren [] (by decide +kernel) (by decide +kernel) rfl ⟨⟨rfl, rfl⟩, ⟨rfl, rfl⟩, ⟨rfl, rfl⟩, ⟨rfl, rfl⟩, ⟨rfl, rfl⟩, ⟨rfl, rfl⟩, trivial⟩ ⟨⟨rfl, rfl, rfl⟩, trivial⟩ (by decide))
  ·rintro t11_12 (hJ3 : zdB a = t11_12)
   show seqK _ _ _ .normal (⟨[(1, .ptr 0 0), (3, I 0), (4, I 1000000), (5, B ((a.Every : Int) == 0)), (10, I a.Kind), (11, B t11_12)], [(0, .box [I a.Id, I a.Kind, I a.Ticks, I a.Every, I a.Stacks, I a.Amount, B a.Harm])], 1, [], 41, 0⟩ : St)
   refine ze ?_
   refine zy rfl (fun h9 => ?_) (fun h9 => ?_)
   ·have g9 : t11_12 = true := h9
    refine zb rfl (za rfl rfl (by decide) (za rfl rfl trivial (zF rfl rfl rfl rfl (zaF a.Every 1 1000000) rfl rfl rfl (za rfl rfl trivial (zc (zar ?_))))))
    have e11 : zcQ a = .inr (0, 1000000, (z0 a.Every 1 1000000)) := by
     unfold zcQ
     try dsimp only
     rewrite [hJ3]
     try dsimp only
     rewrite [if_pos g9]
     all_goals rfl
    exact zZ (0, 1000000, (z0 a.Every 1 1000000)) e11 (zH.ren [] (by decide +kernel) (by decide +kernel) rfl ⟨⟨rfl, rfl⟩, ⟨rfl, rfl⟩, ⟨rfl, rfl⟩, ⟨rfl, rfl⟩, trivial⟩ ⟨⟨rfl, rfl, rfl⟩, trivial⟩ (by decide))
   ·have g9 : ¬ (t11_12 = true) := zaw h9
    refine zd ?_
    refine z6 (fun t17_18 : Bool => (⟨[(1, .ptr 0 0), (3, I 0), (4, I 1000000), (5, B ((a.Every : Int) == 0)), (10, I a.Kind), (17, B t17_18)], [(0, .box [I a.Id, I a.Kind, I a.Ticks, I a.Every, I a.Stacks, I a.Amount, B a.Harm])], 1, [], 41, 0⟩ : St)) (fun w_ => zdD a = w_) ?_ ?_
    ·refine zd (zb rfl (zl rfl rfl rfl rfl rfl trivial (za rfl rfl trivial (zc (ze ?_)))))
     refine zy rfl (fun h14 => ?_) (fun h14 => ?_)
     ·have g14 : (a.Kind : Int) = 3 := zcF h14
      refine zA ?_
      have e15 : zdD a = ((a.Kind : Int) == 3) := by
       unfold zdD
       try dsimp only
       rewrite [if_pos g14]
       all_goals rfl
      exact zZ ((a.Kind : Int) == 3) e15 (zH.ren [] (by decide +kernel) (by decide +kernel) rfl ⟨⟨rfl, rfl⟩, ⟨rfl, rfl⟩, ⟨rfl, rfl⟩, ⟨rfl, rfl⟩, ⟨rfl, rfl⟩, ⟨rfl, rfl⟩, trivial⟩ ⟨⟨rfl, rfl, rfl⟩, trivial⟩ (by decide))
     ·have g14 : ¬ ((a.Kind : Int) = 3) := zcL h14
      refine zb rfl (zl rfl rfl rfl rfl rfl trivial (za rfl rfl trivial (zc ?_)))
      have e17 : zdD a = ((a.Kind : Int) == 4) := by
       unfold zdD
       try dsimp only
       rewrite [if_neg g14]
       all_goals rfl
      exact zZ ((a.Kind : Int) == 4) e17 (zH.ren [] (by decide +kernel) (by decide +kernel) rfl ⟨⟨rfl, rfl⟩, ⟨rfl, rfl⟩, ⟨rfl, rfl⟩, ⟨rfl, rfl⟩, ⟨rfl, rfl⟩, ⟨rfl, rfl⟩, trivial⟩ ⟨⟨rfl, rfl, rfl⟩, trivial⟩ (by decide))
    ·rintro t17_18 (hJ12 : zdD a = t17_18)
     show seqK _ _ _ .normal (⟨[(1, .ptr 0 0), (3, I 0), (4, I 1000000), (5, B ((a.Every : Int) == 0)), (10, I a.Kind), (17, B t17_18)], [(0, .box [I a.Id, I a.Kind, I a.Ticks, I a.Every, I a.Stacks, I a.Amount, B a.Harm])], 1, [], 41, 0⟩ : St)
     refine ze ?_
     refine zy rfl (fun h18 => ?_) (fun h18 => ?_)
     ·have g18 : t17_18 = true := h18
      refine zb rfl (za rfl rfl trivial (za rfl rfl trivial (zc (zar ?_))))
      have e19 : zcQ a = .inr ((-100), 1000, ((a.Every : Int) == 0)) := by
       unfold zcQ
       try dsimp only
       rewrite [hJ3]
       try dsimp only
       rewrite [if_neg g9, hJ12]
       try dsimp only
       rewrite [if_pos g18]
       all_goals rfl
      exact zZ ((-100), 1000, ((a.Every : Int) == 0)) e19 (zH.ren [] (by decide +kernel) (by decide +kernel) rfl ⟨⟨rfl, rfl⟩, ⟨rfl, rfl⟩, ⟨rfl, rfl⟩, ⟨rfl, rfl⟩, trivial⟩ ⟨⟨rfl, rfl, rfl⟩, trivial⟩ (by decide))
     ·have g18 : ¬ (t17_18 = true) := zaw h18
      refine zd ?_
      refine z6 (fun t20_21 : Bool => (⟨[(1, .ptr 0 0), (3, I 0), (4, I 1000000), (5, B ((a.Every : Int) == 0)), (20, B t20_21)], [(0, .box [I a.Id, I a.Kind, I a.Ticks, I a.Every, I a.Stacks, I a.Amount, B a.Harm])], 1, [], 41, 0⟩ : St)) (fun w_ => zdu a = w_) ?_ ?_
      ·refine zd (zb rfl (zl rfl rfl rfl rfl rfl trivial (za rfl rfl trivial (zc (ze ?_)))))
       refine zy rfl (fun h22 => ?_) (fun h22 => ?_)
       ·have g22 : (a.Kind : Int) = 5 := zcF h22
        refine zA ?_
        have e23 : zdu a = ((a.Kind : Int) == 5) := by
         unfold zdu
         try dsimp only
         rewrite [if_pos g22]
         all_goals rfl
        exact zZ ((a.Kind : Int) == 5) e23 (zH.ren [] (by decide +kernel) (by decide +kernel) rfl ⟨⟨rfl, rfl⟩, ⟨rfl, rfl⟩, ⟨rfl, rfl⟩, ⟨rfl, rfl⟩, ⟨rfl, rfl⟩, trivial⟩ ⟨⟨rfl, rfl, rfl⟩, trivial⟩ (by decide))
       ·have g22 : ¬ ((a.Kind : Int) = 5) := zcL h22
        refine zb rfl (zl rfl rfl rfl rfl rfl trivial (za rfl rfl trivial (zc ?_)))
        have e25 : zdu a = ((a.Kind : Int) == 6) := by
         unfold zdu
         try dsimp only
         rewrite [if_neg g22]
         all_goals rfl
        exact zZ ((a.Kind : Int) == 6) e25 (zH.ren [] (by decide +kernel) (by decide +kernel) rfl ⟨⟨rfl, rfl⟩, ⟨rfl, rfl⟩, ⟨rfl, rfl⟩, ⟨rfl, rfl⟩, ⟨rfl, rfl⟩, trivial⟩ ⟨⟨rfl, rfl, rfl⟩, trivial⟩ (by decide))
      ·rintro t20_21 (hJ20 : zdu a = t20_21)
       show seqK _ _ _ .normal (⟨[(1, .ptr 0 0), (3, I 0), (4, I 1000000), (5, B ((a.Every : Int) == 0)), (20, B t20_21)], [(0, .box [I a.Id, I a.Kind, I a.Ticks, I a.Every, I a.Stacks, I a.Amount, B a.Harm])], 1, [], 41, 0⟩ : St)
       refine ze ?_
       refine zy rfl (fun h26 => ?_) (fun h26 => ?_)
       ·have g26 : t20_21 = true := h26
        refine zA (zar ?_)
        have e27 : zcQ a = .inr (0, 1000000, ((a.Every : Int) == 0)) := by
         unfold zcQ
         try dsimp only
         rewrite [hJ3]
         try dsimp only
         rewrite [if_neg g9, hJ12]
         try dsimp only
         rewrite [if_neg g18, hJ20]
         try dsimp only
         rewrite [if_pos g26]
         all_goals rfl
        exact zZ (0, 1000000, ((a.Every : Int) == 0)) e27 (zH.ren [] (by decide +kernel) (by decide +kernel) rfl ⟨⟨rfl, rfl⟩, ⟨rfl, rfl⟩, ⟨rfl, rfl⟩, ⟨rfl, rfl⟩, trivial⟩ ⟨⟨rfl, rfl, rfl⟩, trivial⟩ (by decide))
       ·have g26 : ¬ (t20_21 = true) := zaw h26
        refine zd (zb rfl (za rfl rfl trivial (zc (ze (zo (zad (zcJ (zI ?_))))))))
        have e28 : zcQ a = .inl false := by
         unfold zcQ
         try dsimp only
         rewrite [hJ3]
         try dsimp only
         rewrite [if_neg g9, hJ12]
         try dsimp only
         rewrite [if_neg g18, hJ20]
         try dsimp only
         rewrite [if_neg g26]
         all_goals rfl
        have e29 : zei a = false := by
         unfold zei
         try dsimp only
         rewrite [e28]
         try dsimp only
         all_goals rfl
        rw [e29]
        exact zp rfl ⟨trivial, trivial⟩ (rfl) rfl
 ·rintro ⟨least_9, most_9, every_9⟩ (hJ2 : zcQ a = .inr (least_9, most_9, every_9))
  show seqK _ _ _ .normal (⟨[(1, .ptr 0 0), (3, I least_9), (4, I most_9), (5, B every_9)], [(0, .box [I a.Id, I a.Kind, I a.Ticks, I a.Every, I a.Stacks, I a.Amount, B a.Harm])], 1, [], 41, 0⟩ : St)
  refine ze (zd (zb rfl (za rfl rfl trivial (za rfl rfl trivial ?_))))
  refine zK rfl (fun h31 => ?_) (fun h31 => ?_)
  ·have g31 : every_9 = true := h31
   refine zg rfl h31 (za rfl rfl (by decide) (zg rfl h31 (za rfl rfl trivial (zg rfl h31 (zF rfl rfl rfl rfl (zaF a.Ticks 1 1000000) rfl rfl rfl (zr rfl h31 rfl rfl (za rfl rfl trivial ?_)))))))
   refine zK rfl (fun h33 => ?_) (fun h33 => ?_)
   ·have g33 : z0 a.Ticks 1 1000000 = true := h33
    refine zg rfl h33 (za rfl rfl (by decide) (zg rfl h33 (za rfl rfl trivial (zg rfl h33 (zF rfl rfl rfl rfl (zaF a.Stacks 1 100) rfl rfl rfl (zr rfl h33 rfl rfl (za rfl rfl trivial ?_)))))))
    refine zK rfl (fun h35 => ?_) (fun h35 => ?_)
    ·have g35 : z0 a.Stacks 1 100 = true := h35
     refine zg rfl h35 (za rfl rfl (by decide) (zg rfl h35 (za rfl rfl trivial (zg rfl h35 (za rfl rfl trivial (zg rfl h35 (za rfl rfl trivial (zg rfl h35 (zF rfl rfl rfl rfl (zaF a.Amount least_9 most_9) rfl rfl rfl (zr rfl h35 rfl rfl (za rfl rfl trivial ?_)))))))))))
     refine zc (ze (zo ?_))
     have e39 : zei a = (z0 a.Amount least_9 most_9) := by
      unfold zei
      try dsimp only
      rewrite [hJ2]
      try dsimp only
      rewrite [if_pos g31, if_pos g33, if_pos g35]
      all_goals rfl
     rw [e39]
     exact zp rfl ⟨trivial, trivial⟩ (rfl) rfl
    ·have g35 : ¬ (z0 a.Stacks 1 100 = true) := zaw h35
     refine zh rfl h35 rfl (zh rfl h35 rfl (zh rfl h35 rfl (zh rfl h35 rfl (zh rfl h35 rfl (zt rfl h35 rfl rfl (za rfl rfl trivial (zc (ze (zo ?_)))))))))
     have e40 : zei a = false := by
      unfold zei
      try dsimp only
      rewrite [hJ2]
      try dsimp only
      rewrite [if_pos g31, if_pos g33, if_neg g35]
      all_goals rfl
     rw [e40]
     exact zp rfl ⟨trivial, trivial⟩ (rfl) rfl
   ·have g33 : ¬ (z0 a.Ticks 1 1000000 = true) := zaw h33
    refine zh rfl h33 rfl (zh rfl h33 rfl (zh rfl h33 rfl (zt rfl h33 rfl rfl (za rfl rfl trivial (zf rfl rfl (zf rfl rfl (zf rfl rfl (zf rfl rfl (zf rfl rfl (za rfl rfl trivial (za rfl rfl trivial ?_)))))))))))
    refine zc (ze (zo ?_))
    have e41 : zei a = false := by
     unfold zei
     try dsimp only
     rewrite [hJ2]
     try dsimp only
     rewrite [if_pos g31, if_neg g33]
     all_goals rfl
    rw [e41]
    exact zp rfl ⟨trivial, trivial⟩ (rfl) rfl
  ·have g31 : ¬ (every_9 = true) := zaw h31
   refine zh rfl h31 rfl (zh rfl h31 rfl (zh rfl h31 rfl (zt rfl h31 rfl rfl (za rfl rfl trivial (zf rfl rfl (zf rfl rfl (zf rfl rfl (za rfl rfl trivial (za rfl rfl trivial (zf rfl rfl (zf rfl rfl ?_)))))))))))
   refine zf rfl rfl (zf rfl rfl (zf rfl rfl (za rfl rfl trivial (za rfl rfl trivial (zc (ze (zo ?_)))))))
   have e42 : zei a = false := by
    unfold zei
    try dsimp only
    rewrite [hJ2]
    try dsimp only
    rewrite [if_neg g31]
    all_goals rfl
   rw [e42]
   exact zp rfl ⟨trivial, trivial⟩ (rfl) rfl

def zec (l : zbO) : Int :=
  if (l.When : Int) = 1 then 100 else 1000000
def zej (c : zu) (l : zbO) : Bool :=
  (let most_8 := zec l; if z0 l.Phase 1 100 = true then (if z0 l.When 1 3 = true then (if z0 l.Arg 1 most_8 = true then (if zbT ([l.Value]) = true then (if (l.Do : Int) = 1 then (z0 l.Value 1 100) else if (l.Do : Int) = 2 then (getA c l.Value).2 else if (l.Do : Int) = 3 then true else ((l.Do : Int) == 4)) else false) else false) else false) else false)
theorem zoX (c : zu) (l : zbO) (hF : Few9 c) : Ok Tryz.prog 122 [z1 c, zfF l] [] (B (zej c l)) [] [] := by
 refine Ok.len fun hlen => ?_
 have hl_c_Abilities : c.Abilities.length ≤ maxLen := hlen _ (by simp [zT, lens, zU])
 have hl_c_Auras : c.Auras.length ≤ maxLen := hlen _ (by simp [zT, lens, zU])
 have hl_c_Foes : c.Foes.length ≤ maxLen := hlen _ (by simp [zT, lens, zU])
 have hl_c_Map_Wall : c.Map.Wall.length ≤ maxLen := hlen _ (by simp [zT, lens, zU])
 unfold maxLen at hl_c_Abilities hl_c_Auras hl_c_Foes hl_c_Map_Wall
 refine zz Tryz.func122 rfl ?_
 show zO Tryz.prog _ _ ⟨[(0, z1 c), (1, zfF l)], [], 0, [], 60, 0⟩
 refine zd (zb rfl (zB (o := .box [_, _, _, _, _, _, _, _, _, _]) (nx' := 1) rfl rfl rfl trivial (zB (o := .box [_, _, _, _, _]) (nx' := 2) rfl rfl rfl trivial (za rfl rfl trivial (zc (ze (zd (zb rfl (za rfl rfl trivial (zc (ze ?_)))))))))))
 refine zd ?_
 refine z6 (fun most_8 : Int => (⟨[(2, .ptr 0 0), (3, .ptr 1 0), (5, I most_8)], [(0, .box [.pv (.slc c.Abilities.length false (c.Abilities.flatMap zj)), .pv (.slc c.Auras.length false (c.Auras.flatMap zq)), .pv (.slc c.Foes.length false (c.Foes.flatMap zw)), I c.Map.W, I c.Map.H, .pv (.slc c.Map.Wall.length false (encB c.Map.Wall)), I c.Door.X, I c.Door.Y, I c.Lair.X, I c.Lair.Y]), (1, .box [I l.Phase, I l.When, I l.Arg, I l.Do, I l.Value])], 2, [], 60, 0⟩ : St)) (fun w_ => zec l = w_) ?_ ?_
 ·refine zd (zb rfl (za rfl rfl (by decide) (za rfl rfl trivial (zl rfl rfl rfl rfl rfl trivial (zc (ze ?_))))))
  refine zy rfl (fun h2 => ?_) (fun h2 => ?_)
  ·have g2 : (l.When : Int) = 1 := zcF h2
   refine zb rfl (za rfl rfl trivial (zc ?_))
   have e3 : zec l = 100 := by
    unfold zec
    try dsimp only
    rewrite [if_pos g2]
    all_goals rfl
   exact zZ 100 e3 (zH.ren [] (by decide +kernel) (by decide +kernel) rfl ⟨⟨rfl, rfl⟩, ⟨rfl, rfl⟩, ⟨rfl, rfl⟩, trivial⟩ ⟨⟨rfl, rfl, rfl⟩, ⟨rfl, rfl, rfl⟩, trivial⟩ (by decide))
  ·have g2 : ¬ ((l.When : Int) = 1) := zcL h2
   refine zA ?_
   have e4 : zec l = 1000000 := by
    unfold zec
    try dsimp only
    rewrite [if_neg g2]
    all_goals rfl
   exact zZ 1000000 e4 (zH.ren [] (by decide +kernel) (by decide +kernel) rfl ⟨⟨rfl, rfl⟩, ⟨rfl, rfl⟩, ⟨rfl, rfl⟩, trivial⟩ ⟨⟨rfl, rfl, rfl⟩, ⟨rfl, rfl, rfl⟩, trivial⟩ (by decide))
 ·rintro most_8 (hJ1 : zec l = most_8)
  show seqK _ _ _ .normal (⟨[(2, .ptr 0 0), (3, .ptr 1 0), (5, I most_8)], [(0, .box [.pv (.slc c.Abilities.length false (c.Abilities.flatMap zj)), .pv (.slc c.Auras.length false (c.Auras.flatMap zq)), .pv (.slc c.Foes.length false (c.Foes.flatMap zw)), I c.Map.W, I c.Map.H, .pv (.slc c.Map.Wall.length false (encB c.Map.Wall)), I c.Door.X, I c.Door.Y, I c.Lair.X, I c.Lair.Y]), (1, .box [I l.Phase, I l.When, I l.Arg, I l.Do, I l.Value])], 2, [], 60, 0⟩ : St)
  refine ze (zd (zd (zb rfl (za rfl rfl (by decide) (za rfl rfl trivial (zF rfl rfl rfl rfl (zaF l.Phase 1 100) rfl rfl rfl (za rfl rfl trivial (za rfl rfl trivial ?_))))))))
  refine zK rfl (fun h6 => ?_) (fun h6 => ?_)
  ·have g6 : ¬ (z0 l.Phase 1 100 = true) := zaw (zcl h6)
   refine zh rfl h6 rfl (zh rfl h6 rfl (zh rfl h6 rfl (zh rfl h6 rfl (zr rfl h6 rfl rfl (za rfl rfl trivial (zf rfl rfl (zf rfl rfl (zf rfl rfl (zf rfl rfl (zf rfl rfl (za rfl rfl trivial ?_)))))))))))
   refine za rfl rfl trivial (zf rfl rfl (zf rfl rfl (zf rfl rfl (zf rfl rfl (zf rfl rfl (za rfl rfl trivial (zc (ze (zP rfl (zd (zb rfl ?_)))))))))))
   refine za rfl rfl trivial (zc (ze (zo (zI ?_))))
   have e7 : zej c l = false := by
    unfold zej
    try dsimp only
    rewrite [hJ1]
    try dsimp only
    rewrite [if_neg g6]
    all_goals rfl
   rw [e7]
   exact zp rfl ⟨trivial, trivial⟩ (rfl) rfl
  ·have g6 : z0 l.Phase 1 100 = true := (zcm h6)
   refine zg rfl h6 (za rfl rfl (by decide) (zg rfl h6 (za rfl rfl trivial (zg rfl h6 (zF rfl rfl rfl rfl (zaF l.When 1 3) rfl rfl rfl (zg rfl h6 (za rfl rfl trivial (zt rfl h6 rfl rfl (za rfl rfl trivial ?_)))))))))
   refine zK rfl (fun h9 => ?_) (fun h9 => ?_)
   ·have g9 : ¬ (z0 l.When 1 3 = true) := zaw (zcl h9)
    refine zh rfl h9 rfl (zh rfl h9 rfl (zh rfl h9 rfl (zh rfl h9 rfl (zh rfl h9 rfl (zr rfl h9 rfl rfl (za rfl rfl trivial (zf rfl rfl (zf rfl rfl (zf rfl rfl (zf rfl rfl (zf rfl rfl ?_)))))))))))
    refine za rfl rfl trivial (zc (ze (zP rfl (zd (zb rfl (za rfl rfl trivial (zc (ze (zo (zI ?_))))))))))
    have e10 : zej c l = false := by
     unfold zej
     try dsimp only
     rewrite [hJ1]
     try dsimp only
     rewrite [if_pos g6, if_neg g9]
     all_goals rfl
    rw [e10]
    exact zp rfl ⟨trivial, trivial⟩ (rfl) rfl
   ·have g9 : z0 l.When 1 3 = true := (zcm h9)
    refine zg rfl h9 (za rfl rfl (by decide) (zg rfl h9 (za rfl rfl trivial (zg rfl h9 (za rfl rfl trivial (zg rfl h9 (zF rfl rfl rfl rfl (zaF l.Arg 1 most_8) rfl rfl rfl (zg rfl h9 (za rfl rfl trivial (zt rfl h9 rfl rfl (za rfl rfl trivial ?_)))))))))))
    refine zK rfl (fun h13 => ?_) (fun h13 => ?_)
    ·have g13 : ¬ (z0 l.Arg 1 most_8 = true) := zaw (zcl h13)
     refine zh rfl h13 rfl (zh rfl h13 rfl (zh rfl h13 rfl (zh rfl h13 rfl (zh rfl h13 rfl (zr rfl h13 rfl rfl (zc (ze (zP rfl (zd (zb rfl (za rfl rfl trivial ?_)))))))))))
     refine zc (ze (zo (zI ?_)))
     have e14 : zej c l = false := by
      unfold zej
      try dsimp only
      rewrite [hJ1]
      try dsimp only
      rewrite [if_pos g6, if_pos g9, if_neg g13]
      all_goals rfl
     rw [e14]
     exact zp rfl ⟨trivial, trivial⟩ (rfl) rfl
    ·have g13 : z0 l.Arg 1 most_8 = true := (zcm h13)
     refine zg rfl h13 (za rfl rfl (by decide) (zg rfl h13 (za rfl rfl trivial (zg rfl h13 (zB (o := .row _ _ [_]) (nx' := 3) rfl rfl rfl (by decide) (zg rfl h13 ?_))))))
     refine zaX (Hin := [.row _ _ _]) (H' := [(2, _), (0, _), (1, _)]) (nx' := 3) [2] rfl rfl rfl rfl rfl rfl rfl rfl rfl (by (repeat' apply And.intro) <;> first | trivial | rfl | exact zi (fun _ => rfl) _ | exact zk _ | exact zn _ | exact zm _ | exact Nat.le_of_ble_eq_true rfl | assumption) (zeh ([l.Value]) false) rfl (by decide) rfl rfl trivial rfl rfl rfl rfl ?_
     refine zg rfl h13 (za rfl rfl trivial (zt rfl h13 rfl rfl (zc (ze ?_))))
     refine zy rfl (fun h16 => ?_) (fun h16 => ?_)
     ·have g16 : ¬ (zbT ([l.Value]) = true) := zaw (zcl h16)
      refine zd (zb rfl (za rfl rfl trivial (zc (ze (zo (zI ?_))))))
      have e17 : zej c l = false := by
       unfold zej
       try dsimp only
       rewrite [hJ1]
       try dsimp only
       rewrite [if_pos g6, if_pos g9, if_pos g13, if_neg g16]
       all_goals rfl
      rw [e17]
      exact zp rfl ⟨trivial, trivial⟩ (rfl) rfl
     ·have g16 : zbT ([l.Value]) = true := (zcm h16)
      refine zA (ze (zd (zd (zb rfl (za rfl rfl (by decide) (za rfl rfl trivial (zc (ze (zC (zd (zb rfl ?_)))))))))))
      refine zl rfl rfl rfl rfl rfl trivial (za rfl rfl trivial (zc (ze ?_)))
      refine zy rfl (fun h19 => ?_) (fun h19 => ?_)
      ·have g19 : (l.Do : Int) = 1 := zcF h19
       refine zd (zb rfl (za rfl rfl (by decide) (za rfl rfl trivial (zF rfl rfl rfl rfl (zaF l.Value 1 100) rfl rfl rfl (za rfl rfl trivial (zc (ze (zo (zad (zI ?_))))))))))
       have e21 : zej c l = (z0 l.Value 1 100) := by
        unfold zej
        try dsimp only
        rewrite [hJ1]
        try dsimp only
        rewrite [if_pos g6, if_pos g9, if_pos g13, if_pos g16, if_pos g19]
        all_goals rfl
       rw [e21]
       exact zp rfl ⟨trivial, trivial⟩ (rfl) rfl
      ·have g19 : ¬ ((l.Do : Int) = 1) := zcL h19
       refine zd (zb rfl (zl rfl rfl rfl rfl rfl trivial (za rfl rfl trivial (zc (ze ?_)))))
       refine zy rfl (fun h23 => ?_) (fun h23 => ?_)
       ·have g23 : (l.Do : Int) = 2 := zcF h23
        refine zd (zb rfl (za (v := (.agg [_, _, _, _, _, _, _, _, _, _])) rfl rfl (Nat.le_of_ble_eq_true rfl) (za rfl rfl (by decide) (za rfl rfl trivial (zF rfl rfl rfl rfl (zqu c l.Value (by first | assumption | exact zcO (by decide +kernel) | exact zeH (by assumption) | grind)) rfl rfl rfl (za rfl rfl trivial (za rfl rfl trivial (za rfl rfl trivial (zB (o := .box [_, _, _, _, _, _, _, _]) (nx' := 4) rfl rfl rfl trivial ?_)))))))))
        refine zx (H' := [(3, .box [_, _, _, _, _, _, _, _]), (2, _), (0, _), (1, _)]) rfl rfl rfl rfl rfl rfl (.inl rfl) rfl ?_
        refine za rfl rfl trivial (zc (ze (zd (zb rfl (za rfl rfl trivial (za rfl rfl trivial (zc (ze (zo (zad (zI ?_)))))))))))
        have e25 : zej c l = (getA c l.Value).2 := by
         unfold zej
         try dsimp only
         rewrite [hJ1]
         try dsimp only
         rewrite [if_pos g6, if_pos g9, if_pos g13, if_pos g16, if_neg g19, if_pos g23]
         all_goals rfl
        rw [e25]
        exact zp rfl ⟨trivial, trivial⟩ (rfl) rfl
       ·have g23 : ¬ ((l.Do : Int) = 2) := zcL h23
        refine zA (zar (ze (zd (zb rfl (za rfl rfl (by decide) (za rfl rfl trivial (zl rfl rfl rfl rfl rfl trivial (za rfl rfl trivial ?_))))))))
        refine zK rfl (fun h27 => ?_) (fun h27 => ?_)
        ·have g27 : (l.Do : Int) = 3 := zcF h27
         refine zh rfl h27 rfl (zh rfl h27 rfl (zh rfl h27 rfl (zr rfl h27 rfl rfl (za rfl rfl trivial (zc (ze (zo ?_)))))))
         have e28 : zej c l = true := by
          unfold zej
          try dsimp only
          rewrite [hJ1]
          try dsimp only
          rewrite [if_pos g6, if_pos g9, if_pos g13, if_pos g16, if_neg g19, if_neg g23, if_pos g27]
          all_goals rfl
         rw [e28]
         exact zp rfl ⟨trivial, trivial⟩ (rfl) rfl
        ·have g27 : ¬ ((l.Do : Int) = 3) := zcL h27
         refine zg rfl h27 (za rfl rfl (by decide) (zg rfl h27 (za rfl rfl trivial (zg rfl h27 (zl rfl rfl rfl rfl rfl trivial (zt rfl h27 rfl rfl (za rfl rfl trivial (zc (ze (zo ?_))))))))))
         have e30 : zej c l = ((l.Do : Int) == 4) := by
          unfold zej
          try dsimp only
          rewrite [hJ1]
          try dsimp only
          rewrite [if_pos g6, if_pos g9, if_pos g13, if_pos g16, if_neg g19, if_neg g23, if_neg g27]
          all_goals rfl
         rw [e30]
         exact zp rfl ⟨trivial, trivial⟩ (rfl) rfl

def zg5 (p : zaU) : Bool :=
  if z0 p.Item 1 1000000 = true then (z0 p.Weight 1 1000000) else false
theorem zoy (p : zaU) : Ok Tryz.prog 125 [zen p] [] (B (zg5 p)) [] [] := by
 refine zz Tryz.func125 rfl ?_
 show zO Tryz.prog _ _ ⟨[(0, zen p)], [], 0, [], 11, 0⟩
 refine zd (zb rfl (zB (o := .box [_, _]) (nx' := 1) rfl rfl rfl trivial (za rfl rfl trivial (zc (ze (zd (zb rfl (za rfl rfl (by decide) (za rfl rfl trivial (zF rfl rfl rfl rfl (zaF p.Item 1 1000000) rfl rfl rfl (za rfl rfl trivial ?_)))))))))))
 refine zK rfl (fun h2 => ?_) (fun h2 => ?_)
 ·have g2 : z0 p.Item 1 1000000 = true := h2
  refine zg rfl h2 (za rfl rfl (by decide) (zg rfl h2 (za rfl rfl trivial (zg rfl h2 (zF rfl rfl rfl rfl (zaF p.Weight 1 1000000) rfl rfl rfl (zr rfl h2 rfl rfl (za rfl rfl trivial (zc (ze (zo ?_))))))))))
  have e4 : zg5 p = (z0 p.Weight 1 1000000) := by
   unfold zg5
   try dsimp only
   rewrite [if_pos g2]
   all_goals rfl
  rw [e4]
  exact zp rfl ⟨trivial, trivial⟩ (rfl) rfl
 ·have g2 : ¬ (z0 p.Item 1 1000000 = true) := zaw h2
  refine zh rfl h2 rfl (zh rfl h2 rfl (zh rfl h2 rfl (zt rfl h2 rfl rfl (za rfl rfl trivial (zc (ze (zo ?_)))))))
  have e5 : zg5 p = false := by
   unfold zg5
   try dsimp only
   rewrite [if_neg g2]
   all_goals rfl
  rw [e5]
  exact zp rfl ⟨trivial, trivial⟩ (rfl) rfl

def badL (l : zbO) (c1 : zu) : Bool :=
  (!(zej c1 l))
theorem zqP (l : zbO) (c1 : zu) (hF : Few9 c1) : Ok Tryz.prog 121 [zfF l, .pptr [.slc c1.Abilities.length false (c1.Abilities.flatMap zj), .slc c1.Auras.length false (c1.Auras.flatMap zq), .slc c1.Foes.length false (c1.Foes.flatMap zw), i64 c1.Map.W, i64 c1.Map.H, .slc c1.Map.Wall.length false (encB c1.Map.Wall), i64 c1.Door.X, i64 c1.Door.Y, i64 c1.Lair.X, i64 c1.Lair.Y] 0] [] (B (badL l c1)) [] [] := by
 refine zz Tryz.func121 rfl ?_
 show zO Tryz.prog _ _ ⟨[(0, zfF l), (1, .pptr [.slc c1.Abilities.length false (c1.Abilities.flatMap zj), .slc c1.Auras.length false (c1.Auras.flatMap zq), .slc c1.Foes.length false (c1.Foes.flatMap zw), i64 c1.Map.W, i64 c1.Map.H, .slc c1.Map.Wall.length false (encB c1.Map.Wall), i64 c1.Door.X, i64 c1.Door.Y, i64 c1.Lair.X, i64 c1.Lair.Y] 0)], [], 0, [], 8, 0⟩
 refine zd (zb rfl (zB (o := .box [_, _, _, _, _]) (nx' := 1) rfl rfl rfl trivial (za rfl rfl trivial (zc (ze (zd (zb rfl (zJ rfl rfl rfl (Nat.le_of_ble_eq_true rfl) (rfl) rfl (za (v := (.agg [_, _, _, _, _])) rfl rfl (Nat.le_of_ble_eq_true rfl) (zF rfl rfl rfl rfl (zoX c1 l (by first | assumption | exact zcO (by decide +kernel) | exact zeH (by assumption) | grind)) rfl rfl rfl (za rfl rfl trivial ?_)))))))))))
 refine za rfl rfl trivial (zc (ze (zo ?_)))
 have e2 : badL l c1 = (!(zej c1 l)) := by
  unfold badL
  try dsimp only
  all_goals rfl
 rw [e2]
 exact zp rfl ⟨trivial, trivial⟩ (rfl) rfl

def badP (p : zaU) : Bool :=
  (!(zg5 p))
theorem zqy (p : zaU) : Ok Tryz.prog 124 [zen p] [] (B (badP p)) [] [] := by
 refine zz Tryz.func124 rfl ?_
 show zO Tryz.prog _ _ ⟨[(0, zen p)], [], 0, [], 6, 0⟩
 refine zd (zb rfl (zB (o := .box [_, _]) (nx' := 1) rfl rfl rfl trivial (za rfl rfl trivial (zc (ze (zd (zb rfl (za (v := (.agg [_, _])) rfl rfl (Nat.le_of_ble_eq_true rfl) (zF rfl rfl rfl rfl (zoy p) rfl rfl rfl (za rfl rfl trivial (za rfl rfl trivial ?_)))))))))))
 refine zc (ze (zo ?_))
 have e2 : badP p = (!(zg5 p)) := by
  unfold badP
  try dsimp only
  all_goals rfl
 rw [e2]
 exact zp rfl ⟨trivial, trivial⟩ (rfl) rfl

def zem (f : GFoe) : Bool :=
  if z0 f.Health 1 1000000 = true then (if z0 f.Every 1 1000000 = true then (!(zbT ([f.Hit, f.Reach]))) else (!(z0 f.Every 1 1000000))) else (!(z0 f.Health 1 1000000))
def zb4 (f : GFoe) : Bool :=
  if z0 f.Drops 0 16 = true then (if (f.Script.length : Int) > 16 then (decide ((f.Script.length : Int) > 16)) else if (f.Hoard.length : Int) > 16 then (decide ((f.Hoard.length : Int) > 16)) else if (f.Drops : Int) > 0 then ((f.Hoard.length : Int) == 0) else false) else (!(z0 f.Drops 0 16))
def foe9 (c : zu) (f : GFoe) : Bool :=
  (let t6_7 := zem f; if t6_7 = true then false else (let t22_23 := zb4 f; if t22_23 = true then false else if f.Script.any (fun x_ => badL x_ c) = true then false else (!(f.Hoard.any (fun x_ => badP x_)))))
theorem zqz (c : zu) (f : GFoe) (hF : Few9 c) : Ok Tryz.prog 99 [z1 c, zdO f] [] (B (foe9 c f)) [] [] := by
 refine Ok.len fun hlen => ?_
 have hl_c_Abilities : c.Abilities.length ≤ maxLen := hlen _ (by simp [zT, lens, zU])
 have hl_c_Auras : c.Auras.length ≤ maxLen := hlen _ (by simp [zT, lens, zU])
 have hl_c_Foes : c.Foes.length ≤ maxLen := hlen _ (by simp [zT, lens, zU])
 have hl_c_Map_Wall : c.Map.Wall.length ≤ maxLen := hlen _ (by simp [zT, lens, zU])
 have hl_f_Script : f.Script.length ≤ maxLen := hlen _ (by simp [zT, lens, zU])
 have hl_f_Hoard : f.Hoard.length ≤ maxLen := hlen _ (by simp [zT, lens, zU])
 unfold maxLen at hl_c_Abilities hl_c_Auras hl_c_Foes hl_c_Map_Wall hl_f_Script hl_f_Hoard
 refine zz Tryz.func99 rfl ?_
 show zO Tryz.prog _ _ ⟨[(0, z1 c), (1, zdO f)], [], 0, [], 56, 0⟩
 refine zd (zb rfl (zB (o := .box [_, _, _, _, _, _, _, _, _, _]) (nx' := 1) rfl rfl rfl trivial (zB (o := .box [_, _, _, _, _, _, _, _]) (nx' := 2) rfl rfl rfl trivial (za rfl rfl trivial (zc (ze (zd (zC (zd ?_)))))))))
 refine z6 (fun t6_7 : Bool => (⟨[(2, .ptr 0 0), (3, .ptr 1 0), (6, B t6_7)], [(0, .box [.pv (.slc c.Abilities.length false (c.Abilities.flatMap zj)), .pv (.slc c.Auras.length false (c.Auras.flatMap zq)), .pv (.slc c.Foes.length false (c.Foes.flatMap zw)), I c.Map.W, I c.Map.H, .pv (.slc c.Map.Wall.length false (encB c.Map.Wall)), I c.Door.X, I c.Door.Y, I c.Lair.X, I c.Lair.Y]), (1, .box [I f.Id, I f.Health, I f.Hit, I f.Every, I f.Reach, .pv (.slc f.Script.length false (f.Script.flatMap zN)), .pv (.slc f.Hoard.length false (f.Hoard.flatMap zE)), I f.Drops])], 2, [], 56, 0⟩ : St)) (fun w_ => zem f = w_) ?_ ?_
 ·refine zd (zb rfl (za rfl rfl (by decide) (za rfl rfl trivial (zF rfl rfl rfl rfl (zaF f.Health 1 1000000) rfl rfl rfl (za rfl rfl trivial (za rfl rfl trivial (zc (ze ?_))))))))
  refine zy rfl (fun h3 => ?_) (fun h3 => ?_)
  ·have g3 : ¬ (z0 f.Health 1 1000000 = true) := zaw (zcl h3)
   refine zA ?_
   have e4 : zem f = (!(z0 f.Health 1 1000000)) := by
    unfold zem
    try dsimp only
    rewrite [if_neg g3]
    all_goals rfl
   exact zZ (!(z0 f.Health 1 1000000)) e4 (zH.ren [] (by decide +kernel) (by decide +kernel) rfl ⟨⟨rfl, rfl⟩, ⟨rfl, rfl⟩, ⟨rfl, rfl⟩, trivial⟩ ⟨⟨rfl, rfl, rfl⟩, ⟨rfl, rfl, rfl⟩, trivial⟩ (by decide))
  ·have g3 : z0 f.Health 1 1000000 = true := (zcm h3)
   refine zd (zb rfl (za rfl rfl (by decide) (za rfl rfl trivial (zF rfl rfl rfl rfl (zaF f.Every 1 1000000) rfl rfl rfl (za rfl rfl trivial (za rfl rfl trivial (zc (ze ?_))))))))
   refine zy rfl (fun h6 => ?_) (fun h6 => ?_)
   ·have g6 : ¬ (z0 f.Every 1 1000000 = true) := zaw (zcl h6)
    refine zA ?_
    have e7 : zem f = (!(z0 f.Every 1 1000000)) := by
     unfold zem
     try dsimp only
     rewrite [if_pos g3, if_neg g6]
     all_goals rfl
    exact zZ (!(z0 f.Every 1 1000000)) e7 (zH.ren [] (by decide +kernel) (by decide +kernel) rfl ⟨⟨rfl, rfl⟩, ⟨rfl, rfl⟩, ⟨rfl, rfl⟩, trivial⟩ ⟨⟨rfl, rfl, rfl⟩, ⟨rfl, rfl, rfl⟩, trivial⟩ (by decide))
   ·have g6 : z0 f.Every 1 1000000 = true := (zcm h6)
    refine zb rfl (za rfl rfl (by decide) (za rfl rfl trivial (za rfl rfl (by decide) (za rfl rfl trivial (zB (o := .row _ _ [_, _]) (nx' := 3) rfl rfl rfl (by decide) ?_)))))
    refine zaX (Hin := [.row _ _ _]) (H' := [(2, _), (1, _), (0, _)]) (nx' := 3) [2] rfl rfl rfl rfl rfl rfl rfl rfl rfl (by (repeat' apply And.intro) <;> first | trivial | rfl | exact zi (fun _ => rfl) _ | exact zk _ | exact zn _ | exact zm _ | exact Nat.le_of_ble_eq_true rfl | assumption) (zeh ([f.Hit, f.Reach]) false) rfl (by decide) rfl rfl trivial rfl rfl rfl rfl ?_
    refine za rfl rfl trivial (za rfl rfl trivial (zc ?_))
    have e9 : zem f = (!(zbT ([f.Hit, f.Reach]))) := by
     unfold zem
     try dsimp only
     rewrite [if_pos g3, if_pos g6]
     all_goals rfl
    exact zZ (!(zbT ([f.Hit, f.Reach]))) e9 (zH.ren [] (by decide +kernel) (by decide +kernel) rfl ⟨⟨rfl, rfl⟩, ⟨rfl, rfl⟩, ⟨rfl, rfl⟩, trivial⟩ ⟨⟨rfl, rfl, rfl⟩, ⟨rfl, rfl, rfl⟩, trivial⟩ (by decide))
 ·rintro t6_7 (hJ1 : zem f = t6_7)
  show seqK _ _ _ .normal (⟨[(2, .ptr 0 0), (3, .ptr 1 0), (6, B t6_7)], [(0, .box [.pv (.slc c.Abilities.length false (c.Abilities.flatMap zj)), .pv (.slc c.Auras.length false (c.Auras.flatMap zq)), .pv (.slc c.Foes.length false (c.Foes.flatMap zw)), I c.Map.W, I c.Map.H, .pv (.slc c.Map.Wall.length false (encB c.Map.Wall)), I c.Door.X, I c.Door.Y, I c.Lair.X, I c.Lair.Y]), (1, .box [I f.Id, I f.Health, I f.Hit, I f.Every, I f.Reach, .pv (.slc f.Script.length false (f.Script.flatMap zN)), .pv (.slc f.Hoard.length false (f.Hoard.flatMap zE)), I f.Drops])], 2, [], 56, 0⟩ : St)
  refine ze ?_
  refine zy rfl (fun h10 => ?_) (fun h10 => ?_)
  ·have g10 : t6_7 = true := h10
   refine zd (zb rfl (za rfl rfl trivial (zc (ze (zo (zad (zI ?_)))))))
   have e11 : foe9 c f = false := by
    unfold foe9
    try dsimp only
    rewrite [hJ1]
    try dsimp only
    rewrite [if_pos g10]
    all_goals rfl
   rw [e11]
   exact zp rfl ⟨trivial, trivial⟩ (rfl) rfl
  ·have g10 : ¬ (t6_7 = true) := zaw h10
   refine zd ?_
   refine z6 (fun t22_23 : Bool => (⟨[(2, .ptr 0 0), (3, .ptr 1 0), (22, B t22_23)], [(0, .box [.pv (.slc c.Abilities.length false (c.Abilities.flatMap zj)), .pv (.slc c.Auras.length false (c.Auras.flatMap zq)), .pv (.slc c.Foes.length false (c.Foes.flatMap zw)), I c.Map.W, I c.Map.H, .pv (.slc c.Map.Wall.length false (encB c.Map.Wall)), I c.Door.X, I c.Door.Y, I c.Lair.X, I c.Lair.Y]), (1, .box [I f.Id, I f.Health, I f.Hit, I f.Every, I f.Reach, .pv (.slc f.Script.length false (f.Script.flatMap zN)), .pv (.slc f.Hoard.length false (f.Hoard.flatMap zE)), I f.Drops])], 2, [], 56, 0⟩ : St)) (fun w_ => zb4 f = w_) ?_ ?_
   ·refine zd (zb rfl (za rfl rfl (by decide) (za rfl rfl trivial (zF rfl rfl rfl rfl (zaF f.Drops 0 16) rfl rfl rfl (za rfl rfl trivial (za rfl rfl trivial (zc (ze ?_))))))))
    refine zy rfl (fun h14 => ?_) (fun h14 => ?_)
    ·have g14 : ¬ (z0 f.Drops 0 16 = true) := zaw (zcl h14)
     refine zA ?_
     have e15 : zb4 f = (!(z0 f.Drops 0 16)) := by
      unfold zb4
      try dsimp only
      rewrite [if_neg g14]
      all_goals rfl
     exact zZ (!(z0 f.Drops 0 16)) e15 (zH.ren [] (by decide +kernel) (by decide +kernel) rfl ⟨⟨rfl, rfl⟩, ⟨rfl, rfl⟩, ⟨rfl, rfl⟩, trivial⟩ ⟨⟨rfl, rfl, rfl⟩, ⟨rfl, rfl, rfl⟩, trivial⟩ (by decide))
    ·have g14 : z0 f.Drops 0 16 = true := (zcm h14)
     refine zd (zb rfl (za rfl rfl (by decide) (za rfl rfl trivial (za rfl rfl trivial (zl rfl rfl rfl rfl rfl trivial (za rfl rfl trivial (zc (ze ?_))))))))
     refine zy rfl (fun h17 => ?_) (fun h17 => ?_)
     ·have g17 : (f.Script.length : Int) > 16 := of_decide_eq_true h17
      refine zA ?_
      have e18 : zb4 f = (decide ((f.Script.length : Int) > 16)) := by
       unfold zb4
       try dsimp only
       rewrite [if_pos g14, if_pos g17]
       all_goals rfl
      exact zZ (decide ((f.Script.length : Int) > 16)) e18 (zH.ren [] (by decide +kernel) (by decide +kernel) rfl ⟨⟨rfl, rfl⟩, ⟨rfl, rfl⟩, ⟨rfl, rfl⟩, trivial⟩ ⟨⟨rfl, rfl, rfl⟩, ⟨rfl, rfl, rfl⟩, trivial⟩ (by decide))
     ·have g17 : ¬ ((f.Script.length : Int) > 16) := of_decide_eq_false h17
      refine zd (zb rfl (za rfl rfl (by decide) (za rfl rfl trivial (za rfl rfl trivial (zl rfl rfl rfl rfl rfl trivial (za rfl rfl trivial (zc (ze ?_))))))))
      refine zy rfl (fun h20 => ?_) (fun h20 => ?_)
      ·have g20 : (f.Hoard.length : Int) > 16 := of_decide_eq_true h20
       refine zA ?_
       have e21 : zb4 f = (decide ((f.Hoard.length : Int) > 16)) := by
        unfold zb4
        try dsimp only
        rewrite [if_pos g14, if_neg g17, if_pos g20]
        all_goals rfl
       exact zZ (decide ((f.Hoard.length : Int) > 16)) e21 (zH.ren [] (by decide +kernel) (by decide +kernel) rfl ⟨⟨rfl, rfl⟩, ⟨rfl, rfl⟩, ⟨rfl, rfl⟩, trivial⟩ ⟨⟨rfl, rfl, rfl⟩, ⟨rfl, rfl, rfl⟩, trivial⟩ (by decide))
      ·have g20 : ¬ ((f.Hoard.length : Int) > 16) := of_decide_eq_false h20
       refine zb rfl (za rfl rfl (by decide) (za rfl rfl trivial (zl rfl rfl rfl rfl rfl trivial (za rfl rfl trivial ?_))))
       refine zK rfl (fun h23 => ?_) (fun h23 => ?_)
       ·have g23 : (f.Drops : Int) > 0 := of_decide_eq_true h23
        refine zg rfl h23 (za rfl rfl (by decide) (zg rfl h23 (za rfl rfl trivial (zg rfl h23 (za rfl rfl trivial (zg rfl h23 (zl rfl rfl rfl rfl rfl trivial (zr rfl h23 rfl rfl (za rfl rfl trivial (zc ?_))))))))))
        have e25 : zb4 f = ((f.Hoard.length : Int) == 0) := by
         unfold zb4
         try dsimp only
         rewrite [if_pos g14, if_neg g17, if_neg g20, if_pos g23]
         all_goals rfl
        exact zZ ((f.Hoard.length : Int) == 0) e25 (zH.ren [] (by decide +kernel) (by decide +kernel) rfl ⟨⟨rfl, rfl⟩, ⟨rfl, rfl⟩, ⟨rfl, rfl⟩, trivial⟩ ⟨⟨rfl, rfl, rfl⟩, ⟨rfl, rfl, rfl⟩, trivial⟩ (by decide))
       ·have g23 : ¬ ((f.Drops : Int) > 0) := of_decide_eq_false h23
        refine zh rfl h23 rfl (zh rfl h23 rfl (zh rfl h23 rfl (zh rfl h23 rfl (zt rfl h23 rfl rfl (za rfl rfl trivial (zc ?_))))))
        have e26 : zb4 f = false := by
         unfold zb4
         try dsimp only
         rewrite [if_pos g14, if_neg g17, if_neg g20, if_neg g23]
         all_goals rfl
        exact zZ false e26 (zH.ren [] (by decide +kernel) (by decide +kernel) rfl ⟨⟨rfl, rfl⟩, ⟨rfl, rfl⟩, ⟨rfl, rfl⟩, trivial⟩ ⟨⟨rfl, rfl, rfl⟩, ⟨rfl, rfl, rfl⟩, trivial⟩ (by decide))
   ·rintro t22_23 (hJ12 : zb4 f = t22_23)
    show seqK _ _ _ .normal (⟨[(2, .ptr 0 0), (3, .ptr 1 0), (22, B t22_23)], [(0, .box [.pv (.slc c.Abilities.length false (c.Abilities.flatMap zj)), .pv (.slc c.Auras.length false (c.Auras.flatMap zq)), .pv (.slc c.Foes.length false (c.Foes.flatMap zw)), I c.Map.W, I c.Map.H, .pv (.slc c.Map.Wall.length false (encB c.Map.Wall)), I c.Door.X, I c.Door.Y, I c.Lair.X, I c.Lair.Y]), (1, .box [I f.Id, I f.Health, I f.Hit, I f.Every, I f.Reach, .pv (.slc f.Script.length false (f.Script.flatMap zN)), .pv (.slc f.Hoard.length false (f.Hoard.flatMap zE)), I f.Drops])], 2, [], 56, 0⟩ : St)
    refine ze ?_
    refine zy rfl (fun h27 => ?_) (fun h27 => ?_)
    ·have g27 : t22_23 = true := h27
     refine zd (zb rfl (za rfl rfl trivial (zc (ze (zo (zad (zI ?_)))))))
     have e28 : foe9 c f = false := by
      unfold foe9
      try dsimp only
      rewrite [hJ1]
      try dsimp only
      rewrite [if_neg g10, hJ12]
      try dsimp only
      rewrite [if_pos g27]
      all_goals rfl
     rw [e28]
     exact zp rfl ⟨trivial, trivial⟩ (rfl) rfl
    ·have g27 : ¬ (t22_23 = true) := zaw h27
     refine zA (zar (ze (zd (zb rfl (za rfl rfl (by decide) (za rfl rfl trivial (za rfl rfl trivial ?_)))))))
     refine zaX (Hin := [.box [.pv _, .pv _, .pv _, .pv _, .pv _, .pv _, .pv _, .pv _, .pv _, .pv _]]) (H' := [(0, _), (1, _)]) (nx' := 2) [0] rfl rfl rfl rfl rfl rfl rfl rfl rfl (by (repeat' apply And.intro) <;> first | trivial | rfl | exact zi (fun _ => rfl) _ | exact zk _ | exact zn _ | exact zm _ | exact Nat.le_of_ble_eq_true rfl | assumption) (zmr f.Script false 121 [.pptr [(.slc c.Abilities.length false (c.Abilities.flatMap zj)), (.slc c.Auras.length false (c.Auras.flatMap zq)), (.slc c.Foes.length false (c.Foes.flatMap zw)), i64 c.Map.W, i64 c.Map.H, (.slc c.Map.Wall.length false (encB c.Map.Wall)), i64 c.Door.X, i64 c.Door.Y, i64 c.Lair.X, i64 c.Lair.Y] 0] (fun x_ => badL x_ c) ⟨rfl, rfl, fun _ => rfl, fun _ => rfl, fun x_ => zqP x_ c (by first | assumption | exact zcO (by decide +kernel) | exact zeH (by assumption) | grind)⟩) rfl (by decide) rfl rfl trivial rfl rfl rfl rfl ?_
     refine za rfl rfl trivial (zc (ze (zd (zb rfl (za rfl rfl trivial (za rfl rfl trivial (za rfl rfl trivial ?_)))))))
     refine zK rfl (fun h31 => ?_) (fun h31 => ?_)
     ·have g31 : ¬ (f.Script.any (fun x_ => badL x_ c) = true) := zaw (zcl h31)
      refine zg rfl h31 (za rfl rfl (by decide) (zg rfl h31 (za rfl rfl trivial (zg rfl h31 (zF rfl rfl rfl rfl (zkl f.Hoard false 124 [] (fun x_ => badP x_) ⟨rfl, rfl, fun _ => rfl, fun _ => rfl, fun x_ => zqy x_⟩) rfl rfl rfl (zg rfl h31 (za rfl rfl trivial (zr rfl h31 rfl rfl (za rfl rfl trivial (zc (ze ?_)))))))))))
      refine zo ?_
      have e33 : foe9 c f = (!(f.Hoard.any (fun x_ => badP x_))) := by
       unfold foe9
       try dsimp only
       rewrite [hJ1]
       try dsimp only
       rewrite [if_neg g10, hJ12]
       try dsimp only
       rewrite [if_neg g27, if_neg g31]
       all_goals rfl
      rw [e33]
      exact zp rfl ⟨trivial, trivial⟩ (rfl) rfl
     ·have g31 : f.Script.any (fun x_ => badL x_ c) = true := (zcm h31)
      refine zh rfl h31 rfl (zh rfl h31 rfl (zh rfl h31 rfl (zh rfl h31 rfl (zt rfl h31 rfl rfl (za rfl rfl trivial (zc (ze (zo ?_))))))))
      have e34 : foe9 c f = false := by
       unfold foe9
       try dsimp only
       rewrite [hJ1]
       try dsimp only
       rewrite [if_neg g10, hJ12]
       try dsimp only
       rewrite [if_neg g27, if_pos g31]
       all_goals rfl
      rw [e34]
      exact zp rfl ⟨trivial, trivial⟩ (rfl) rfl

def okA (a : zG) (c1 : zu) : Bool :=
  (zcy c1 a)
theorem zrr (a : zG) (c1 : zu) : Ok Tryz.prog 91 [zag a, .pptr [.slc c1.Abilities.length false (c1.Abilities.flatMap zj), .slc c1.Auras.length false (c1.Auras.flatMap zq), .slc c1.Foes.length false (c1.Foes.flatMap zw), i64 c1.Map.W, i64 c1.Map.H, .slc c1.Map.Wall.length false (encB c1.Map.Wall), i64 c1.Door.X, i64 c1.Door.Y, i64 c1.Lair.X, i64 c1.Lair.Y] 0] [] (B (okA a c1)) [] [] := by
 refine Ok.len fun hlen => ?_
 have hl_a_Effects : a.Effects.length ≤ maxLen := hlen _ (by simp [zT, lens, zU])
 unfold maxLen at hl_a_Effects
 refine zz Tryz.func91 rfl ?_
 show zO Tryz.prog _ _ ⟨[(0, zag a), (1, .pptr [.slc c1.Abilities.length false (c1.Abilities.flatMap zj), .slc c1.Auras.length false (c1.Auras.flatMap zq), .slc c1.Foes.length false (c1.Foes.flatMap zw), i64 c1.Map.W, i64 c1.Map.H, .slc c1.Map.Wall.length false (encB c1.Map.Wall), i64 c1.Door.X, i64 c1.Door.Y, i64 c1.Lair.X, i64 c1.Lair.Y] 0)], [], 0, [], 7, 0⟩
 refine zd (zb rfl (zB (o := .box [_, _, _, _, _, _, _, _]) (nx' := 1) rfl rfl rfl trivial (za rfl rfl trivial (zc (ze (zd (zb rfl (zJ rfl rfl rfl (Nat.le_of_ble_eq_true rfl) (rfl) rfl (za (v := (.agg [_, _, _, _, _, _, _, _])) rfl rfl (Nat.le_of_ble_eq_true rfl) (zF rfl rfl rfl rfl (zkb c1 a) rfl rfl rfl (za rfl rfl trivial ?_)))))))))))
 refine zc (ze (zo ?_))
 have e2 : okA a c1 = (zcy c1 a) := by
  unfold okA
  try dsimp only
  all_goals rfl
 rw [e2]
 exact zp rfl ⟨trivial, trivial⟩ (rfl) rfl

def okF (f : GFoe) (c1 : zu) : Bool :=
  (foe9 c1 f)
theorem zrz (f : GFoe) (c1 : zu) (hF : Few9 c1) : Ok Tryz.prog 98 [zdO f, .pptr [.slc c1.Abilities.length false (c1.Abilities.flatMap zj), .slc c1.Auras.length false (c1.Auras.flatMap zq), .slc c1.Foes.length false (c1.Foes.flatMap zw), i64 c1.Map.W, i64 c1.Map.H, .slc c1.Map.Wall.length false (encB c1.Map.Wall), i64 c1.Door.X, i64 c1.Door.Y, i64 c1.Lair.X, i64 c1.Lair.Y] 0] [] (B (okF f c1)) [] [] := by
 refine Ok.len fun hlen => ?_
 have hl_f_Script : f.Script.length ≤ maxLen := hlen _ (by simp [zT, lens, zU])
 have hl_f_Hoard : f.Hoard.length ≤ maxLen := hlen _ (by simp [zT, lens, zU])
 unfold maxLen at hl_f_Script hl_f_Hoard
 refine zz Tryz.func98 rfl ?_
 show zO Tryz.prog _ _ ⟨[(0, zdO f), (1, .pptr [.slc c1.Abilities.length false (c1.Abilities.flatMap zj), .slc c1.Auras.length false (c1.Auras.flatMap zq), .slc c1.Foes.length false (c1.Foes.flatMap zw), i64 c1.Map.W, i64 c1.Map.H, .slc c1.Map.Wall.length false (encB c1.Map.Wall), i64 c1.Door.X, i64 c1.Door.Y, i64 c1.Lair.X, i64 c1.Lair.Y] 0)], [], 0, [], 7, 0⟩
 refine zd (zb rfl (zB (o := .box [_, _, _, _, _, _, _, _]) (nx' := 1) rfl rfl rfl trivial (za rfl rfl trivial (zc (ze (zd (zb rfl (zJ rfl rfl rfl (Nat.le_of_ble_eq_true rfl) (rfl) rfl (za (v := (.agg [_, _, _, _, _, _, _, _])) rfl rfl (Nat.le_of_ble_eq_true rfl) (zF rfl rfl rfl rfl (zqz c1 f (by first | assumption | exact zcO (by decide +kernel) | exact zeH (by assumption) | grind)) rfl rfl rfl (za rfl rfl trivial ?_)))))))))))
 refine zc (ze (zo ?_))
 have e2 : okF f c1 = (foe9 c1 f) := by
  unfold okF
  try dsimp only
  all_goals rfl
 rw [e2]
 exact zp rfl ⟨trivial, trivial⟩ (rfl) rfl

def zaH (id : zG → Int) (right : zG → Bool) : List zG → Nat → Int → Int → Int
  | [], k0, last0, bad0 => bad0
  | x0 :: l_, k0, last0, bad0 => if (k0 : Int) = 64 then k0 else if (id x0 : Int) ≤ last0 then k0 else if right x0 = true then zaH id right l_ (k0 + 1) (id x0) bad0 else k0
def zfQ (l : List zG) (id : zG → Int) (right : zG → Bool) : Int :=
  (let bad_0 := zaH id right l 0 0 (-1); bad_0)
theorem znB (l : List zG) (l_f : Bool) (id_c : FuncId) (id_k : List AV) (id : zG → Int) (id_h : Fn1 Tryz.prog id_c id_k (fun x_ : zG => [zag x_]) (fun x_ => I (id x_))) (right_c : FuncId) (right_k : List AV) (right : zG → Bool) (right_h : Fn1 Tryz.prog right_c right_k (fun x_ : zG => [zag x_]) (fun x_ => B (right x_))) : Ok Tryz.prog 89 [.pv (.slc l.length l_f (l.flatMap zj)), .fnc id_c id_k, .fnc right_c right_k] [] (I (zfQ l id right)) [] [] := by
 refine Ok.len fun hlen => ?_
 have hl_l : l.length ≤ maxLen := hlen _ (by simp [zT, lens, zU])
 unfold maxLen at hl_l
 refine zz Tryz.func89 rfl ?_
 show zO Tryz.prog _ _ ⟨[(0, .pv (.slc l.length l_f (l.flatMap zj))), (1, .fnc id_c id_k), (2, .fnc right_c right_k)], [], 0, [], 39, 0⟩
 refine zd (zb rfl (za rfl rfl trivial (zc (ze ?_))))
 refine zhr ?_
 refine zd (zb rfl (za rfl rfl trivial (za rfl rfl trivial (zc (ze (zd ?_))))))
 refine zhg ?_
 refine ze (zd (zd (zb rfl (za rfl rfl trivial (za rfl rfl trivial (za rfl rfl trivial (zc (ze ?_))))))))
 refine z6 (fun bad_0 : Int => (⟨[(8, I bad_0)], [], 0, [], 39, 0⟩ : St)) (fun w_ => zaH id right l 0 0 (-1) = w_) ?_ ?_
 ·refine zC ?_
  refine z9 (fun w_ : Nat × Int × Int => match w_ with | (k0, last0, bad0) => (⟨[(1, .fnc id_c id_k), (2, .fnc right_c right_k), (7, I last0), (8, I bad0), (11, .pv (.slc l.length l_f (l.flatMap zj))), (12, I l.length), (13, I k0)], [], 0, [], 39, 0⟩ : St)) (fun w_ : Nat × Int × Int => match w_ with | (k0, last0, bad0) => zaH id right (l.drop k0) k0 last0 bad0 = zaH id right l 0 0 (-1) ∧ k0 ≤ l.length) (fun w_ : Nat × Int × Int => match w_ with | (k0, last0, bad0) => l.length - k0) (0, 0, (-1)) (⟨rfl, Nat.zero_le _⟩) ?_ (fun w_ hh_ => ?_)
  ·exact (zH.ren [] (by decide +kernel) (by decide +kernel) rfl ⟨⟨congrArg some id_h.renN.symm, id_h.belN⟩, ⟨congrArg some right_h.renN.symm, right_h.belN⟩, ⟨rfl, rfl⟩, ⟨rfl, rfl⟩, ⟨rfl, rfl⟩, ⟨rfl, rfl⟩, ⟨rfl, rfl⟩, trivial⟩ trivial (by decide))
  obtain ⟨k0, last0, bad0⟩ := w_
  obtain ⟨hI0, hb0⟩ := hh_
  show zO Tryz.prog _ _ (⟨[(1, .fnc id_c id_k), (2, .fnc right_c right_k), (7, I last0), (8, I bad0), (11, .pv (.slc l.length l_f (l.flatMap zj))), (12, I l.length), (13, I k0)], [], 0, [], 39, 0⟩ : St)
  refine zd (zb rfl (zl rfl rfl rfl rfl rfl trivial (zc (ze (zd ?_)))))
  refine zy rfl (fun h2 => ?_) (fun h2 => ?_)
  ·have g2 : (k0 : Int) < l.length := of_decide_eq_true h2
   have hk0 : k0 < l.length := by omega
   obtain ⟨x0, hx0⟩ : ∃ z_, l[k0]? = some z_ := ⟨_, List.getElem?_eq_getElem hk0⟩
   refine zA (ze (zd (zC (zd (zb rfl (za rfl rfl trivial (zS (k := k0) rfl rfl rfl rfl hk0 (zaj (s := 8) (enc := zj) (fun _ => rfl) (by decide) hk0) rfl (zJ rfl rfl rfl (zap (s := 8) (enc := zj) (fun _ => rfl) hk0) (z2 (s := 8) (enc := zj) (fun _ => rfl) hx0) rfl (zB (o := .box [_, _, _, _, _, _, _, _]) (nx' := 1) rfl rfl rfl trivial (za rfl rfl trivial ?_))))))))))
   refine zx (H' := [(0, .box [_, _, _, _, _, _, _, _])]) rfl rfl rfl rfl rfl rfl (.inl rfl) rfl ?_
   refine zc (ze (zd (zd (zb rfl (za rfl rfl trivial (zl rfl rfl rfl rfl rfl trivial (za rfl rfl trivial ?_)))))))
   refine zK rfl (fun h5 => ?_) (fun h5 => ?_)
   ·have g5 : (k0 : Int) = 64 := zcF h5
    refine zh rfl h5 rfl (zh rfl h5 rfl (zh rfl h5 rfl (zh rfl h5 rfl (zh rfl h5 rfl (zr rfl h5 rfl rfl (za rfl rfl trivial (zf rfl rfl (zf rfl rfl (zf rfl rfl (zf rfl rfl (za rfl rfl trivial ?_)))))))))))
    refine zc (ze (zP rfl (zd (zb rfl (za rfl rfl trivial (za rfl rfl trivial (zc (ze (zV (zac ?_))))))))))
    refine zfa rfl ?_
    refine zac (zal (zak rfl ?_))
    have e6 : zaH id right l 0 0 (-1) = k0 := by
     rewrite [← hI0, zau hx0]
     rewrite [zaH]
     try dsimp only
     rewrite [if_pos g5]
     all_goals rfl
    exact zZ k0 e6 (zH.ren [] (by decide +kernel) (by decide +kernel) rfl ⟨⟨rfl, rfl⟩, trivial⟩ trivial (by decide))
   ·have g5 : ¬ ((k0 : Int) = 64) := zcL h5
    refine zg rfl h5 (za rfl rfl trivial (zg rfl h5 (za (v := (.agg [_, _, _, _, _, _, _, _])) rfl rfl (Nat.le_of_ble_eq_true rfl) (zg rfl h5 ?_))))
    refine zaJ id_h x0 rfl rfl rfl rfl rfl rfl ?_
    refine zg rfl h5 (za rfl rfl trivial (zg rfl h5 (zl rfl rfl rfl rfl rfl trivial (zt rfl h5 rfl rfl (za rfl rfl trivial ?_)))))
    refine zK rfl (fun h9 => ?_) (fun h9 => ?_)
    ·have g9 : (id x0 : Int) ≤ last0 := of_decide_eq_true h9
     refine zh rfl h9 rfl (zh rfl h9 rfl (zh rfl h9 rfl (zh rfl h9 rfl (zr rfl h9 rfl rfl (zc (ze (zP rfl (zd (zb rfl (za rfl rfl trivial (za rfl rfl trivial ?_)))))))))))
     refine zc (ze (zV (zac ?_)))
     refine zfa rfl ?_
     refine zac (zal (zak rfl ?_))
     have e10 : zaH id right l 0 0 (-1) = k0 := by
      rewrite [← hI0, zau hx0]
      rewrite [zaH]
      try dsimp only
      rewrite [if_neg g5, if_pos g9]
      all_goals rfl
     exact zZ k0 e10 (zH.ren [] (by decide +kernel) (by decide +kernel) rfl ⟨⟨rfl, rfl⟩, trivial⟩ trivial (by decide))
    ·have g9 : ¬ ((id x0 : Int) ≤ last0) := of_decide_eq_false h9
     refine zg rfl h9 (za rfl rfl trivial (zg rfl h9 (za (v := (.agg [_, _, _, _, _, _, _, _])) rfl rfl (Nat.le_of_ble_eq_true rfl) (zg rfl h9 ?_))))
     refine zaJ right_h x0 rfl rfl rfl rfl rfl rfl ?_
     refine zg rfl h9 (za rfl rfl trivial (zt rfl h9 rfl rfl (zc (ze ?_))))
     refine zy rfl (fun h12 => ?_) (fun h12 => ?_)
     ·have g12 : ¬ (right x0 = true) := zaw (zcl h12)
      refine zd (zb rfl (za rfl rfl trivial (za rfl rfl trivial (zc (ze (zV (zac ?_)))))))
      refine zfa rfl ?_
      refine zac (zal (zak rfl ?_))
      have e13 : zaH id right l 0 0 (-1) = k0 := by
       rewrite [← hI0, zau hx0]
       rewrite [zaH]
       try dsimp only
       rewrite [if_neg g5, if_neg g9, if_neg g12]
       all_goals rfl
      exact zZ k0 e13 (zH.ren [] (by decide +kernel) (by decide +kernel) rfl ⟨⟨rfl, rfl⟩, trivial⟩ trivial (by decide))
     ·have g12 : right x0 = true := (zcm h12)
      refine zA (ze (zb rfl (za rfl rfl trivial (za (v := (.agg [_, _, _, _, _, _, _, _])) rfl rfl (Nat.le_of_ble_eq_true rfl) ?_))))
      refine zaJ id_h x0 rfl rfl rfl rfl rfl rfl ?_
      refine za rfl rfl trivial (zc (zar (ze (zb rfl (zl rfl rfl rfl rfl rfl trivial (za rfl rfl trivial (zc ?_)))))))
      have e16 : zaH id right (l.drop k0) k0 last0 bad0 = zaH id right (l.drop (k0 + 1)) (k0 + 1) (id x0) bad0 := by
       rewrite [zau hx0]
       rewrite [zaH]
       try dsimp only
       rewrite [if_neg g5, if_neg g9, if_pos g12]
       all_goals rfl
      exact z5 (k0 + 1, (id x0), bad0) ⟨e16.symm.trans hI0, hk0⟩ (by show l.length - (k0 + 1) < l.length - k0; omega) (zH.ren [] (by decide +kernel) (by decide +kernel) rfl ⟨⟨congrArg some id_h.renN.symm, id_h.belN⟩, ⟨congrArg some right_h.renN.symm, right_h.belN⟩, ⟨rfl, rfl⟩, ⟨rfl, rfl⟩, ⟨rfl, rfl⟩, ⟨rfl, rfl⟩, ⟨congrArg (fun n => some (I n)) (zcv (k := k0) (by first | omega | (simp; omega))), rfl⟩, trivial⟩ trivial (by decide))
  ·have g2 : ¬ ((k0 : Int) < l.length) := of_decide_eq_false h2
   have hk0 : k0 = l.length := by omega
   refine zV (zac (zal (zak rfl ?_)))
   have e17 : zaH id right l 0 0 (-1) = bad0 := by
    rewrite [← hI0, hk0, List.drop_length]
    rewrite [zaH]
    try dsimp only
    all_goals rfl
   exact zZ bad0 e17 (zH.ren [] (by decide +kernel) (by decide +kernel) rfl ⟨⟨rfl, rfl⟩, trivial⟩ trivial (by decide))
 ·rintro bad_0 (hJ1 : zaH id right l 0 0 (-1) = bad_0)
  show seqK _ _ _ .normal (⟨[(8, I bad_0)], [], 0, [], 39, 0⟩ : St)
  refine ze (zd (zb rfl (za rfl rfl trivial (za rfl rfl trivial (zc (ze (zo ?_)))))))
  refine znh ?_
  have e19 : zfQ l id right = bad_0 := by
   unfold zfQ
   try dsimp only
   rewrite [hJ1]
   try dsimp only
   all_goals rfl
  rw [e19]
  exact zp rfl ⟨trivial, trivial⟩ (rfl) rfl

def zaD (id : zaB → Int) (right : zaB → Bool) : List zaB → Nat → Int → Int → Int
  | [], k0, last0, bad0 => bad0
  | x0 :: l_, k0, last0, bad0 => if (k0 : Int) = 64 then k0 else if (id x0 : Int) ≤ last0 then k0 else if right x0 = true then zaD id right l_ (k0 + 1) (id x0) bad0 else k0
def zfU (l : List zaB) (id : zaB → Int) (right : zaB → Bool) : Int :=
  (let bad_0 := zaD id right l 0 0 (-1); bad_0)
theorem zmL (l : List zaB) (l_f : Bool) (id_c : FuncId) (id_k : List AV) (id : zaB → Int) (id_h : Fn1 Tryz.prog id_c id_k (fun x_ : zaB => [zdG x_]) (fun x_ => I (id x_))) (right_c : FuncId) (right_k : List AV) (right : zaB → Bool) (right_h : Fn1 Tryz.prog right_c right_k (fun x_ : zaB => [zdG x_]) (fun x_ => B (right x_))) : Ok Tryz.prog 93 [.pv (.slc l.length l_f (l.flatMap zq)), .fnc id_c id_k, .fnc right_c right_k] [] (I (zfU l id right)) [] [] := by
 refine Ok.len fun hlen => ?_
 have hl_l : l.length ≤ maxLen := hlen _ (by simp [zT, lens, zU])
 unfold maxLen at hl_l
 refine zz Tryz.func93 rfl ?_
 show zO Tryz.prog _ _ ⟨[(0, .pv (.slc l.length l_f (l.flatMap zq))), (1, .fnc id_c id_k), (2, .fnc right_c right_k)], [], 0, [], 39, 0⟩
 refine zd (zb rfl (za rfl rfl trivial (zc (ze ?_))))
 refine zhr ?_
 refine zd (zb rfl (za rfl rfl trivial (za rfl rfl trivial (zc (ze (zd ?_))))))
 refine zhg ?_
 refine ze (zd (zd (zb rfl (za rfl rfl trivial (za rfl rfl trivial (za rfl rfl trivial (zc (ze ?_))))))))
 refine z6 (fun bad_0 : Int => (⟨[(8, I bad_0)], [], 0, [], 39, 0⟩ : St)) (fun w_ => zaD id right l 0 0 (-1) = w_) ?_ ?_
 ·refine zC ?_
  refine z9 (fun w_ : Nat × Int × Int => match w_ with | (k0, last0, bad0) => (⟨[(1, .fnc id_c id_k), (2, .fnc right_c right_k), (7, I last0), (8, I bad0), (11, .pv (.slc l.length l_f (l.flatMap zq))), (12, I l.length), (13, I k0)], [], 0, [], 39, 0⟩ : St)) (fun w_ : Nat × Int × Int => match w_ with | (k0, last0, bad0) => zaD id right (l.drop k0) k0 last0 bad0 = zaD id right l 0 0 (-1) ∧ k0 ≤ l.length) (fun w_ : Nat × Int × Int => match w_ with | (k0, last0, bad0) => l.length - k0) (0, 0, (-1)) (⟨rfl, Nat.zero_le _⟩) ?_ (fun w_ hh_ => ?_)
  ·exact (zH.ren [] (by decide +kernel) (by decide +kernel) rfl ⟨⟨congrArg some id_h.renN.symm, id_h.belN⟩, ⟨congrArg some right_h.renN.symm, right_h.belN⟩, ⟨rfl, rfl⟩, ⟨rfl, rfl⟩, ⟨rfl, rfl⟩, ⟨rfl, rfl⟩, ⟨rfl, rfl⟩, trivial⟩ trivial (by decide))
  obtain ⟨k0, last0, bad0⟩ := w_
  obtain ⟨hI0, hb0⟩ := hh_
  show zO Tryz.prog _ _ (⟨[(1, .fnc id_c id_k), (2, .fnc right_c right_k), (7, I last0), (8, I bad0), (11, .pv (.slc l.length l_f (l.flatMap zq))), (12, I l.length), (13, I k0)], [], 0, [], 39, 0⟩ : St)
  refine zd (zb rfl (zl rfl rfl rfl rfl rfl trivial (zc (ze (zd ?_)))))
  refine zy rfl (fun h2 => ?_) (fun h2 => ?_)
  ·have g2 : (k0 : Int) < l.length := of_decide_eq_true h2
   have hk0 : k0 < l.length := by omega
   obtain ⟨x0, hx0⟩ : ∃ z_, l[k0]? = some z_ := ⟨_, List.getElem?_eq_getElem hk0⟩
   refine zA (ze (zd (zC (zd (zb rfl (za rfl rfl trivial (zS (k := k0) rfl rfl rfl rfl hk0 (zaj (s := 7) (enc := zq) (fun _ => rfl) (by decide) hk0) rfl (zJ rfl rfl rfl (zap (s := 7) (enc := zq) (fun _ => rfl) hk0) (z2 (s := 7) (enc := zq) (fun _ => rfl) hx0) rfl (zB (o := .box [_, _, _, _, _, _, _]) (nx' := 1) rfl rfl rfl trivial (za rfl rfl trivial ?_))))))))))
   refine zx (H' := [(0, .box [_, _, _, _, _, _, _])]) rfl rfl rfl rfl rfl rfl (.inl rfl) rfl ?_
   refine zc (ze (zd (zd (zb rfl (za rfl rfl trivial (zl rfl rfl rfl rfl rfl trivial (za rfl rfl trivial ?_)))))))
   refine zK rfl (fun h5 => ?_) (fun h5 => ?_)
   ·have g5 : (k0 : Int) = 64 := zcF h5
    refine zh rfl h5 rfl (zh rfl h5 rfl (zh rfl h5 rfl (zh rfl h5 rfl (zh rfl h5 rfl (zr rfl h5 rfl rfl (za rfl rfl trivial (zf rfl rfl (zf rfl rfl (zf rfl rfl (zf rfl rfl (za rfl rfl trivial ?_)))))))))))
    refine zc (ze (zP rfl (zd (zb rfl (za rfl rfl trivial (za rfl rfl trivial (zc (ze (zV (zac ?_))))))))))
    refine zfa rfl ?_
    refine zac (zal (zak rfl ?_))
    have e6 : zaD id right l 0 0 (-1) = k0 := by
     rewrite [← hI0, zau hx0]
     rewrite [zaD]
     try dsimp only
     rewrite [if_pos g5]
     all_goals rfl
    exact zZ k0 e6 (zH.ren [] (by decide +kernel) (by decide +kernel) rfl ⟨⟨rfl, rfl⟩, trivial⟩ trivial (by decide))
   ·have g5 : ¬ ((k0 : Int) = 64) := zcL h5
    refine zg rfl h5 (za rfl rfl trivial (zg rfl h5 (za (v := (.agg [_, _, _, _, _, _, _])) rfl rfl (Nat.le_of_ble_eq_true rfl) (zg rfl h5 ?_))))
    refine zaJ id_h x0 rfl rfl rfl rfl rfl rfl ?_
    refine zg rfl h5 (za rfl rfl trivial (zg rfl h5 (zl rfl rfl rfl rfl rfl trivial (zt rfl h5 rfl rfl (za rfl rfl trivial ?_)))))
    refine zK rfl (fun h9 => ?_) (fun h9 => ?_)
    ·have g9 : (id x0 : Int) ≤ last0 := of_decide_eq_true h9
     refine zh rfl h9 rfl (zh rfl h9 rfl (zh rfl h9 rfl (zh rfl h9 rfl (zr rfl h9 rfl rfl (zc (ze (zP rfl (zd (zb rfl (za rfl rfl trivial (za rfl rfl trivial ?_)))))))))))
     refine zc (ze (zV (zac ?_)))
     refine zfa rfl ?_
     refine zac (zal (zak rfl ?_))
     have e10 : zaD id right l 0 0 (-1) = k0 := by
      rewrite [← hI0, zau hx0]
      rewrite [zaD]
      try dsimp only
      rewrite [if_neg g5, if_pos g9]
      all_goals rfl
     exact zZ k0 e10 (zH.ren [] (by decide +kernel) (by decide +kernel) rfl ⟨⟨rfl, rfl⟩, trivial⟩ trivial (by decide))
    ·have g9 : ¬ ((id x0 : Int) ≤ last0) := of_decide_eq_false h9
     refine zg rfl h9 (za rfl rfl trivial (zg rfl h9 (za (v := (.agg [_, _, _, _, _, _, _])) rfl rfl (Nat.le_of_ble_eq_true rfl) (zg rfl h9 ?_))))
     refine zaJ right_h x0 rfl rfl rfl rfl rfl rfl ?_
     refine zg rfl h9 (za rfl rfl trivial (zt rfl h9 rfl rfl (zc (ze ?_))))
     refine zy rfl (fun h12 => ?_) (fun h12 => ?_)
     ·have g12 : ¬ (right x0 = true) := zaw (zcl h12)
      refine zd (zb rfl (za rfl rfl trivial (za rfl rfl trivial (zc (ze (zV (zac ?_)))))))
      refine zfa rfl ?_
      refine zac (zal (zak rfl ?_))
      have e13 : zaD id right l 0 0 (-1) = k0 := by
       rewrite [← hI0, zau hx0]
       rewrite [zaD]
       try dsimp only
       rewrite [if_neg g5, if_neg g9, if_neg g12]
       all_goals rfl
      exact zZ k0 e13 (zH.ren [] (by decide +kernel) (by decide +kernel) rfl ⟨⟨rfl, rfl⟩, trivial⟩ trivial (by decide))
     ·have g12 : right x0 = true := (zcm h12)
      refine zA (ze (zb rfl (za rfl rfl trivial (za (v := (.agg [_, _, _, _, _, _, _])) rfl rfl (Nat.le_of_ble_eq_true rfl) ?_))))
      refine zaJ id_h x0 rfl rfl rfl rfl rfl rfl ?_
      refine za rfl rfl trivial (zc (zar (ze (zb rfl (zl rfl rfl rfl rfl rfl trivial (za rfl rfl trivial (zc ?_)))))))
      have e16 : zaD id right (l.drop k0) k0 last0 bad0 = zaD id right (l.drop (k0 + 1)) (k0 + 1) (id x0) bad0 := by
       rewrite [zau hx0]
       rewrite [zaD]
       try dsimp only
       rewrite [if_neg g5, if_neg g9, if_pos g12]
       all_goals rfl
      exact z5 (k0 + 1, (id x0), bad0) ⟨e16.symm.trans hI0, hk0⟩ (by show l.length - (k0 + 1) < l.length - k0; omega) (zH.ren [] (by decide +kernel) (by decide +kernel) rfl ⟨⟨congrArg some id_h.renN.symm, id_h.belN⟩, ⟨congrArg some right_h.renN.symm, right_h.belN⟩, ⟨rfl, rfl⟩, ⟨rfl, rfl⟩, ⟨rfl, rfl⟩, ⟨rfl, rfl⟩, ⟨congrArg (fun n => some (I n)) (zcv (k := k0) (by first | omega | (simp; omega))), rfl⟩, trivial⟩ trivial (by decide))
  ·have g2 : ¬ ((k0 : Int) < l.length) := of_decide_eq_false h2
   have hk0 : k0 = l.length := by omega
   refine zV (zac (zal (zak rfl ?_)))
   have e17 : zaD id right l 0 0 (-1) = bad0 := by
    rewrite [← hI0, hk0, List.drop_length]
    rewrite [zaD]
    try dsimp only
    all_goals rfl
   exact zZ bad0 e17 (zH.ren [] (by decide +kernel) (by decide +kernel) rfl ⟨⟨rfl, rfl⟩, trivial⟩ trivial (by decide))
 ·rintro bad_0 (hJ1 : zaD id right l 0 0 (-1) = bad_0)
  show seqK _ _ _ .normal (⟨[(8, I bad_0)], [], 0, [], 39, 0⟩ : St)
  refine ze (zd (zb rfl (za rfl rfl trivial (za rfl rfl trivial (zc (ze (zo ?_)))))))
  refine znh ?_
  have e19 : zfU l id right = bad_0 := by
   unfold zfU
   try dsimp only
   rewrite [hJ1]
   try dsimp only
   all_goals rfl
  rw [e19]
  exact zp rfl ⟨trivial, trivial⟩ (rfl) rfl

def zaG (id : GFoe → Int) (right : GFoe → Bool) : List GFoe → Nat → Int → Int → Int
  | [], k0, last0, bad0 => bad0
  | x0 :: l_, k0, last0, bad0 => if (k0 : Int) = 64 then k0 else if (id x0 : Int) ≤ last0 then k0 else if right x0 = true then zaG id right l_ (k0 + 1) (id x0) bad0 else k0
def zfw (l : List GFoe) (id : GFoe → Int) (right : GFoe → Bool) : Int :=
  (let bad_0 := zaG id right l 0 0 (-1); bad_0)
theorem zmD (l : List GFoe) (l_f : Bool) (id_c : FuncId) (id_k : List AV) (id : GFoe → Int) (id_h : Fn1 Tryz.prog id_c id_k (fun x_ : GFoe => [zdO x_]) (fun x_ => I (id x_))) (right_c : FuncId) (right_k : List AV) (right : GFoe → Bool) (right_h : Fn1 Tryz.prog right_c right_k (fun x_ : GFoe => [zdO x_]) (fun x_ => B (right x_))) : Ok Tryz.prog 96 [.pv (.slc l.length l_f (l.flatMap zw)), .fnc id_c id_k, .fnc right_c right_k] [] (I (zfw l id right)) [] [] := by
 refine Ok.len fun hlen => ?_
 have hl_l : l.length ≤ maxLen := hlen _ (by simp [zT, lens, zU])
 unfold maxLen at hl_l
 refine zz Tryz.func96 rfl ?_
 show zO Tryz.prog _ _ ⟨[(0, .pv (.slc l.length l_f (l.flatMap zw))), (1, .fnc id_c id_k), (2, .fnc right_c right_k)], [], 0, [], 39, 0⟩
 refine zd (zb rfl (za rfl rfl trivial (zc (ze ?_))))
 refine zhr ?_
 refine zd (zb rfl (za rfl rfl trivial (za rfl rfl trivial (zc (ze (zd ?_))))))
 refine zhg ?_
 refine ze (zd (zd (zb rfl (za rfl rfl trivial (za rfl rfl trivial (za rfl rfl trivial (zc (ze ?_))))))))
 refine z6 (fun bad_0 : Int => (⟨[(8, I bad_0)], [], 0, [], 39, 0⟩ : St)) (fun w_ => zaG id right l 0 0 (-1) = w_) ?_ ?_
 ·refine zC ?_
  refine z9 (fun w_ : Nat × Int × Int => match w_ with | (k0, last0, bad0) => (⟨[(1, .fnc id_c id_k), (2, .fnc right_c right_k), (7, I last0), (8, I bad0), (11, .pv (.slc l.length l_f (l.flatMap zw))), (12, I l.length), (13, I k0)], [], 0, [], 39, 0⟩ : St)) (fun w_ : Nat × Int × Int => match w_ with | (k0, last0, bad0) => zaG id right (l.drop k0) k0 last0 bad0 = zaG id right l 0 0 (-1) ∧ k0 ≤ l.length) (fun w_ : Nat × Int × Int => match w_ with | (k0, last0, bad0) => l.length - k0) (0, 0, (-1)) (⟨rfl, Nat.zero_le _⟩) ?_ (fun w_ hh_ => ?_)
  ·exact (zH.ren [] (by decide +kernel) (by decide +kernel) rfl ⟨⟨congrArg some id_h.renN.symm, id_h.belN⟩, ⟨congrArg some right_h.renN.symm, right_h.belN⟩, ⟨rfl, rfl⟩, ⟨rfl, rfl⟩, ⟨rfl, rfl⟩, ⟨rfl, rfl⟩, ⟨rfl, rfl⟩, trivial⟩ trivial (by decide))
  obtain ⟨k0, last0, bad0⟩ := w_
  obtain ⟨hI0, hb0⟩ := hh_
  show zO Tryz.prog _ _ (⟨[(1, .fnc id_c id_k), (2, .fnc right_c right_k), (7, I last0), (8, I bad0), (11, .pv (.slc l.length l_f (l.flatMap zw))), (12, I l.length), (13, I k0)], [], 0, [], 39, 0⟩ : St)
  refine zd (zb rfl (zl rfl rfl rfl rfl rfl trivial (zc (ze (zd ?_)))))
  refine zy rfl (fun h2 => ?_) (fun h2 => ?_)
  ·have g2 : (k0 : Int) < l.length := of_decide_eq_true h2
   have hk0 : k0 < l.length := by omega
   obtain ⟨x0, hx0⟩ : ∃ z_, l[k0]? = some z_ := ⟨_, List.getElem?_eq_getElem hk0⟩
   refine zA (ze (zd (zC (zd (zb rfl (za rfl rfl trivial (zS (k := k0) rfl rfl rfl rfl hk0 (zaj (s := 8) (enc := zw) (fun _ => rfl) (by decide) hk0) rfl (zJ rfl rfl rfl (zap (s := 8) (enc := zw) (fun _ => rfl) hk0) (z2 (s := 8) (enc := zw) (fun _ => rfl) hx0) rfl (zB (o := .box [_, _, _, _, _, _, _, _]) (nx' := 1) rfl rfl rfl trivial (za rfl rfl trivial ?_))))))))))
   refine zx (H' := [(0, .box [_, _, _, _, _, _, _, _])]) rfl rfl rfl rfl rfl rfl (.inl rfl) rfl ?_
   refine zc (ze (zd (zd (zb rfl (za rfl rfl trivial (zl rfl rfl rfl rfl rfl trivial (za rfl rfl trivial ?_)))))))
   refine zK rfl (fun h5 => ?_) (fun h5 => ?_)
   ·have g5 : (k0 : Int) = 64 := zcF h5
    refine zh rfl h5 rfl (zh rfl h5 rfl (zh rfl h5 rfl (zh rfl h5 rfl (zh rfl h5 rfl (zr rfl h5 rfl rfl (za rfl rfl trivial (zf rfl rfl (zf rfl rfl (zf rfl rfl (zf rfl rfl (za rfl rfl trivial ?_)))))))))))
    refine zc (ze (zP rfl (zd (zb rfl (za rfl rfl trivial (za rfl rfl trivial (zc (ze (zV (zac ?_))))))))))
    refine zfa rfl ?_
    refine zac (zal (zak rfl ?_))
    have e6 : zaG id right l 0 0 (-1) = k0 := by
     rewrite [← hI0, zau hx0]
     rewrite [zaG]
     try dsimp only
     rewrite [if_pos g5]
     all_goals rfl
    exact zZ k0 e6 (zH.ren [] (by decide +kernel) (by decide +kernel) rfl ⟨⟨rfl, rfl⟩, trivial⟩ trivial (by decide))
   ·have g5 : ¬ ((k0 : Int) = 64) := zcL h5
    refine zg rfl h5 (za rfl rfl trivial (zg rfl h5 (za (v := (.agg [_, _, _, _, _, _, _, _])) rfl rfl (Nat.le_of_ble_eq_true rfl) (zg rfl h5 ?_))))
    refine zaJ id_h x0 rfl rfl rfl rfl rfl rfl ?_
    refine zg rfl h5 (za rfl rfl trivial (zg rfl h5 (zl rfl rfl rfl rfl rfl trivial (zt rfl h5 rfl rfl (za rfl rfl trivial ?_)))))
    refine zK rfl (fun h9 => ?_) (fun h9 => ?_)
    ·have g9 : (id x0 : Int) ≤ last0 := of_decide_eq_true h9
     refine zh rfl h9 rfl (zh rfl h9 rfl (zh rfl h9 rfl (zh rfl h9 rfl (zr rfl h9 rfl rfl (zc (ze (zP rfl (zd (zb rfl (za rfl rfl trivial (za rfl rfl trivial ?_)))))))))))
     refine zc (ze (zV (zac ?_)))
     refine zfa rfl ?_
     refine zac (zal (zak rfl ?_))
     have e10 : zaG id right l 0 0 (-1) = k0 := by
      rewrite [← hI0, zau hx0]
      rewrite [zaG]
      try dsimp only
      rewrite [if_neg g5, if_pos g9]
      all_goals rfl
     exact zZ k0 e10 (zH.ren [] (by decide +kernel) (by decide +kernel) rfl ⟨⟨rfl, rfl⟩, trivial⟩ trivial (by decide))
    ·have g9 : ¬ ((id x0 : Int) ≤ last0) := of_decide_eq_false h9
     refine zg rfl h9 (za rfl rfl trivial (zg rfl h9 (za (v := (.agg [_, _, _, _, _, _, _, _])) rfl rfl (Nat.le_of_ble_eq_true rfl) (zg rfl h9 ?_))))
     refine zaJ right_h x0 rfl rfl rfl rfl rfl rfl ?_
     refine zg rfl h9 (za rfl rfl trivial (zt rfl h9 rfl rfl (zc (ze ?_))))
     refine zy rfl (fun h12 => ?_) (fun h12 => ?_)
     ·have g12 : ¬ (right x0 = true) := zaw (zcl h12)
      refine zd (zb rfl (za rfl rfl trivial (za rfl rfl trivial (zc (ze (zV (zac ?_)))))))
      refine zfa rfl ?_
      refine zac (zal (zak rfl ?_))
      have e13 : zaG id right l 0 0 (-1) = k0 := by
       rewrite [← hI0, zau hx0]
       rewrite [zaG]
       try dsimp only
       rewrite [if_neg g5, if_neg g9, if_neg g12]
       all_goals rfl
      exact zZ k0 e13 (zH.ren [] (by decide +kernel) (by decide +kernel) rfl ⟨⟨rfl, rfl⟩, trivial⟩ trivial (by decide))
     ·have g12 : right x0 = true := (zcm h12)
      refine zA (ze (zb rfl (za rfl rfl trivial (za (v := (.agg [_, _, _, _, _, _, _, _])) rfl rfl (Nat.le_of_ble_eq_true rfl) ?_))))
      refine zaJ id_h x0 rfl rfl rfl rfl rfl rfl ?_
      refine za rfl rfl trivial (zc (zar (ze (zb rfl (zl rfl rfl rfl rfl rfl trivial (za rfl rfl trivial (zc ?_)))))))
      have e16 : zaG id right (l.drop k0) k0 last0 bad0 = zaG id right (l.drop (k0 + 1)) (k0 + 1) (id x0) bad0 := by
       rewrite [zau hx0]
       rewrite [zaG]
       try dsimp only
       rewrite [if_neg g5, if_neg g9, if_pos g12]
       all_goals rfl
      exact z5 (k0 + 1, (id x0), bad0) ⟨e16.symm.trans hI0, hk0⟩ (by show l.length - (k0 + 1) < l.length - k0; omega) (zH.ren [] (by decide +kernel) (by decide +kernel) rfl ⟨⟨congrArg some id_h.renN.symm, id_h.belN⟩, ⟨congrArg some right_h.renN.symm, right_h.belN⟩, ⟨rfl, rfl⟩, ⟨rfl, rfl⟩, ⟨rfl, rfl⟩, ⟨rfl, rfl⟩, ⟨congrArg (fun n => some (I n)) (zcv (k := k0) (by first | omega | (simp; omega))), rfl⟩, trivial⟩ trivial (by decide))
  ·have g2 : ¬ ((k0 : Int) < l.length) := of_decide_eq_false h2
   have hk0 : k0 = l.length := by omega
   refine zV (zac (zal (zak rfl ?_)))
   have e17 : zaG id right l 0 0 (-1) = bad0 := by
    rewrite [← hI0, hk0, List.drop_length]
    rewrite [zaG]
    try dsimp only
    all_goals rfl
   exact zZ bad0 e17 (zH.ren [] (by decide +kernel) (by decide +kernel) rfl ⟨⟨rfl, rfl⟩, trivial⟩ trivial (by decide))
 ·rintro bad_0 (hJ1 : zaG id right l 0 0 (-1) = bad_0)
  show seqK _ _ _ .normal (⟨[(8, I bad_0)], [], 0, [], 39, 0⟩ : St)
  refine ze (zd (zb rfl (za rfl rfl trivial (za rfl rfl trivial (zc (ze (zo ?_)))))))
  refine znh ?_
  have e19 : zfw l id right = bad_0 := by
   unfold zfw
   try dsimp only
   rewrite [hJ1]
   try dsimp only
   all_goals rfl
  rw [e19]
  exact zp rfl ⟨trivial, trivial⟩ (rfl) rfl

structure zfB where
  (Part : Int)
  (At : Int)
  deriving DecidableEq, Inhabited
abbrev zrB (x : zfB) : AV := .agg [I x.Part, I x.At]
def zdb (c : zu) : zfB × Bool :=
  if (zfQ c.Abilities (fun x_ => idA x_) (fun x_ => okA x_ c) : Int) ≥ 0 then ((⟨1, (zfQ c.Abilities (fun x_ => idA x_) (fun x_ => okA x_ c))⟩ : zfB), false) else if (zfU c.Auras (fun x_ => idU x_) (fun x_ => zei x_) : Int) ≥ 0 then ((⟨2, (zfU c.Auras (fun x_ => idU x_) (fun x_ => zei x_))⟩ : zfB), false) else if (zfw c.Foes (fun x_ => idF x_) (fun x_ => okF x_ c) : Int) ≥ 0 then ((⟨3, (zfw c.Foes (fun x_ => idF x_) (fun x_ => okF x_ c))⟩ : zfB), false) else if zby c.Map c.Door = true then ((⟨4, 0⟩ : zfB), false) else if zby c.Map c.Lair = true then ((⟨4, 0⟩ : zfB), false) else ((⟨0, 0⟩ : zfB), true)
theorem znp (c : zu) (hF : Few9 c) : Ok Tryz.prog 56 [z1 c] [] (.tup [zrB (zdb c).1, B (zdb c).2]) [] [] := by
 refine Ok.len fun hlen => ?_
 have hl_c_Abilities : c.Abilities.length ≤ maxLen := hlen _ (by simp [zT, lens, zU])
 have hl_c_Auras : c.Auras.length ≤ maxLen := hlen _ (by simp [zT, lens, zU])
 have hl_c_Foes : c.Foes.length ≤ maxLen := hlen _ (by simp [zT, lens, zU])
 have hl_c_Map_Wall : c.Map.Wall.length ≤ maxLen := hlen _ (by simp [zT, lens, zU])
 unfold maxLen at hl_c_Abilities hl_c_Auras hl_c_Foes hl_c_Map_Wall
 refine zz Tryz.func56 rfl ?_
 show zO Tryz.prog _ _ ⟨[(0, z1 c)], [], 0, [], 42, 0⟩
 refine zd (zb rfl (zB (o := .box [_, _, _, _, _, _, _, _, _, _]) (nx' := 1) rfl rfl rfl trivial (zB (o := .box [_, _]) (nx' := 2) rfl rfl rfl trivial (za rfl rfl trivial (zc (ze (zd (zb rfl (za rfl rfl (by decide) (za rfl rfl trivial (za rfl rfl trivial ?_)))))))))))
 refine zaX (Hin := [.box [.pv _, .pv _, .pv _, .pv _, .pv _, .pv _, .pv _, .pv _, .pv _, .pv _]]) (H' := [(1, _), (0, _)]) (nx' := 2) [0] rfl rfl rfl rfl rfl rfl rfl rfl rfl (by (repeat' apply And.intro) <;> first | trivial | rfl | exact zi (fun _ => rfl) _ | exact zk _ | exact zn _ | exact zm _ | exact Nat.le_of_ble_eq_true rfl | assumption) (znB c.Abilities false 90 [] (fun x_ => idA x_) ⟨rfl, rfl, fun _ => rfl, fun _ => rfl, fun x_ => zqn x_⟩ 91 [.pptr [(.slc c.Abilities.length false (c.Abilities.flatMap zj)), (.slc c.Auras.length false (c.Auras.flatMap zq)), (.slc c.Foes.length false (c.Foes.flatMap zw)), i64 c.Map.W, i64 c.Map.H, (.slc c.Map.Wall.length false (encB c.Map.Wall)), i64 c.Door.X, i64 c.Door.Y, i64 c.Lair.X, i64 c.Lair.Y] 0] (fun x_ => okA x_ c) ⟨rfl, rfl, fun _ => rfl, fun _ => rfl, fun x_ => zrr x_ c⟩) rfl (by decide) rfl rfl trivial rfl rfl rfl rfl ?_
 refine za rfl rfl trivial (zc (ze (zd (zd (zb rfl (za rfl rfl trivial (zl rfl rfl rfl rfl rfl trivial (zc (ze ?_)))))))))
 refine zy rfl (fun h2 => ?_) (fun h2 => ?_)
 ·have g2 : (zfQ c.Abilities (fun x_ => idA x_) (fun x_ => okA x_ c) : Int) ≥ 0 := of_decide_eq_true h2
  refine zd (zb rfl (za rfl rfl trivial (za (v := (.agg [_, _])) rfl rfl trivial ?_)))
  refine zx (H' := [(1, .box [_, _]), (0, _)]) rfl rfl rfl rfl rfl rfl (.inl rfl) rfl ?_
  refine za rfl rfl trivial (zc (ze (zo (zI ?_))))
  have e3 : zdb c = ((⟨1, (zfQ c.Abilities (fun x_ => idA x_) (fun x_ => okA x_ c))⟩ : zfB), false) := by
   unfold zdb
   try dsimp only
   rewrite [if_pos g2]
   all_goals rfl
  rw [e3]
  exact zp rfl ⟨Nat.le_of_ble_eq_true rfl, trivial, trivial⟩ (rfl) rfl
 ·have g2 : ¬ ((zfQ c.Abilities (fun x_ => idA x_) (fun x_ => okA x_ c) : Int) ≥ 0) := of_decide_eq_false h2
  refine zA (ze (zd (zd (zb rfl (za rfl rfl (by decide) (za rfl rfl trivial (zF rfl rfl rfl rfl (zmL c.Auras false 94 [] (fun x_ => idU x_) ⟨rfl, rfl, fun _ => rfl, fun _ => rfl, fun x_ => zqk x_⟩ 95 [] (fun x_ => zei x_) ⟨rfl, rfl, fun _ => rfl, fun _ => rfl, fun x_ => zo9 x_⟩) rfl rfl rfl (za rfl rfl trivial (zc (ze (zd ?_)))))))))))
  refine zb rfl (za rfl rfl trivial (zl rfl rfl rfl rfl rfl trivial (zc (ze ?_))))
  refine zy rfl (fun h5 => ?_) (fun h5 => ?_)
  ·have g5 : (zfU c.Auras (fun x_ => idU x_) (fun x_ => zei x_) : Int) ≥ 0 := of_decide_eq_true h5
   refine zd (zb rfl (za rfl rfl trivial (za (v := (.agg [_, _])) rfl rfl trivial ?_)))
   refine zx (H' := [(1, .box [_, _]), (0, _)]) rfl rfl rfl rfl rfl rfl (.inl rfl) rfl ?_
   refine za rfl rfl trivial (zc (ze (zo (zI ?_))))
   have e6 : zdb c = ((⟨2, (zfU c.Auras (fun x_ => idU x_) (fun x_ => zei x_))⟩ : zfB), false) := by
    unfold zdb
    try dsimp only
    rewrite [if_neg g2, if_pos g5]
    all_goals rfl
   rw [e6]
   exact zp rfl ⟨Nat.le_of_ble_eq_true rfl, trivial, trivial⟩ (rfl) rfl
  ·have g5 : ¬ ((zfU c.Auras (fun x_ => idU x_) (fun x_ => zei x_) : Int) ≥ 0) := of_decide_eq_false h5
   refine zA (ze (zd (zb rfl (za rfl rfl (by decide) (za rfl rfl trivial (za rfl rfl trivial ?_))))))
   refine zaX (Hin := [.box [.pv _, .pv _, .pv _, .pv _, .pv _, .pv _, .pv _, .pv _, .pv _, .pv _]]) (H' := [(1, _), (0, _)]) (nx' := 2) [0] rfl rfl rfl rfl rfl rfl rfl rfl rfl (by (repeat' apply And.intro) <;> first | trivial | rfl | exact zi (fun _ => rfl) _ | exact zk _ | exact zn _ | exact zm _ | exact Nat.le_of_ble_eq_true rfl | assumption) (zmD c.Foes false 97 [] (fun x_ => idF x_) ⟨rfl, rfl, fun _ => rfl, fun _ => rfl, fun x_ => zrk x_⟩ 98 [.pptr [(.slc c.Abilities.length false (c.Abilities.flatMap zj)), (.slc c.Auras.length false (c.Auras.flatMap zq)), (.slc c.Foes.length false (c.Foes.flatMap zw)), i64 c.Map.W, i64 c.Map.H, (.slc c.Map.Wall.length false (encB c.Map.Wall)), i64 c.Door.X, i64 c.Door.Y, i64 c.Lair.X, i64 c.Lair.Y] 0] (fun x_ => okF x_ c) ⟨rfl, rfl, fun _ => rfl, fun _ => rfl, fun x_ => zrz x_ c (by first | assumption | exact zcO (by decide +kernel) | exact zeH (by assumption) | grind)⟩) rfl (by decide) rfl rfl trivial rfl rfl rfl rfl ?_
   refine za rfl rfl trivial (zc (ze (zd (zd (zb rfl (za rfl rfl trivial (zl rfl rfl rfl rfl rfl trivial (zc (ze ?_)))))))))
   refine zy rfl (fun h8 => ?_) (fun h8 => ?_)
   ·have g8 : (zfw c.Foes (fun x_ => idF x_) (fun x_ => okF x_ c) : Int) ≥ 0 := of_decide_eq_true h8
    refine zd (zb rfl (za rfl rfl trivial (za (v := (.agg [_, _])) rfl rfl trivial ?_)))
    refine zx (H' := [(1, .box [_, _]), (0, _)]) rfl rfl rfl rfl rfl rfl (.inl rfl) rfl ?_
    refine za rfl rfl trivial (zc (ze (zo (zI ?_))))
    have e9 : zdb c = ((⟨3, (zfw c.Foes (fun x_ => idF x_) (fun x_ => okF x_ c))⟩ : zfB), false) := by
     unfold zdb
     try dsimp only
     rewrite [if_neg g2, if_neg g5, if_pos g8]
     all_goals rfl
    rw [e9]
    exact zp rfl ⟨Nat.le_of_ble_eq_true rfl, trivial, trivial⟩ (rfl) rfl
   ·have g8 : ¬ ((zfw c.Foes (fun x_ => idF x_) (fun x_ => okF x_ c) : Int) ≥ 0) := of_decide_eq_false h8
    refine zA (ze (zd (zd (zb rfl (za rfl rfl (by decide) (za (v := (.agg [_, _, _])) rfl rfl (Nat.le_of_ble_eq_true rfl) (za rfl rfl (by decide) (za (v := (.agg [_, _])) rfl rfl (Nat.le_of_ble_eq_true rfl) (zF rfl rfl rfl rfl (zhu c.Map c.Door) rfl rfl rfl (za rfl rfl trivial ?_))))))))))
    refine zK rfl (fun h11 => ?_) (fun h11 => ?_)
    ·have g11 : zby c.Map c.Door = true := h11
     refine zh rfl h11 rfl (zh rfl h11 rfl (zh rfl h11 rfl (zh rfl h11 rfl (zh rfl h11 rfl (zr rfl h11 rfl rfl (zc (ze (zP rfl (zd (zb rfl (za (v := (.agg [_, _])) rfl rfl trivial ?_)))))))))))
     refine zx (H' := [(1, .box [_, _]), (0, _)]) rfl rfl rfl rfl rfl rfl (.inl rfl) rfl ?_
     refine za rfl rfl trivial (zc (ze (zo (zI ?_))))
     have e12 : zdb c = ((⟨4, 0⟩ : zfB), false) := by
      unfold zdb
      try dsimp only
      rewrite [if_neg g2, if_neg g5, if_neg g8, if_pos g11]
      all_goals rfl
     rw [e12]
     exact zp rfl ⟨Nat.le_of_ble_eq_true rfl, trivial, trivial⟩ (rfl) rfl
    ·have g11 : ¬ (zby c.Map c.Door = true) := zaw h11
     refine zg rfl h11 (za rfl rfl (by decide) (zg rfl h11 (za (v := (.agg [_, _, _])) rfl rfl (Nat.le_of_ble_eq_true rfl) (zg rfl h11 (za rfl rfl (by decide) (zg rfl h11 (za (v := (.agg [_, _])) rfl rfl (Nat.le_of_ble_eq_true rfl) (zg rfl h11 (zF rfl rfl rfl rfl (zhu c.Map c.Lair) rfl rfl rfl (zt rfl h11 rfl rfl (zc ?_)))))))))))
     refine ze ?_
     refine zy rfl (fun h14 => ?_) (fun h14 => ?_)
     ·have g14 : zby c.Map c.Lair = true := h14
      refine zd (zb rfl (za (v := (.agg [_, _])) rfl rfl trivial ?_))
      refine zx (H' := [(1, .box [_, _]), (0, _)]) rfl rfl rfl rfl rfl rfl (.inl rfl) rfl ?_
      refine za rfl rfl trivial (zc (ze (zo (zI ?_))))
      have e15 : zdb c = ((⟨4, 0⟩ : zfB), false) := by
       unfold zdb
       try dsimp only
       rewrite [if_neg g2, if_neg g5, if_neg g8, if_neg g11, if_pos g14]
       all_goals rfl
      rw [e15]
      exact zp rfl ⟨Nat.le_of_ble_eq_true rfl, trivial, trivial⟩ (rfl) rfl
     ·have g14 : ¬ (zby c.Map c.Lair = true) := zaw h14
      refine zA (ze (zd (zb rfl (za (v := (.agg [_, _])) rfl rfl trivial ?_))))
      refine zx (H' := [(1, .box [_, _]), (0, _)]) rfl rfl rfl rfl rfl rfl (.inl rfl) rfl ?_
      refine za rfl rfl trivial (zc (ze (zo ?_)))
      have e16 : zdb c = ((⟨0, 0⟩ : zfB), true) := by
       unfold zdb
       try dsimp only
       rewrite [if_neg g2, if_neg g5, if_neg g8, if_neg g11, if_neg g14]
       all_goals rfl
      rw [e16]
      exact zp rfl ⟨Nat.le_of_ble_eq_true rfl, trivial, trivial⟩ (rfl) rfl

def za5 (c : zu) : Bool :=
  (zdb c).2
theorem zfZ (c : zu) (hF : Few9 c) : Ok Tryz.prog 20 [z1 c] [] (B (za5 c)) [] [] := by
 refine Ok.len fun hlen => ?_
 have hl_c_Abilities : c.Abilities.length ≤ maxLen := hlen _ (by simp [zT, lens, zU])
 have hl_c_Auras : c.Auras.length ≤ maxLen := hlen _ (by simp [zT, lens, zU])
 have hl_c_Foes : c.Foes.length ≤ maxLen := hlen _ (by simp [zT, lens, zU])
 have hl_c_Map_Wall : c.Map.Wall.length ≤ maxLen := hlen _ (by simp [zT, lens, zU])
 unfold maxLen at hl_c_Abilities hl_c_Auras hl_c_Foes hl_c_Map_Wall
 refine zz Tryz.func20 rfl ?_
 show zO Tryz.prog _ _ ⟨[(0, z1 c)], [], 0, [], 11, 0⟩
 refine zd (zb rfl (zB (o := .box [_, _, _, _, _, _, _, _, _, _]) (nx' := 1) rfl rfl rfl trivial (za rfl rfl trivial (zc (ze (zd (zb rfl (za (v := (.agg [_, _, _, _, _, _, _, _, _, _])) rfl rfl (Nat.le_of_ble_eq_true rfl) (zF rfl rfl rfl rfl (znp c (by first | assumption | exact zcO (by decide +kernel) | exact zeH (by assumption) | grind)) rfl rfl rfl (za rfl rfl trivial (za rfl rfl trivial ?_)))))))))))
 refine za rfl rfl trivial (zB (o := .box [_, _]) (nx' := 2) rfl rfl rfl trivial ?_)
 refine zx (H' := [(1, .box [_, _]), (0, _)]) rfl rfl rfl rfl rfl rfl (.inl rfl) rfl ?_
 refine za rfl rfl trivial (zc (ze (zd (zb rfl (za rfl rfl trivial (za rfl rfl trivial (zc (ze (zo ?_)))))))))
 have e2 : za5 c = (zdb c).2 := by
  unfold za5
  try dsimp only
  all_goals rfl
 rw [e2]
 exact zp rfl ⟨trivial, trivial⟩ (rfl) rfl

def zex (a : zG) (b : zG) : Bool :=
  if a.Effects = b.Effects then (if ((a.Id == b.Id) && ((a.Cast == b.Cast) && ((a.Cool == b.Cool) && ((a.Charges == b.Charges) && ((a.Range == b.Range) && ((a.Cost == b.Cost) && true)))))) = true then (a.Sight == b.Sight) else false) else false
theorem zoD (a : zG) (b : zG) : Ok Tryz.prog 60 [zag a, zag b] [] (B (zex a b)) [] [] := by
 refine Ok.len fun hlen => ?_
 have hl_a_Effects : a.Effects.length ≤ maxLen := hlen _ (by simp [zT, lens, zU])
 have hl_b_Effects : b.Effects.length ≤ maxLen := hlen _ (by simp [zT, lens, zU])
 unfold maxLen at hl_a_Effects hl_b_Effects
 refine zz Tryz.func60 rfl ?_
 show zO Tryz.prog _ _ ⟨[(0, zag a), (1, zag b)], [], 0, [], 52, 0⟩
 refine zd (zb rfl (zB (o := .box [_, _, _, _, _, _, _, _]) (nx' := 1) rfl rfl rfl trivial (zB (o := .box [_, _, _, _, _, _, _, _]) (nx' := 2) rfl rfl rfl trivial (za rfl rfl trivial (zc (ze (zd (zb rfl (za rfl rfl (by decide) (za rfl rfl trivial (za rfl rfl (by decide) ?_)))))))))))
 refine za rfl rfl trivial (zF rfl rfl rfl rfl (ziD a.Effects false b.Effects false) rfl rfl rfl (za rfl rfl trivial (zc (ze (zd (zb rfl (za rfl rfl (by decide) (za rfl rfl trivial (za rfl rfl (by decide) (za rfl rfl trivial (za rfl rfl (by decide) ?_)))))))))))
 refine za rfl rfl trivial (za rfl rfl (by decide) (za rfl rfl trivial (za rfl rfl (by decide) (za rfl rfl trivial (za rfl rfl (by decide) (za rfl rfl trivial (za (v := (.agg [_, _, _, _, _, _])) rfl rfl trivial (zB (o := .box [_, _, _, _, _, _]) (nx' := 3) rfl rfl rfl trivial ?_))))))))
 refine zx (H' := [(2, .box [_, _, _, _, _, _]), (1, _), (0, _)]) rfl rfl rfl rfl rfl rfl (.inl rfl) rfl ?_
 refine zc (ze (zd (zb rfl (za rfl rfl (by decide) (za rfl rfl trivial (za rfl rfl (by decide) (za rfl rfl trivial (za rfl rfl (by decide) (za rfl rfl trivial (za rfl rfl (by decide) (za rfl rfl trivial ?_)))))))))))
 refine za rfl rfl (by decide) (za rfl rfl trivial (za rfl rfl (by decide) (za rfl rfl trivial (za (v := (.agg [_, _, _, _, _, _])) rfl rfl trivial (zB (o := .box [_, _, _, _, _, _]) (nx' := 4) rfl rfl rfl trivial ?_)))))
 refine zx (H' := [(3, .box [_, _, _, _, _, _]), (2, _), (1, _), (0, _)]) rfl rfl rfl rfl rfl rfl (.inl rfl) rfl ?_
 refine zc (ze (zd (zb rfl (za rfl rfl trivial (za rfl rfl trivial ?_)))))
 refine zK rfl (fun h2 => ?_) (fun h2 => ?_)
 ·have g2 : a.Effects = b.Effects := of_decide_eq_true h2
  refine zg rfl h2 (za (v := (.agg [_, _, _, _, _, _])) rfl rfl (Nat.le_of_ble_eq_true rfl) (zg rfl h2 (za (v := (.agg [_, _, _, _, _, _])) rfl rfl (Nat.le_of_ble_eq_true rfl) (zg rfl h2 ?_))))
  refine zf4 rfl rfl rfl (by kernel_rfl) rfl rfl rfl rfl rfl ?_
  refine zr rfl h2 rfl rfl (za rfl rfl trivial ?_)
  refine zK rfl (fun h4 => ?_) (fun h4 => ?_)
  ·have g4 : ((a.Id == b.Id) && ((a.Cast == b.Cast) && ((a.Cool == b.Cool) && ((a.Charges == b.Charges) && ((a.Range == b.Range) && ((a.Cost == b.Cost) && true)))))) = true := h4
   refine zg rfl h4 (za rfl rfl (by decide) (zg rfl h4 (za rfl rfl trivial (zg rfl h4 (za rfl rfl (by decide) (zg rfl h4 (za rfl rfl trivial (zg rfl h4 (zl rfl rfl rfl rfl rfl trivial (zr rfl h4 rfl rfl (za rfl rfl trivial ?_)))))))))))
   refine zc (ze (zo ?_))
   have e6 : zex a b = (a.Sight == b.Sight) := by
    unfold zex
    try dsimp only
    rewrite [if_pos g2, if_pos g4]
    all_goals rfl
   rw [e6]
   exact zp rfl ⟨trivial, trivial⟩ (rfl) rfl
  ·have g4 : ¬ (((a.Id == b.Id) && ((a.Cast == b.Cast) && ((a.Cool == b.Cool) && ((a.Charges == b.Charges) && ((a.Range == b.Range) && ((a.Cost == b.Cost) && true)))))) = true) := zaw h4
   refine zh rfl h4 rfl (zh rfl h4 rfl (zh rfl h4 rfl (zh rfl h4 rfl (zh rfl h4 rfl (zt rfl h4 rfl rfl (za rfl rfl trivial (zc (ze (zo ?_)))))))))
   have e7 : zex a b = false := by
    unfold zex
    try dsimp only
    rewrite [if_pos g2, if_neg g4]
    all_goals rfl
   rw [e7]
   exact zp rfl ⟨trivial, trivial⟩ (rfl) rfl
 ·have g2 : ¬ (a.Effects = b.Effects) := of_decide_eq_false h2
  refine zh rfl h2 rfl (zh rfl h2 rfl (zh rfl h2 rfl (zt rfl h2 rfl rfl (za rfl rfl trivial (zf rfl rfl (zf rfl rfl (zf rfl rfl (zf rfl rfl (zf rfl rfl (za rfl rfl trivial (za rfl rfl trivial ?_)))))))))))
  refine zc (ze (zo ?_))
  have e8 : zex a b = false := by
   unfold zex
   try dsimp only
   rewrite [if_neg g2]
   all_goals rfl
  rw [e8]
  exact zp rfl ⟨trivial, trivial⟩ (rfl) rfl

def zaI (s2 : List zG) (eq : zG → zG → Bool) : List zG → Nat → Sum Bool Unit
  | [], k0 => .inr ()
  | x0 :: l_, k0 => if eq x0 (s2.getD k0 default) = true then zaI s2 eq l_ (k0 + 1) else .inl false
def zdh (s1 : List zG) (s2 : List zG) (eq : zG → zG → Bool) : Bool :=
  if (s1.length : Int) = s2.length then (match zaI s2 eq s1 0 with
    | .inl r_ => r_
    | .inr () => true) else false
theorem zmh (s1 : List zG) (s1_f : Bool) (s2 : List zG) (s2_f : Bool) (eq_c : FuncId) (eq_k : List AV) (eq : zG → zG → Bool) (eq_h : Fn1 Tryz.prog eq_c eq_k (fun x_ : zG × zG => [zag x_.1, zag x_.2]) (fun x_ => B (eq x_.1 x_.2))) : Ok Tryz.prog 59 [.pv (.slc s1.length s1_f (s1.flatMap zj)), .pv (.slc s2.length s2_f (s2.flatMap zj)), .fnc eq_c eq_k] [] (B (zdh s1 s2 eq)) [] [] := by
 refine Ok.len fun hlen => ?_
 have hl_s1 : s1.length ≤ maxLen := hlen _ (by simp [zT, lens, zU])
 have hl_s2 : s2.length ≤ maxLen := hlen _ (by simp [zT, lens, zU])
 unfold maxLen at hl_s1 hl_s2
 refine zz Tryz.func59 rfl ?_
 show zO Tryz.prog _ _ ⟨[(0, .pv (.slc s1.length s1_f (s1.flatMap zj))), (1, .pv (.slc s2.length s2_f (s2.flatMap zj))), (2, .fnc eq_c eq_k)], [], 0, [], 32, 0⟩
 refine zd (zb rfl (za rfl rfl trivial (zc (ze (zd (zd (zb rfl (za rfl rfl trivial (za rfl rfl trivial (za rfl rfl trivial (za rfl rfl trivial ?_)))))))))))
 refine zl rfl rfl rfl rfl rfl trivial (zc (ze ?_))
 refine zy rfl (fun h1 => ?_) (fun h1 => ?_)
 ·have g1 : ¬ ((s1.length : Int) = s2.length) := zcs h1
  refine zd (zb rfl (za rfl rfl trivial (zc (ze (zo (zI ?_))))))
  have e2 : zdh s1 s2 eq = false := by
   unfold zdh
   try dsimp only
   rewrite [if_neg g1]
   all_goals rfl
  rw [e2]
  exact zp rfl ⟨trivial, trivial⟩ (rfl) rfl
 ·have g1 : (s1.length : Int) = s2.length := zcu h1
  refine zA (ze (zd (zd (zb rfl (za rfl rfl trivial (za rfl rfl trivial (za rfl rfl trivial (zc (ze ?_)))))))))
  refine z6 (fun w_ : Unit => match w_ with | () => (⟨[], [], 0, [], 32, 0⟩ : St)) (fun w_ => zaI s2 eq s1 0 = .inr w_) ?_ ?_
  ·refine zC ?_
   refine z9 (fun k0 : Nat => (⟨[(1, .pv (.slc s2.length s2_f (s2.flatMap zj))), (2, .fnc eq_c eq_k), (15, .pv (.slc s1.length s1_f (s1.flatMap zj))), (16, I s1.length), (17, I k0)], [], 0, [], 32, 0⟩ : St)) (fun k0 : Nat => zaI s2 eq (s1.drop k0) k0 = zaI s2 eq s1 0 ∧ k0 ≤ s1.length) (fun k0 : Nat => s1.length - k0) 0 (⟨rfl, Nat.zero_le _⟩) ?_ (fun k0 hh_ => ?_)
   ·exact (zH.ren [] (by decide +kernel) (by decide +kernel) rfl ⟨⟨rfl, rfl⟩, ⟨congrArg some eq_h.renN.symm, eq_h.belN⟩, ⟨rfl, rfl⟩, ⟨rfl, rfl⟩, ⟨rfl, rfl⟩, trivial⟩ trivial (by decide))
   obtain ⟨hI0, hb0⟩ := hh_
   show zO Tryz.prog _ _ (⟨[(1, .pv (.slc s2.length s2_f (s2.flatMap zj))), (2, .fnc eq_c eq_k), (15, .pv (.slc s1.length s1_f (s1.flatMap zj))), (16, I s1.length), (17, I k0)], [], 0, [], 32, 0⟩ : St)
   refine zd (zb rfl (zl rfl rfl rfl rfl rfl trivial (zc (ze (zd ?_)))))
   refine zy rfl (fun h4 => ?_) (fun h4 => ?_)
   ·have g4 : (k0 : Int) < s1.length := of_decide_eq_true h4
    have hk0 : k0 < s1.length := by omega
    obtain ⟨x0, hx0⟩ : ∃ z_, s1[k0]? = some z_ := ⟨_, List.getElem?_eq_getElem hk0⟩
    refine zA (ze (zd (zC (zd (zb rfl (za rfl rfl trivial (zS (k := k0) rfl rfl rfl rfl hk0 (zaj (s := 8) (enc := zj) (fun _ => rfl) (by decide) hk0) rfl (zJ rfl rfl rfl (zap (s := 8) (enc := zj) (fun _ => rfl) hk0) (z2 (s := 8) (enc := zj) (fun _ => rfl) hx0) rfl (zB (o := .box [_, _, _, _, _, _, _, _]) (nx' := 1) rfl rfl rfl trivial (za rfl rfl trivial ?_))))))))))
    refine zx (H' := [(0, .box [_, _, _, _, _, _, _, _])]) rfl rfl rfl rfl rfl rfl (.inl rfl) rfl ?_
    refine zc (ze (zd (zb rfl (za rfl rfl trivial (za rfl rfl trivial ?_)))))
    have jk6 : k0 < s2.length := by first | assumption | omega | (simp only [List.length_set, List.length_append]; omega) | (simp only [IntKind.wrap_i64] at *; omega) | (simp; omega) | simp_all
    refine zS (k := k0) rfl rfl rfl rfl jk6 (zaj (s := 8) (enc := zj) (fun _ => rfl) (by decide) jk6) rfl (zJ rfl rfl rfl (zap (s := 8) (enc := zj) (fun _ => rfl) jk6) (z2 (s := 8) (enc := zj) (fun _ => rfl) (zaz jk6)) rfl (zB (o := .box [_, _, _, _, _, _, _, _]) (nx' := 2) rfl rfl rfl trivial ?_))
    refine zx (H' := [(1, .box [_, _, _, _, _, _, _, _]), (0, _)]) rfl rfl rfl rfl rfl rfl (.inl rfl) rfl ?_
    refine zc (ze (zd (zb rfl (za rfl rfl trivial (za (v := (.agg [_, _, _, _, _, _, _, _])) rfl rfl (Nat.le_of_ble_eq_true rfl) (za (v := (.agg [_, _, _, _, _, _, _, _])) rfl rfl (Nat.le_of_ble_eq_true rfl) ?_))))))
    refine zaJ eq_h (x0, (s2.getD k0 default)) rfl rfl rfl rfl rfl rfl ?_
    refine za rfl rfl trivial (zc (ze ?_))
    refine zy rfl (fun h7 => ?_) (fun h7 => ?_)
    ·have g7 : ¬ (eq x0 (s2.getD k0 default) = true) := zaw (zcl h7)
     refine zd (zb rfl (za rfl rfl trivial (zc (ze (zo (zad (zI (zbH (zad (zcJ (zI ?_)))))))))))
     have e8 : zaI s2 eq s1 0 = .inl false := by
      rewrite [← hI0, zau hx0]
      rewrite [zaI]
      try dsimp only
      rewrite [if_neg g7]
      all_goals rfl
     have e9 : zdh s1 s2 eq = false := by
      unfold zdh
      try dsimp only
      rewrite [if_pos g1, e8]
      try dsimp only
      all_goals rfl
     rw [e9]
     exact zp rfl ⟨trivial, trivial⟩ (rfl) rfl
    ·have g7 : eq x0 (s2.getD k0 default) = true := (zcm h7)
     refine zA (zar (ze (zb rfl (zl rfl rfl rfl rfl rfl trivial (za rfl rfl trivial (zc ?_))))))
     have e11 : zaI s2 eq (s1.drop k0) k0 = zaI s2 eq (s1.drop (k0 + 1)) (k0 + 1) := by
      rewrite [zau hx0]
      rewrite [zaI]
      try dsimp only
      rewrite [if_pos g7]
      all_goals rfl
     exact z5 (k0 + 1) ⟨e11.symm.trans hI0, hk0⟩ (by show s1.length - (k0 + 1) < s1.length - k0; omega) (zH.ren [] (by decide +kernel) (by decide +kernel) rfl ⟨⟨rfl, rfl⟩, ⟨congrArg some eq_h.renN.symm, eq_h.belN⟩, ⟨rfl, rfl⟩, ⟨rfl, rfl⟩, ⟨congrArg (fun n => some (I n)) (zcv (k := k0) (by first | omega | (simp; omega))), rfl⟩, trivial⟩ trivial (by decide))
   ·have g4 : ¬ ((k0 : Int) < s1.length) := of_decide_eq_false h4
    have hk0 : k0 = s1.length := by omega
    refine zV (zac (zal (zak rfl ?_)))
    have e12 : zaI s2 eq s1 0 = .inr () := by
     rewrite [← hI0, hk0, List.drop_length]
     rewrite [zaI]
     try dsimp only
     all_goals rfl
    exact zZ () e12 (zH.ren [] (by decide +kernel) (by decide +kernel) rfl trivial trivial (by decide))
  ·rintro ⟨⟩ (hJ3 : zaI s2 eq s1 0 = .inr ())
   show seqK _ _ _ .normal (⟨[], [], 0, [], 32, 0⟩ : St)
   refine ze (zd (zb rfl (za rfl rfl trivial (zc (ze (zo ?_))))))
   have e13 : zdh s1 s2 eq = true := by
    unfold zdh
    try dsimp only
    rewrite [if_pos g1, hJ3]
    try dsimp only
    all_goals rfl
   rw [e13]
   exact zp rfl ⟨trivial, trivial⟩ (rfl) rfl

def ze5 (a : GFoe) (b : GFoe) : Bool :=
  if ((a.Id == b.Id) && ((a.Health == b.Health) && ((a.Hit == b.Hit) && ((a.Every == b.Every) && ((a.Reach == b.Reach) && ((a.Drops == b.Drops) && true)))))) = true then (if a.Script = b.Script then (decide (a.Hoard = b.Hoard)) else false) else false
theorem zpv (a : GFoe) (b : GFoe) : Ok Tryz.prog 62 [zdO a, zdO b] [] (B (ze5 a b)) [] [] := by
 refine Ok.len fun hlen => ?_
 have hl_a_Script : a.Script.length ≤ maxLen := hlen _ (by simp [zT, lens, zU])
 have hl_a_Hoard : a.Hoard.length ≤ maxLen := hlen _ (by simp [zT, lens, zU])
 have hl_b_Script : b.Script.length ≤ maxLen := hlen _ (by simp [zT, lens, zU])
 have hl_b_Hoard : b.Hoard.length ≤ maxLen := hlen _ (by simp [zT, lens, zU])
 unfold maxLen at hl_a_Script hl_a_Hoard hl_b_Script hl_b_Hoard
 refine zz Tryz.func62 rfl ?_
 show zO Tryz.prog _ _ ⟨[(0, zdO a), (1, zdO b)], [], 0, [], 50, 0⟩
 refine zd (zb rfl (zB (o := .box [_, _, _, _, _, _, _, _]) (nx' := 1) rfl rfl rfl trivial (zB (o := .box [_, _, _, _, _, _, _, _]) (nx' := 2) rfl rfl rfl trivial (za rfl rfl trivial (zc (ze (zd (zb rfl (za rfl rfl (by decide) (za rfl rfl trivial (za rfl rfl (by decide) ?_)))))))))))
 refine za rfl rfl trivial (za rfl rfl (by decide) (za rfl rfl trivial (za rfl rfl (by decide) (za rfl rfl trivial (za rfl rfl (by decide) (za rfl rfl trivial (za rfl rfl (by decide) (za rfl rfl trivial (za (v := (.agg [_, _, _, _, _, _])) rfl rfl trivial (zB (o := .box [_, _, _, _, _, _]) (nx' := 3) rfl rfl rfl trivial ?_))))))))))
 refine zx (H' := [(2, .box [_, _, _, _, _, _]), (1, _), (0, _)]) rfl rfl rfl rfl rfl rfl (.inl rfl) rfl ?_
 refine zc (ze (zd (zb rfl (za rfl rfl (by decide) (za rfl rfl trivial (za rfl rfl (by decide) (za rfl rfl trivial (za rfl rfl (by decide) (za rfl rfl trivial (za rfl rfl (by decide) (za rfl rfl trivial ?_)))))))))))
 refine za rfl rfl (by decide) (za rfl rfl trivial (za rfl rfl (by decide) (za rfl rfl trivial (za (v := (.agg [_, _, _, _, _, _])) rfl rfl trivial (zB (o := .box [_, _, _, _, _, _]) (nx' := 4) rfl rfl rfl trivial ?_)))))
 refine zx (H' := [(3, .box [_, _, _, _, _, _]), (2, _), (1, _), (0, _)]) rfl rfl rfl rfl rfl rfl (.inl rfl) rfl ?_
 refine zc (ze (zd (zb rfl (za (v := (.agg [_, _, _, _, _, _])) rfl rfl (Nat.le_of_ble_eq_true rfl) (za (v := (.agg [_, _, _, _, _, _])) rfl rfl (Nat.le_of_ble_eq_true rfl) ?_)))))
 refine zf4 rfl rfl rfl (by kernel_rfl) rfl rfl rfl rfl rfl ?_
 refine za rfl rfl trivial ?_
 refine zK rfl (fun h2 => ?_) (fun h2 => ?_)
 ·have g2 : ((a.Id == b.Id) && ((a.Health == b.Health) && ((a.Hit == b.Hit) && ((a.Every == b.Every) && ((a.Reach == b.Reach) && ((a.Drops == b.Drops) && true)))))) = true := h2
  refine zg rfl h2 (za rfl rfl (by decide) (zg rfl h2 (za rfl rfl trivial (zg rfl h2 (za rfl rfl (by decide) (zg rfl h2 (za rfl rfl trivial (zg rfl h2 (zF rfl rfl rfl rfl (zk1 a.Script false b.Script false) rfl rfl rfl (zr rfl h2 rfl rfl (za rfl rfl trivial ?_)))))))))))
  refine zK rfl (fun h4 => ?_) (fun h4 => ?_)
  ·have g4 : a.Script = b.Script := of_decide_eq_true h4
   refine zg rfl h4 (za rfl rfl (by decide) (zg rfl h4 (za rfl rfl trivial (zg rfl h4 (za rfl rfl (by decide) (zg rfl h4 (za rfl rfl trivial (zg rfl h4 (zF rfl rfl rfl rfl (zjy a.Hoard false b.Hoard false) rfl rfl rfl (zr rfl h4 rfl rfl (za rfl rfl trivial ?_)))))))))))
   refine zc (ze (zo ?_))
   have e6 : ze5 a b = (decide (a.Hoard = b.Hoard)) := by
    unfold ze5
    try dsimp only
    rewrite [if_pos g2, if_pos g4]
    all_goals rfl
   rw [e6]
   exact zp rfl ⟨trivial, trivial⟩ (rfl) rfl
  ·have g4 : ¬ (a.Script = b.Script) := of_decide_eq_false h4
   refine zh rfl h4 rfl (zh rfl h4 rfl (zh rfl h4 rfl (zh rfl h4 rfl (zh rfl h4 rfl (zt rfl h4 rfl rfl (za rfl rfl trivial (zc (ze (zo ?_)))))))))
   have e7 : ze5 a b = false := by
    unfold ze5
    try dsimp only
    rewrite [if_pos g2, if_neg g4]
    all_goals rfl
   rw [e7]
   exact zp rfl ⟨trivial, trivial⟩ (rfl) rfl
 ·have g2 : ¬ (((a.Id == b.Id) && ((a.Health == b.Health) && ((a.Hit == b.Hit) && ((a.Every == b.Every) && ((a.Reach == b.Reach) && ((a.Drops == b.Drops) && true)))))) = true) := zaw h2
  refine zh rfl h2 rfl (zh rfl h2 rfl (zh rfl h2 rfl (zh rfl h2 rfl (zh rfl h2 rfl (zt rfl h2 rfl rfl (za rfl rfl trivial (zf rfl rfl (zf rfl rfl (zf rfl rfl (zf rfl rfl (zf rfl rfl ?_)))))))))))
  refine za rfl rfl trivial (za rfl rfl trivial (zc (ze (zo ?_))))
  have e8 : ze5 a b = false := by
   unfold ze5
   try dsimp only
   rewrite [if_neg g2]
   all_goals rfl
  rw [e8]
  exact zp rfl ⟨trivial, trivial⟩ (rfl) rfl

def zaE (s2 : List GFoe) (eq : GFoe → GFoe → Bool) : List GFoe → Nat → Sum Bool Unit
  | [], k0 => .inr ()
  | x0 :: l_, k0 => if eq x0 (s2.getD k0 default) = true then zaE s2 eq l_ (k0 + 1) else .inl false
def zdy (s1 : List GFoe) (s2 : List GFoe) (eq : GFoe → GFoe → Bool) : Bool :=
  if (s1.length : Int) = s2.length then (match zaE s2 eq s1 0 with
    | .inl r_ => r_
    | .inr () => true) else false
theorem zl6 (s1 : List GFoe) (s1_f : Bool) (s2 : List GFoe) (s2_f : Bool) (eq_c : FuncId) (eq_k : List AV) (eq : GFoe → GFoe → Bool) (eq_h : Fn1 Tryz.prog eq_c eq_k (fun x_ : GFoe × GFoe => [zdO x_.1, zdO x_.2]) (fun x_ => B (eq x_.1 x_.2))) : Ok Tryz.prog 61 [.pv (.slc s1.length s1_f (s1.flatMap zw)), .pv (.slc s2.length s2_f (s2.flatMap zw)), .fnc eq_c eq_k] [] (B (zdy s1 s2 eq)) [] [] := by
 refine Ok.len fun hlen => ?_
 have hl_s1 : s1.length ≤ maxLen := hlen _ (by simp [zT, lens, zU])
 have hl_s2 : s2.length ≤ maxLen := hlen _ (by simp [zT, lens, zU])
 unfold maxLen at hl_s1 hl_s2
 refine zz Tryz.func61 rfl ?_
 show zO Tryz.prog _ _ ⟨[(0, .pv (.slc s1.length s1_f (s1.flatMap zw))), (1, .pv (.slc s2.length s2_f (s2.flatMap zw))), (2, .fnc eq_c eq_k)], [], 0, [], 32, 0⟩
 refine zd (zb rfl (za rfl rfl trivial (zc (ze (zd (zd (zb rfl (za rfl rfl trivial (za rfl rfl trivial (za rfl rfl trivial (za rfl rfl trivial ?_)))))))))))
 refine zl rfl rfl rfl rfl rfl trivial (zc (ze ?_))
 refine zy rfl (fun h1 => ?_) (fun h1 => ?_)
 ·have g1 : ¬ ((s1.length : Int) = s2.length) := zcs h1
  refine zd (zb rfl (za rfl rfl trivial (zc (ze (zo (zI ?_))))))
  have e2 : zdy s1 s2 eq = false := by
   unfold zdy
   try dsimp only
   rewrite [if_neg g1]
   all_goals rfl
  rw [e2]
  exact zp rfl ⟨trivial, trivial⟩ (rfl) rfl
 ·have g1 : (s1.length : Int) = s2.length := zcu h1
  refine zA (ze (zd (zd (zb rfl (za rfl rfl trivial (za rfl rfl trivial (za rfl rfl trivial (zc (ze ?_)))))))))
  refine z6 (fun w_ : Unit => match w_ with | () => (⟨[], [], 0, [], 32, 0⟩ : St)) (fun w_ => zaE s2 eq s1 0 = .inr w_) ?_ ?_
  ·refine zC ?_
   refine z9 (fun k0 : Nat => (⟨[(1, .pv (.slc s2.length s2_f (s2.flatMap zw))), (2, .fnc eq_c eq_k), (15, .pv (.slc s1.length s1_f (s1.flatMap zw))), (16, I s1.length), (17, I k0)], [], 0, [], 32, 0⟩ : St)) (fun k0 : Nat => zaE s2 eq (s1.drop k0) k0 = zaE s2 eq s1 0 ∧ k0 ≤ s1.length) (fun k0 : Nat => s1.length - k0) 0 (⟨rfl, Nat.zero_le _⟩) ?_ (fun k0 hh_ => ?_)
   ·exact (zH.ren [] (by decide +kernel) (by decide +kernel) rfl ⟨⟨rfl, rfl⟩, ⟨congrArg some eq_h.renN.symm, eq_h.belN⟩, ⟨rfl, rfl⟩, ⟨rfl, rfl⟩, ⟨rfl, rfl⟩, trivial⟩ trivial (by decide))
   obtain ⟨hI0, hb0⟩ := hh_
   show zO Tryz.prog _ _ (⟨[(1, .pv (.slc s2.length s2_f (s2.flatMap zw))), (2, .fnc eq_c eq_k), (15, .pv (.slc s1.length s1_f (s1.flatMap zw))), (16, I s1.length), (17, I k0)], [], 0, [], 32, 0⟩ : St)
   refine zd (zb rfl (zl rfl rfl rfl rfl rfl trivial (zc (ze (zd ?_)))))
   refine zy rfl (fun h4 => ?_) (fun h4 => ?_)
   ·have g4 : (k0 : Int) < s1.length := of_decide_eq_true h4
    have hk0 : k0 < s1.length := by omega
    obtain ⟨x0, hx0⟩ : ∃ z_, s1[k0]? = some z_ := ⟨_, List.getElem?_eq_getElem hk0⟩
    refine zA (ze (zd (zC (zd (zb rfl (za rfl rfl trivial (zS (k := k0) rfl rfl rfl rfl hk0 (zaj (s := 8) (enc := zw) (fun _ => rfl) (by decide) hk0) rfl (zJ rfl rfl rfl (zap (s := 8) (enc := zw) (fun _ => rfl) hk0) (z2 (s := 8) (enc := zw) (fun _ => rfl) hx0) rfl (zB (o := .box [_, _, _, _, _, _, _, _]) (nx' := 1) rfl rfl rfl trivial (za rfl rfl trivial ?_))))))))))
    refine zx (H' := [(0, .box [_, _, _, _, _, _, _, _])]) rfl rfl rfl rfl rfl rfl (.inl rfl) rfl ?_
    refine zc (ze (zd (zb rfl (za rfl rfl trivial (za rfl rfl trivial ?_)))))
    have jk6 : k0 < s2.length := by first | assumption | omega | (simp only [List.length_set, List.length_append]; omega) | (simp only [IntKind.wrap_i64] at *; omega) | (simp; omega) | simp_all
    refine zS (k := k0) rfl rfl rfl rfl jk6 (zaj (s := 8) (enc := zw) (fun _ => rfl) (by decide) jk6) rfl (zJ rfl rfl rfl (zap (s := 8) (enc := zw) (fun _ => rfl) jk6) (z2 (s := 8) (enc := zw) (fun _ => rfl) (zaz jk6)) rfl (zB (o := .box [_, _, _, _, _, _, _, _]) (nx' := 2) rfl rfl rfl trivial ?_))
    refine zx (H' := [(1, .box [_, _, _, _, _, _, _, _]), (0, _)]) rfl rfl rfl rfl rfl rfl (.inl rfl) rfl ?_
    refine zc (ze (zd (zb rfl (za rfl rfl trivial (za (v := (.agg [_, _, _, _, _, _, _, _])) rfl rfl (Nat.le_of_ble_eq_true rfl) (za (v := (.agg [_, _, _, _, _, _, _, _])) rfl rfl (Nat.le_of_ble_eq_true rfl) ?_))))))
    refine zaJ eq_h (x0, (s2.getD k0 default)) rfl rfl rfl rfl rfl rfl ?_
    refine za rfl rfl trivial (zc (ze ?_))
    refine zy rfl (fun h7 => ?_) (fun h7 => ?_)
    ·have g7 : ¬ (eq x0 (s2.getD k0 default) = true) := zaw (zcl h7)
     refine zd (zb rfl (za rfl rfl trivial (zc (ze (zo (zad (zI (zbH (zad (zcJ (zI ?_)))))))))))
     have e8 : zaE s2 eq s1 0 = .inl false := by
      rewrite [← hI0, zau hx0]
      rewrite [zaE]
      try dsimp only
      rewrite [if_neg g7]
      all_goals rfl
     have e9 : zdy s1 s2 eq = false := by
      unfold zdy
      try dsimp only
      rewrite [if_pos g1, e8]
      try dsimp only
      all_goals rfl
     rw [e9]
     exact zp rfl ⟨trivial, trivial⟩ (rfl) rfl
    ·have g7 : eq x0 (s2.getD k0 default) = true := (zcm h7)
     refine zA (zar (ze (zb rfl (zl rfl rfl rfl rfl rfl trivial (za rfl rfl trivial (zc ?_))))))
     have e11 : zaE s2 eq (s1.drop k0) k0 = zaE s2 eq (s1.drop (k0 + 1)) (k0 + 1) := by
      rewrite [zau hx0]
      rewrite [zaE]
      try dsimp only
      rewrite [if_pos g7]
      all_goals rfl
     exact z5 (k0 + 1) ⟨e11.symm.trans hI0, hk0⟩ (by show s1.length - (k0 + 1) < s1.length - k0; omega) (zH.ren [] (by decide +kernel) (by decide +kernel) rfl ⟨⟨rfl, rfl⟩, ⟨congrArg some eq_h.renN.symm, eq_h.belN⟩, ⟨rfl, rfl⟩, ⟨rfl, rfl⟩, ⟨congrArg (fun n => some (I n)) (zcv (k := k0) (by first | omega | (simp; omega))), rfl⟩, trivial⟩ trivial (by decide))
   ·have g4 : ¬ ((k0 : Int) < s1.length) := of_decide_eq_false h4
    have hk0 : k0 = s1.length := by omega
    refine zV (zac (zal (zak rfl ?_)))
    have e12 : zaE s2 eq s1 0 = .inr () := by
     rewrite [← hI0, hk0, List.drop_length]
     rewrite [zaE]
     try dsimp only
     all_goals rfl
    exact zZ () e12 (zH.ren [] (by decide +kernel) (by decide +kernel) rfl trivial trivial (by decide))
  ·rintro ⟨⟩ (hJ3 : zaE s2 eq s1 0 = .inr ())
   show seqK _ _ _ .normal (⟨[], [], 0, [], 32, 0⟩ : St)
   refine ze (zd (zb rfl (za rfl rfl trivial (zc (ze (zo ?_))))))
   have e13 : zdy s1 s2 eq = true := by
    unfold zdy
    try dsimp only
    rewrite [if_pos g1, hJ3]
    try dsimp only
    all_goals rfl
   rw [e13]
   exact zp rfl ⟨trivial, trivial⟩ (rfl) rfl

def zc5 (a : zu) (b : zu) : Bool :=
  if (a.Map.W : Int) = b.Map.W then (if (a.Map.H : Int) = b.Map.H then (decide (a.Map.Wall = b.Map.Wall)) else false) else false
def zcU (a : zu) (b : zu) : Bool :=
  (let maps_6 := zc5 a b; if maps_6 = true then (if ((a.Door.X == b.Door.X) && ((a.Door.Y == b.Door.Y) && true)) = true then (if ((a.Lair.X == b.Lair.X) && ((a.Lair.Y == b.Lair.Y) && true)) = true then (if a.Auras = b.Auras then (if zdh a.Abilities b.Abilities (fun x1_ x2_ => zex x1_ x2_) = true then (zdy a.Foes b.Foes (fun x1_ x2_ => ze5 x1_ x2_)) else false) else false) else false) else false) else false)
theorem zi9 (a : zu) (b : zu) : Ok Tryz.prog 21 [z1 a, z1 b] [] (B (zcU a b)) [] [] := by
 refine Ok.len fun hlen => ?_
 have hl_a_Abilities : a.Abilities.length ≤ maxLen := hlen _ (by simp [zT, lens, zU])
 have hl_a_Auras : a.Auras.length ≤ maxLen := hlen _ (by simp [zT, lens, zU])
 have hl_a_Foes : a.Foes.length ≤ maxLen := hlen _ (by simp [zT, lens, zU])
 have hl_a_Map_Wall : a.Map.Wall.length ≤ maxLen := hlen _ (by simp [zT, lens, zU])
 have hl_b_Abilities : b.Abilities.length ≤ maxLen := hlen _ (by simp [zT, lens, zU])
 have hl_b_Auras : b.Auras.length ≤ maxLen := hlen _ (by simp [zT, lens, zU])
 have hl_b_Foes : b.Foes.length ≤ maxLen := hlen _ (by simp [zT, lens, zU])
 have hl_b_Map_Wall : b.Map.Wall.length ≤ maxLen := hlen _ (by simp [zT, lens, zU])
 unfold maxLen at hl_a_Abilities hl_a_Auras hl_a_Foes hl_a_Map_Wall hl_b_Abilities hl_b_Auras hl_b_Foes hl_b_Map_Wall
 refine zz Tryz.func21 rfl ?_
 show zO Tryz.prog _ _ ⟨[(0, z1 a), (1, z1 b)], [], 0, [], 67, 0⟩
 refine zd (zb rfl (zB (o := .box [_, _, _, _, _, _, _, _, _, _]) (nx' := 1) rfl rfl rfl trivial (zB (o := .box [_, _, _, _, _, _, _, _, _, _]) (nx' := 2) rfl rfl rfl trivial (za rfl rfl trivial (zc (ze (zd ?_)))))))
 refine z6 (fun maps_6 : Bool => (⟨[(2, .ptr 0 0), (3, .ptr 1 0), (5, B maps_6)], [(0, .box [.pv (.slc a.Abilities.length false (a.Abilities.flatMap zj)), .pv (.slc a.Auras.length false (a.Auras.flatMap zq)), .pv (.slc a.Foes.length false (a.Foes.flatMap zw)), I a.Map.W, I a.Map.H, .pv (.slc a.Map.Wall.length false (encB a.Map.Wall)), I a.Door.X, I a.Door.Y, I a.Lair.X, I a.Lair.Y]), (1, .box [.pv (.slc b.Abilities.length false (b.Abilities.flatMap zj)), .pv (.slc b.Auras.length false (b.Auras.flatMap zq)), .pv (.slc b.Foes.length false (b.Foes.flatMap zw)), I b.Map.W, I b.Map.H, .pv (.slc b.Map.Wall.length false (encB b.Map.Wall)), I b.Door.X, I b.Door.Y, I b.Lair.X, I b.Lair.Y])], 2, [], 67, 0⟩ : St)) (fun w_ => zc5 a b = w_) ?_ ?_
 ·refine zb rfl (za rfl rfl (by decide) (za rfl rfl (by decide) (za rfl rfl trivial (za rfl rfl (by decide) (za rfl rfl (by decide) (za rfl rfl trivial (zl rfl rfl rfl rfl rfl trivial (za rfl rfl trivial ?_))))))))
  refine zK rfl (fun h3 => ?_) (fun h3 => ?_)
  ·have g3 : (a.Map.W : Int) = b.Map.W := zcF h3
   refine zg rfl h3 (za rfl rfl (by decide) (zg rfl h3 (za rfl rfl (by decide) (zg rfl h3 (za rfl rfl trivial (zg rfl h3 (za rfl rfl (by decide) (zg rfl h3 (za rfl rfl (by decide) (zg rfl h3 (za rfl rfl trivial ?_)))))))))))
   refine zg rfl h3 (zl rfl rfl rfl rfl rfl trivial (zr rfl h3 rfl rfl (za rfl rfl trivial ?_)))
   refine zK rfl (fun h5 => ?_) (fun h5 => ?_)
   ·have g5 : (a.Map.H : Int) = b.Map.H := zcF h5
    refine zg rfl h5 (za rfl rfl (by decide) (zg rfl h5 (za rfl rfl (by decide) (zg rfl h5 (za rfl rfl trivial (zg rfl h5 (za rfl rfl (by decide) (zg rfl h5 (za rfl rfl (by decide) (zg rfl h5 (za rfl rfl trivial ?_)))))))))))
    refine zg rfl h5 (zF rfl rfl rfl rfl (zmi a.Map.Wall false b.Map.Wall false) rfl rfl rfl (zr rfl h5 rfl rfl (za rfl rfl trivial (zc ?_))))
    have e7 : zc5 a b = (decide (a.Map.Wall = b.Map.Wall)) := by
     unfold zc5
     try dsimp only
     rewrite [if_pos g3, if_pos g5]
     all_goals rfl
    exact zZ (decide (a.Map.Wall = b.Map.Wall)) e7 (zH.ren [] (by decide +kernel) (by decide +kernel) rfl ⟨⟨rfl, rfl⟩, ⟨rfl, rfl⟩, ⟨rfl, rfl⟩, trivial⟩ ⟨⟨rfl, rfl, rfl⟩, ⟨rfl, rfl, rfl⟩, trivial⟩ (by decide))
   ·have g5 : ¬ ((a.Map.H : Int) = b.Map.H) := zcL h5
    refine zh rfl h5 rfl (zh rfl h5 rfl (zh rfl h5 rfl (zh rfl h5 rfl (zh rfl h5 rfl (zh rfl h5 rfl (zh rfl h5 rfl (zt rfl h5 rfl rfl (za rfl rfl trivial (zc ?_)))))))))
    have e8 : zc5 a b = false := by
     unfold zc5
     try dsimp only
     rewrite [if_pos g3, if_neg g5]
     all_goals rfl
    exact zZ false e8 (zH.ren [] (by decide +kernel) (by decide +kernel) rfl ⟨⟨rfl, rfl⟩, ⟨rfl, rfl⟩, ⟨rfl, rfl⟩, trivial⟩ ⟨⟨rfl, rfl, rfl⟩, ⟨rfl, rfl, rfl⟩, trivial⟩ (by decide))
  ·have g3 : ¬ ((a.Map.W : Int) = b.Map.W) := zcL h3
   refine zh rfl h3 rfl (zh rfl h3 rfl (zh rfl h3 rfl (zh rfl h3 rfl (zh rfl h3 rfl (zh rfl h3 rfl (zh rfl h3 rfl (zt rfl h3 rfl rfl (za rfl rfl trivial (zf rfl rfl (zf rfl rfl (zf rfl rfl ?_)))))))))))
   refine zf rfl rfl (zf rfl rfl (zf rfl rfl (zf rfl rfl (za rfl rfl trivial (za rfl rfl trivial (zc ?_))))))
   have e9 : zc5 a b = false := by
    unfold zc5
    try dsimp only
    rewrite [if_neg g3]
    all_goals rfl
   exact zZ false e9 (zH.ren [] (by decide +kernel) (by decide +kernel) rfl ⟨⟨rfl, rfl⟩, ⟨rfl, rfl⟩, ⟨rfl, rfl⟩, trivial⟩ ⟨⟨rfl, rfl, rfl⟩, ⟨rfl, rfl, rfl⟩, trivial⟩ (by decide))
 ·rintro maps_6 (hJ1 : zc5 a b = maps_6)
  show seqK _ _ _ .normal (⟨[(2, .ptr 0 0), (3, .ptr 1 0), (5, B maps_6)], [(0, .box [.pv (.slc a.Abilities.length false (a.Abilities.flatMap zj)), .pv (.slc a.Auras.length false (a.Auras.flatMap zq)), .pv (.slc a.Foes.length false (a.Foes.flatMap zw)), I a.Map.W, I a.Map.H, .pv (.slc a.Map.Wall.length false (encB a.Map.Wall)), I a.Door.X, I a.Door.Y, I a.Lair.X, I a.Lair.Y]), (1, .box [.pv (.slc b.Abilities.length false (b.Abilities.flatMap zj)), .pv (.slc b.Auras.length false (b.Auras.flatMap zq)), .pv (.slc b.Foes.length false (b.Foes.flatMap zw)), I b.Map.W, I b.Map.H, .pv (.slc b.Map.Wall.length false (encB b.Map.Wall)), I b.Door.X, I b.Door.Y, I b.Lair.X, I b.Lair.Y])], 2, [], 67, 0⟩ : St)
  refine ze (zd (zb rfl (za rfl rfl trivial (za rfl rfl trivial ?_))))
  refine zK rfl (fun h11 => ?_) (fun h11 => ?_)
  ·have g11 : maps_6 = true := h11
   refine zg rfl h11 (za rfl rfl (by decide) (zg rfl h11 (za (v := (.agg [_, _])) rfl rfl (Nat.le_of_ble_eq_true rfl) (zg rfl h11 (za rfl rfl (by decide) (zg rfl h11 (za (v := (.agg [_, _])) rfl rfl (Nat.le_of_ble_eq_true rfl) (zg rfl h11 ?_))))))))
   refine zf4 rfl rfl rfl (by kernel_rfl) rfl rfl rfl rfl rfl ?_
   refine zr rfl h11 rfl rfl (za rfl rfl trivial ?_)
   refine zK rfl (fun h13 => ?_) (fun h13 => ?_)
   ·have g13 : ((a.Door.X == b.Door.X) && ((a.Door.Y == b.Door.Y) && true)) = true := h13
    refine zg rfl h13 (za rfl rfl (by decide) (zg rfl h13 (za (v := (.agg [_, _])) rfl rfl (Nat.le_of_ble_eq_true rfl) (zg rfl h13 (za rfl rfl (by decide) (zg rfl h13 (za (v := (.agg [_, _])) rfl rfl (Nat.le_of_ble_eq_true rfl) (zg rfl h13 ?_))))))))
    refine zf4 rfl rfl rfl (by kernel_rfl) rfl rfl rfl rfl rfl ?_
    refine zr rfl h13 rfl rfl (za rfl rfl trivial ?_)
    refine zK rfl (fun h15 => ?_) (fun h15 => ?_)
    ·have g15 : ((a.Lair.X == b.Lair.X) && ((a.Lair.Y == b.Lair.Y) && true)) = true := h15
     refine zg rfl h15 (za rfl rfl (by decide) (zg rfl h15 (za rfl rfl trivial (zg rfl h15 (za rfl rfl (by decide) (zg rfl h15 (za rfl rfl trivial (zg rfl h15 (zF rfl rfl rfl rfl (zkB a.Auras false b.Auras false) rfl rfl rfl (zr rfl h15 rfl rfl (za rfl rfl trivial ?_)))))))))))
     refine zK rfl (fun h17 => ?_) (fun h17 => ?_)
     ·have g17 : a.Auras = b.Auras := of_decide_eq_true h17
      refine zg rfl h17 (za rfl rfl (by decide) (zg rfl h17 (za rfl rfl trivial (zg rfl h17 (za rfl rfl (by decide) (zg rfl h17 (za rfl rfl trivial (zg rfl h17 (zF rfl rfl rfl rfl (zmh a.Abilities false b.Abilities false 60 [] (fun x1_ x2_ => zex x1_ x2_) ⟨rfl, rfl, fun _ => rfl, fun _ => rfl, fun x_ => zoD x_.1 x_.2⟩) rfl rfl rfl (zr rfl h17 rfl rfl (za rfl rfl trivial ?_)))))))))))
      refine zK rfl (fun h19 => ?_) (fun h19 => ?_)
      ·have g19 : zdh a.Abilities b.Abilities (fun x1_ x2_ => zex x1_ x2_) = true := h19
       refine zg rfl h19 (za rfl rfl (by decide) (zg rfl h19 (za rfl rfl trivial (zg rfl h19 (za rfl rfl (by decide) (zg rfl h19 (za rfl rfl trivial (zg rfl h19 (zF rfl rfl rfl rfl (zl6 a.Foes false b.Foes false 62 [] (fun x1_ x2_ => ze5 x1_ x2_) ⟨rfl, rfl, fun _ => rfl, fun _ => rfl, fun x_ => zpv x_.1 x_.2⟩) rfl rfl rfl (zr rfl h19 rfl rfl (za rfl rfl trivial ?_)))))))))))
       refine zc (ze (zo ?_))
       have e21 : zcU a b = (zdy a.Foes b.Foes (fun x1_ x2_ => ze5 x1_ x2_)) := by
        unfold zcU
        try dsimp only
        rewrite [hJ1]
        try dsimp only
        rewrite [if_pos g11, if_pos g13, if_pos g15, if_pos g17, if_pos g19]
        all_goals rfl
       rw [e21]
       exact zp rfl ⟨trivial, trivial⟩ (rfl) rfl
      ·have g19 : ¬ (zdh a.Abilities b.Abilities (fun x1_ x2_ => zex x1_ x2_) = true) := zaw h19
       refine zh rfl h19 rfl (zh rfl h19 rfl (zh rfl h19 rfl (zh rfl h19 rfl (zh rfl h19 rfl (zt rfl h19 rfl rfl (za rfl rfl trivial (zc (ze (zo ?_)))))))))
       have e22 : zcU a b = false := by
        unfold zcU
        try dsimp only
        rewrite [hJ1]
        try dsimp only
        rewrite [if_pos g11, if_pos g13, if_pos g15, if_pos g17, if_neg g19]
        all_goals rfl
       rw [e22]
       exact zp rfl ⟨trivial, trivial⟩ (rfl) rfl
     ·have g17 : ¬ (a.Auras = b.Auras) := of_decide_eq_false h17
      refine zh rfl h17 rfl (zh rfl h17 rfl (zh rfl h17 rfl (zh rfl h17 rfl (zh rfl h17 rfl (zt rfl h17 rfl rfl (za rfl rfl trivial (zf rfl rfl (zf rfl rfl (zf rfl rfl (zf rfl rfl (zf rfl rfl ?_)))))))))))
      refine za rfl rfl trivial (za rfl rfl trivial (zc (ze (zo ?_))))
      have e23 : zcU a b = false := by
       unfold zcU
       try dsimp only
       rewrite [hJ1]
       try dsimp only
       rewrite [if_pos g11, if_pos g13, if_pos g15, if_neg g17]
       all_goals rfl
      rw [e23]
      exact zp rfl ⟨trivial, trivial⟩ (rfl) rfl
    ·have g15 : ¬ (((a.Lair.X == b.Lair.X) && ((a.Lair.Y == b.Lair.Y) && true)) = true) := zaw h15
     refine zh rfl h15 rfl (zh rfl h15 rfl (zh rfl h15 rfl (zh rfl h15 rfl (zh rfl h15 rfl (zt rfl h15 rfl rfl (za rfl rfl trivial (zf rfl rfl (zf rfl rfl (zf rfl rfl (zf rfl rfl (zf rfl rfl ?_)))))))))))
     refine za rfl rfl trivial (za rfl rfl trivial (zf rfl rfl (zf rfl rfl (zf rfl rfl (zf rfl rfl (zf rfl rfl (za rfl rfl trivial (za rfl rfl trivial (zc (ze (zo ?_)))))))))))
     have e24 : zcU a b = false := by
      unfold zcU
      try dsimp only
      rewrite [hJ1]
      try dsimp only
      rewrite [if_pos g11, if_pos g13, if_neg g15]
      all_goals rfl
     rw [e24]
     exact zp rfl ⟨trivial, trivial⟩ (rfl) rfl
   ·have g13 : ¬ (((a.Door.X == b.Door.X) && ((a.Door.Y == b.Door.Y) && true)) = true) := zaw h13
    refine zh rfl h13 rfl (zh rfl h13 rfl (zh rfl h13 rfl (zh rfl h13 rfl (zh rfl h13 rfl (zt rfl h13 rfl rfl (za rfl rfl trivial (zf rfl rfl (zf rfl rfl (zf rfl rfl (zf rfl rfl (zf rfl rfl ?_)))))))))))
    refine za rfl rfl trivial (za rfl rfl trivial (zf rfl rfl (zf rfl rfl (zf rfl rfl (zf rfl rfl (zf rfl rfl (za rfl rfl trivial (za rfl rfl trivial (zf rfl rfl (zf rfl rfl (zf rfl rfl ?_)))))))))))
    refine zf rfl rfl (zf rfl rfl (za rfl rfl trivial (za rfl rfl trivial (zc (ze (zo ?_))))))
    have e25 : zcU a b = false := by
     unfold zcU
     try dsimp only
     rewrite [hJ1]
     try dsimp only
     rewrite [if_pos g11, if_neg g13]
     all_goals rfl
    rw [e25]
    exact zp rfl ⟨trivial, trivial⟩ (rfl) rfl
  ·have g11 : ¬ (maps_6 = true) := zaw h11
   refine zh rfl h11 rfl (zh rfl h11 rfl (zh rfl h11 rfl (zh rfl h11 rfl (zh rfl h11 rfl (zt rfl h11 rfl rfl (za rfl rfl trivial (zf rfl rfl (zf rfl rfl (zf rfl rfl (zf rfl rfl (zf rfl rfl ?_)))))))))))
   refine za rfl rfl trivial (za rfl rfl trivial (zf rfl rfl (zf rfl rfl (zf rfl rfl (zf rfl rfl (zf rfl rfl (za rfl rfl trivial (za rfl rfl trivial (zf rfl rfl (zf rfl rfl (zf rfl rfl ?_)))))))))))
   refine zf rfl rfl (zf rfl rfl (za rfl rfl trivial (za rfl rfl trivial (zf rfl rfl (zf rfl rfl (zf rfl rfl (zf rfl rfl (zf rfl rfl (za rfl rfl trivial (za rfl rfl trivial (zc ?_)))))))))))
   refine ze (zo ?_)
   have e26 : zcU a b = false := by
    unfold zcU
    try dsimp only
    rewrite [hJ1]
    try dsimp only
    rewrite [if_neg g11]
    all_goals rfl
   rw [e26]
   exact zp rfl ⟨trivial, trivial⟩ (rfl) rfl
end Go.Proofs.YtppnccjeggnllaaGreat

import Derived.Test.YtppnccjeggnllaaGreatSl
namespace Go.Proofs.YtppnccjeggnllaaGreat
open Go Go.RowKit Go.Proofs.YtppnccjeggnllaaGreatVm
attribute [local irreducible] opsWp AnswersE OpsS
set_option maxHeartbeats 400000
set_option maxRecDepth 100000
set_option linter.all false
theorem fidx_lt {α : Type} (p : α → Bool) (l : List α) : -1 ≤ fidx p l ∧ fidx p l < l.length := by
  rcases fidx_cases p l with ⟨h, _⟩ | ⟨k, x, h, h2, _⟩
  · rw [h]; omega
  · rw [h]; have := (List.getElem?_eq_some_iff.1 h2).1; omega

def side9 (n : Int) : Bool :=
  if (n : Int) ≥ 1 then (decide ((n : Int) ≤ 256)) else false
theorem side9_ok (n : Int) : Ok Tryz.prog 148 [I n] [] (B (side9 n)) [] [] := by
 refine ok_of_sem Tryz.func148 rfl ?_
 show Walks Tryz.prog _ _ ⟨[(0, I n)], [], 0, [], 9, 0⟩
 refine sem_seq (sem_region rfl (step_r rfl rfl trivial (step_nil (seqK_n (sem_seq (sem_region rfl (step_r rfl rfl trivial (step_bin rfl rfl rfl rfl rfl trivial (step_r rfl rfl trivial ?_)))))))))
 refine step_gs rfl (fun h3 => ?_) (fun h3 => ?_)
 ·have g3 : (n : Int) ≥ 1 := of_decide_eq_true h3
  refine step_g1 rfl h3 (step_r rfl rfl trivial (step_g1 rfl h3 (step_bin rfl rfl rfl rfl rfl trivial (step_pickT rfl h3 rfl rfl (step_r rfl rfl trivial (step_nil (seqK_n (sem_ret ?_))))))))
  have e5 : side9 n = (decide ((n : Int) ≤ 256)) := by
   unfold side9
   try dsimp only
   rewrite [if_pos g3]
   all_goals rfl
  rw [e5]
  exact answersR rfl ⟨trivial, trivial⟩ (rfl) rfl
 ·have g3 : ¬ ((n : Int) ≥ 1) := of_decide_eq_false h3
  refine step_g0 rfl h3 rfl (step_g0 rfl h3 rfl (step_pickF rfl h3 rfl rfl (step_r rfl rfl trivial (step_nil (seqK_n (sem_ret ?_))))))
  have e6 : side9 n = false := by
   unfold side9
   try dsimp only
   rewrite [if_neg g3]
   all_goals rfl
  rw [e6]
  exact answersR rfl ⟨trivial, trivial⟩ (rfl) rfl

structure GGrid where
  (W : Int)
  (H : Int)
  (Wall : List Bool)
  deriving DecidableEq, Inhabited
def encGGrid (x : GGrid) : List PV := [i64 x.W, i64 x.H, .slc x.Wall.length false (encB x.Wall)]
abbrev aGGrid (x : GGrid) : AV := .agg [I x.W, I x.H, .pv (.slc x.Wall.length false (encB x.Wall))]
def wfGGrid (x : GGrid) : Prop := (InR x.W) ∧ (InR x.H) ∧ (x.Wall.length ≤ 140737488355328)

def gridRight (g : GGrid) : Bool :=
  if side9 g.W = true then (if side9 g.H = true then ((g.Wall.length : Int) == (IntKind.i64.wrap (g.W * g.H))) else false) else false
theorem gridRight_ok (g : GGrid) : Ok Tryz.prog 140 [aGGrid g] [] (B (gridRight g)) [] [] := by
 refine Ok.len fun hlen => ?_
 have hl_g_Wall : g.Wall.length ≤ maxLen := hlen _ (by simp [lensL, lens, lensP])
 unfold maxLen at hl_g_Wall
 refine ok_of_sem Tryz.func140 rfl ?_
 show Walks Tryz.prog _ _ ⟨[(0, aGGrid g)], [], 0, [], 25, 0⟩
 refine sem_seq (sem_region rfl (step_n (o := .box [_, _, _]) (nx' := 1) rfl rfl rfl trivial (step_r rfl rfl trivial (step_nil (seqK_n (sem_seq (sem_region rfl (step_r rfl rfl trivial (step_nil (seqK_n (sem_seq ?_)))))))))))
 refine sem_region rfl (step_r rfl rfl trivial (step_r rfl rfl (by decide) (step_r rfl rfl trivial (step_call rfl rfl rfl rfl (side9_ok g.W) rfl rfl rfl (step_r rfl rfl trivial ?_)))))
 refine step_gs rfl (fun h2 => ?_) (fun h2 => ?_)
 ·have g2 : side9 g.W = true := h2
  refine step_g1 rfl h2 (step_r rfl rfl trivial (step_g1 rfl h2 (step_r rfl rfl (by decide) (step_g1 rfl h2 (step_r rfl rfl trivial (step_g1 rfl h2 (step_call rfl rfl rfl rfl (side9_ok g.H) rfl rfl rfl (step_pickT rfl h2 rfl rfl (step_r rfl rfl trivial ?_)))))))))
  refine step_gs rfl (fun h4 => ?_) (fun h4 => ?_)
  ·have g4 : side9 g.H = true := h4
   refine step_g1 rfl h4 (step_r rfl rfl (by decide) (step_g1 rfl h4 (step_r rfl rfl trivial (step_g1 rfl h4 (step_r rfl rfl trivial (step_g1 rfl h4 (step_r rfl rfl (by decide) (step_g1 rfl h4 (step_r rfl rfl trivial (step_g1 rfl h4 (step_r rfl rfl (by decide) ?_)))))))))))
   refine step_g1 rfl h4 (step_r rfl rfl trivial (step_g1 rfl h4 (step_bin rfl rfl rfl rfl rfl trivial (step_g1 rfl h4 (step_bin rfl rfl rfl rfl rfl trivial (step_pickT rfl h4 rfl rfl (step_r rfl rfl trivial (step_nil (seqK_n (sem_ret ?_))))))))))
   have e6 : gridRight g = ((g.Wall.length : Int) == (IntKind.i64.wrap (g.W * g.H))) := by
    unfold gridRight
    try dsimp only
    rewrite [if_pos g2, if_pos g4]
    all_goals rfl
   rw [e6]
   exact answersR rfl ⟨trivial, trivial⟩ (rfl) rfl
  ·have g4 : ¬ (side9 g.H = true) := boo_f h4
   refine step_g0 rfl h4 rfl (step_g0 rfl h4 rfl (step_g0 rfl h4 rfl (step_g0 rfl h4 rfl (step_g0 rfl h4 rfl (step_g0 rfl h4 rfl (step_g0 rfl h4 rfl (step_g0 rfl h4 rfl (step_g0 rfl h4 rfl (step_pickF rfl h4 rfl rfl (step_r rfl rfl trivial (step_nil ?_)))))))))))
   refine seqK_n (sem_ret ?_)
   have e7 : gridRight g = false := by
    unfold gridRight
    try dsimp only
    rewrite [if_pos g2, if_neg g4]
    all_goals rfl
   rw [e7]
   exact answersR rfl ⟨trivial, trivial⟩ (rfl) rfl
 ·have g2 : ¬ (side9 g.W = true) := boo_f h2
  refine step_g0 rfl h2 rfl (step_g0 rfl h2 rfl (step_g0 rfl h2 rfl (step_g0 rfl h2 rfl (step_pickF rfl h2 rfl rfl (step_r rfl rfl trivial (step_gf rfl rfl (step_gf rfl rfl (step_gf rfl rfl (step_gf rfl rfl (step_gf rfl rfl (step_gf rfl rfl ?_)))))))))))
  refine step_gf rfl rfl (step_gf rfl rfl (step_gf rfl rfl (step_r rfl rfl trivial (step_r rfl rfl trivial (step_nil (seqK_n (sem_ret ?_)))))))
  have e8 : gridRight g = false := by
   unfold gridRight
   try dsimp only
   rewrite [if_neg g2]
   all_goals rfl
  rw [e8]
  exact answersR rfl ⟨trivial, trivial⟩ (rfl) rfl

structure GPos where
  (X : Int)
  (Y : Int)
  deriving DecidableEq, Inhabited
def encGPos (x : GPos) : List PV := [i64 x.X, i64 x.Y]
abbrev aGPos (x : GPos) : AV := .agg [I x.X, I x.Y]
def wfGPos (x : GPos) : Prop := (InR x.X) ∧ (InR x.Y)
def inside9 (g : GGrid) (p : GPos) : Bool :=
  if (p.X : Int) ≥ 0 then (if (p.X : Int) < g.W then (if (p.Y : Int) ≥ 0 then (decide ((p.Y : Int) < g.H)) else false) else false) else false
theorem inside9_ok (g : GGrid) (p : GPos) : Ok Tryz.prog 141 [aGGrid g, aGPos p] [] (B (inside9 g p)) [] [] := by
 refine Ok.len fun hlen => ?_
 have hl_g_Wall : g.Wall.length ≤ maxLen := hlen _ (by simp [lensL, lens, lensP])
 unfold maxLen at hl_g_Wall
 refine ok_of_sem Tryz.func141 rfl ?_
 show Walks Tryz.prog _ _ ⟨[(0, aGGrid g), (1, aGPos p)], [], 0, [], 27, 0⟩
 refine sem_seq (sem_region rfl (step_n (o := .box [_, _, _]) (nx' := 1) rfl rfl rfl trivial (step_n (o := .box [_, _]) (nx' := 2) rfl rfl rfl trivial (step_r rfl rfl trivial (step_nil (seqK_n (sem_seq (sem_region rfl (step_r rfl rfl (by decide) (step_r rfl rfl trivial (step_bin rfl rfl rfl rfl rfl trivial ?_)))))))))))
 refine step_r rfl rfl trivial ?_
 refine step_gs rfl (fun h2 => ?_) (fun h2 => ?_)
 ·have g2 : (p.X : Int) ≥ 0 := of_decide_eq_true h2
  refine step_g1 rfl h2 (step_r rfl rfl (by decide) (step_g1 rfl h2 (step_r rfl rfl trivial (step_g1 rfl h2 (step_r rfl rfl (by decide) (step_g1 rfl h2 (step_r rfl rfl trivial (step_g1 rfl h2 (step_bin rfl rfl rfl rfl rfl trivial (step_pickT rfl h2 rfl rfl (step_r rfl rfl trivial ?_)))))))))))
  refine step_gs rfl (fun h4 => ?_) (fun h4 => ?_)
  ·have g4 : (p.X : Int) < g.W := of_decide_eq_true h4
   refine step_g1 rfl h4 (step_r rfl rfl (by decide) (step_g1 rfl h4 (step_r rfl rfl trivial (step_g1 rfl h4 (step_bin rfl rfl rfl rfl rfl trivial (step_pickT rfl h4 rfl rfl (step_r rfl rfl trivial ?_)))))))
   refine step_gs rfl (fun h6 => ?_) (fun h6 => ?_)
   ·have g6 : (p.Y : Int) ≥ 0 := of_decide_eq_true h6
    refine step_g1 rfl h6 (step_r rfl rfl (by decide) (step_g1 rfl h6 (step_r rfl rfl trivial (step_g1 rfl h6 (step_r rfl rfl (by decide) (step_g1 rfl h6 (step_r rfl rfl trivial (step_g1 rfl h6 (step_bin rfl rfl rfl rfl rfl trivial (step_pickT rfl h6 rfl rfl (step_r rfl rfl trivial ?_)))))))))))
    refine step_nil (seqK_n (sem_ret ?_))
    have e8 : inside9 g p = (decide ((p.Y : Int) < g.H)) := by
     unfold inside9
     try dsimp only
     rewrite [if_pos g2, if_pos g4, if_pos g6]
     all_goals rfl
    rw [e8]
    exact answersR rfl ⟨trivial, trivial⟩ (rfl) rfl
   ·have g6 : ¬ ((p.Y : Int) ≥ 0) := of_decide_eq_false h6
    refine step_g0 rfl h6 rfl (step_g0 rfl h6 rfl (step_g0 rfl h6 rfl (step_g0 rfl h6 rfl (step_g0 rfl h6 rfl (step_pickF rfl h6 rfl rfl (step_r rfl rfl trivial (step_nil (seqK_n (sem_ret ?_)))))))))
    have e9 : inside9 g p = false := by
     unfold inside9
     try dsimp only
     rewrite [if_pos g2, if_pos g4, if_neg g6]
     all_goals rfl
    rw [e9]
    exact answersR rfl ⟨trivial, trivial⟩ (rfl) rfl
  ·have g4 : ¬ ((p.X : Int) < g.W) := of_decide_eq_false h4
   refine step_g0 rfl h4 rfl (step_g0 rfl h4 rfl (step_g0 rfl h4 rfl (step_pickF rfl h4 rfl rfl (step_r rfl rfl trivial (step_gf rfl rfl (step_gf rfl rfl (step_gf rfl rfl (step_gf rfl rfl (step_gf rfl rfl (step_r rfl rfl trivial (step_r rfl rfl trivial ?_)))))))))))
   refine step_nil (seqK_n (sem_ret ?_))
   have e10 : inside9 g p = false := by
    unfold inside9
    try dsimp only
    rewrite [if_pos g2, if_neg g4]
    all_goals rfl
   rw [e10]
   exact answersR rfl ⟨trivial, trivial⟩ (rfl) rfl
 ·have g2 : ¬ ((p.X : Int) ≥ 0) := of_decide_eq_false h2
  refine step_g0 rfl h2 rfl (step_g0 rfl h2 rfl (step_g0 rfl h2 rfl (step_g0 rfl h2 rfl (step_g0 rfl h2 rfl (step_pickF rfl h2 rfl rfl (step_r rfl rfl trivial (step_gf rfl rfl (step_gf rfl rfl (step_gf rfl rfl (step_r rfl rfl trivial (step_r rfl rfl trivial ?_)))))))))))
  refine step_gf rfl rfl (step_gf rfl rfl (step_gf rfl rfl (step_gf rfl rfl (step_gf rfl rfl (step_r rfl rfl trivial (step_r rfl rfl trivial (step_nil (seqK_n (sem_ret ?_)))))))))
  have e11 : inside9 g p = false := by
   unfold inside9
   try dsimp only
   rewrite [if_neg g2]
   all_goals rfl
  rw [e11]
  exact answersR rfl ⟨trivial, trivial⟩ (rfl) rfl

def gridIn (g : GGrid) (p : GPos) : Bool :=
  if gridRight g = true then (inside9 g p) else false
theorem gridIn_ok (g : GGrid) (p : GPos) : Ok Tryz.prog 126 [aGGrid g, aGPos p] [] (B (gridIn g p)) [] [] := by
 refine Ok.len fun hlen => ?_
 have hl_g_Wall : g.Wall.length ≤ maxLen := hlen _ (by simp [lensL, lens, lensP])
 unfold maxLen at hl_g_Wall
 refine ok_of_sem Tryz.func126 rfl ?_
 show Walks Tryz.prog _ _ ⟨[(0, aGGrid g), (1, aGPos p)], [], 0, [], 12, 0⟩
 refine sem_seq (sem_region rfl (step_n (o := .box [_, _, _]) (nx' := 1) rfl rfl rfl trivial (step_n (o := .box [_, _]) (nx' := 2) rfl rfl rfl trivial (step_r rfl rfl trivial (step_nil (seqK_n (sem_seq (sem_region rfl (step_r (v := (.agg [_, _, _])) rfl rfl (Nat.le_of_ble_eq_true rfl) (step_call rfl rfl rfl rfl (gridRight_ok g) rfl rfl rfl (step_r rfl rfl trivial ?_)))))))))))
 refine step_gs rfl (fun h2 => ?_) (fun h2 => ?_)
 ·have g2 : gridRight g = true := h2
  refine step_g1 rfl h2 (step_r (v := (.agg [_, _, _])) rfl rfl (Nat.le_of_ble_eq_true rfl) (step_g1 rfl h2 (step_r (v := (.agg [_, _])) rfl rfl (Nat.le_of_ble_eq_true rfl) (step_g1 rfl h2 (step_call rfl rfl rfl rfl (inside9_ok g p) rfl rfl rfl (step_pickT rfl h2 rfl rfl (step_r rfl rfl trivial (step_nil (seqK_n (sem_ret ?_))))))))))
  have e4 : gridIn g p = (inside9 g p) := by
   unfold gridIn
   try dsimp only
   rewrite [if_pos g2]
   all_goals rfl
  rw [e4]
  exact answersR rfl ⟨trivial, trivial⟩ (rfl) rfl
 ·have g2 : ¬ (gridRight g = true) := boo_f h2
  refine step_g0 rfl h2 rfl (step_g0 rfl h2 rfl (step_g0 rfl h2 rfl (step_pickF rfl h2 rfl rfl (step_r rfl rfl trivial (step_nil (seqK_n (sem_ret ?_)))))))
  have e5 : gridIn g p = false := by
   unfold gridIn
   try dsimp only
   rewrite [if_neg g2]
   all_goals rfl
  rw [e5]
  exact answersR rfl ⟨trivial, trivial⟩ (rfl) rfl

theorem side_iff {n : Int} : side9 n = true ↔ 1 ≤ n ∧ n ≤ 256 := by
  unfold side9
  split <;> simp <;> omega
theorem gridRight_iff {g : GGrid} : gridRight g = true ↔ (1 ≤ g.W ∧ g.W ≤ 256) ∧ (1 ≤ g.H ∧ g.H ≤ 256) ∧ (g.Wall.length : Int) = IntKind.i64.wrap (g.W * g.H) := by
  unfold gridRight
  by_cases h1 : side9 g.W = true
  · rw [if_pos h1]
    by_cases h2 : side9 g.H = true
    · rw [if_pos h2]; simp only [beq_iff_eq]; exact ⟨fun h => ⟨side_iff.1 h1, side_iff.1 h2, h⟩, fun h => h.2.2⟩
    · rw [if_neg h2]; exact ⟨(fun h => by cases h), fun h => absurd (side_iff.2 h.2.1) h2⟩
  · rw [if_neg h1]; exact ⟨(fun h => by cases h), fun h => absurd (side_iff.2 h.1) h1⟩
theorem inside_iff {g : GGrid} {p : GPos} : inside9 g p = true ↔ 0 ≤ p.X ∧ p.X < g.W ∧ 0 ≤ p.Y ∧ p.Y < g.H := by
  unfold inside9
  repeat' split
  all_goals simp <;> omega
theorem wall_at {g : GGrid} {p : GPos} (h : gridIn g p = true) : 0 ≤ IntKind.i64.wrap (IntKind.i64.wrap (p.Y * g.W) + p.X) ∧ IntKind.i64.wrap (IntKind.i64.wrap (p.Y * g.W) + p.X) < g.Wall.length := by
  unfold gridIn at h
  split at h
  case isFalse => cases h
  rename_i h1
  obtain ⟨h1, h2, h0⟩ := gridRight_iff.1 h1
  have h := inside_iff.1 h
  have a1 : p.Y * g.W ≤ (g.H - 1) * g.W := Int.mul_le_mul_of_nonneg_right (by omega) (by omega)
  have a2 : 0 ≤ p.Y * g.W := Int.mul_nonneg (by omega) (by omega)
  have a3 : g.H * g.W ≤ 256 * g.W := Int.mul_le_mul_of_nonneg_right (by omega) (by omega)
  rw [Int.sub_mul] at a1
  rw [Int.mul_comm g.W g.H] at h0
  generalize p.Y * g.W = a at *
  generalize g.H * g.W = b at *
  simp only [IntKind.wrap_i64] at *
  omega


def wall9 (g : GGrid) (p : GPos) : Bool :=
  (g.Wall.getD ((IntKind.i64.wrap ((IntKind.i64.wrap (p.Y * g.W)) + p.X)).toNat) default)
theorem wall9_ok (g : GGrid) (p : GPos) (hin : gridIn g p = true) : Ok Tryz.prog 127 [aGGrid g, aGPos p] [] (B (wall9 g p)) [] [] := by
 refine Ok.len fun hlen => ?_
 have hl_g_Wall : g.Wall.length ≤ maxLen := hlen _ (by simp [lensL, lens, lensP])
 unfold maxLen at hl_g_Wall
 have hw9 := wall_at hin
 refine ok_of_sem Tryz.func127 rfl ?_
 show Walks Tryz.prog _ _ ⟨[(0, aGGrid g), (1, aGPos p)], [], 0, [], 17, 0⟩
 refine sem_seq (sem_region rfl (step_n (o := .box [_, _, _]) (nx' := 1) rfl rfl rfl trivial (step_n (o := .box [_, _]) (nx' := 2) rfl rfl rfl trivial (step_r rfl rfl trivial (step_nil (seqK_n (sem_seq (sem_region rfl (step_r rfl rfl (by decide) (step_r rfl rfl trivial (step_r rfl rfl (by decide) ?_)))))))))))
 refine step_r rfl rfl trivial (step_r rfl rfl (by decide) (step_r rfl rfl trivial (step_bin rfl rfl rfl rfl rfl trivial (step_r rfl rfl (by decide) (step_r rfl rfl trivial (step_bin rfl rfl rfl rfl rfl trivial ?_))))))
 have jk1 : (IntKind.i64.wrap ((IntKind.i64.wrap (p.Y * g.W)) + p.X)).toNat < g.Wall.length := by first | assumption | omega | (simp only [List.length_set, List.length_append]; omega) | (simp only [IntKind.wrap_i64] at *; omega) | (simp; omega) | simp_all
 refine step_idxS' (k := (IntKind.i64.wrap ((IntKind.i64.wrap (p.Y * g.W)) + p.X)).toNat) rfl rfl (Int.toNat_of_nonneg (by first | omega | (simp only [IntKind.wrap_i64]; omega) | (simp only [IntKind.wrap_i64] at *; omega) | (simp; omega))).symm rfl rfl jk1 (encB_ne jk1) rfl ?_
 refine step_load_one rfl rfl rfl (encB_get (get_getD jk1)) rfl (step_r rfl rfl trivial (step_nil (seqK_n (sem_ret ?_))))
 have e3 : wall9 g p = (g.Wall.getD ((IntKind.i64.wrap ((IntKind.i64.wrap (p.Y * g.W)) + p.X)).toNat) default) := by
  unfold wall9
  try dsimp only
  all_goals rfl
 rw [e3]
 exact answersR rfl ⟨trivial, trivial⟩ (rfl) rfl

def gridWall (g : GGrid) (p : GPos) : Bool :=
  if gridIn g p = true then (wall9 g p) else true
theorem gridWall_ok (g : GGrid) (p : GPos) : Ok Tryz.prog 100 [aGGrid g, aGPos p] [] (B (gridWall g p)) [] [] := by
 refine Ok.len fun hlen => ?_
 have hl_g_Wall : g.Wall.length ≤ maxLen := hlen _ (by simp [lensL, lens, lensP])
 unfold maxLen at hl_g_Wall
 refine ok_of_sem Tryz.func100 rfl ?_
 show Walks Tryz.prog _ _ ⟨[(0, aGGrid g), (1, aGPos p)], [], 0, [], 14, 0⟩
 refine sem_seq (sem_region rfl (step_n (o := .box [_, _, _]) (nx' := 1) rfl rfl rfl trivial (step_n (o := .box [_, _]) (nx' := 2) rfl rfl rfl trivial (step_r rfl rfl trivial (step_nil (seqK_n (sem_seq (sem_region rfl (step_r (v := (.agg [_, _, _])) rfl rfl (Nat.le_of_ble_eq_true rfl) (step_r (v := (.agg [_, _])) rfl rfl (Nat.le_of_ble_eq_true rfl) (step_call rfl rfl rfl rfl (gridIn_ok g p) rfl rfl rfl ?_)))))))))))
 refine step_r rfl rfl trivial (step_r rfl rfl trivial ?_)
 refine step_gs rfl (fun h2 => ?_) (fun h2 => ?_)
 ·have g2 : ¬ (gridIn g p = true) := boo_f (not_t h2)
  refine step_g0 rfl h2 rfl (step_g0 rfl h2 rfl (step_g0 rfl h2 rfl (step_pickT rfl h2 rfl rfl (step_r rfl rfl trivial (step_nil (seqK_n (sem_ret ?_)))))))
  have e3 : gridWall g p = true := by
   unfold gridWall
   try dsimp only
   rewrite [if_neg g2]
   all_goals rfl
  rw [e3]
  exact answersR rfl ⟨trivial, trivial⟩ (rfl) rfl
 ·have g2 : gridIn g p = true := (not_f h2)
  refine step_g1 rfl h2 (step_r (v := (.agg [_, _, _])) rfl rfl (Nat.le_of_ble_eq_true rfl) (step_g1 rfl h2 (step_r (v := (.agg [_, _])) rfl rfl (Nat.le_of_ble_eq_true rfl) (step_g1 rfl h2 (step_call rfl rfl rfl rfl (wall9_ok g p (by first | assumption | simp_all)) rfl rfl rfl (step_pickF rfl h2 rfl rfl (step_r rfl rfl trivial (step_nil (seqK_n (sem_ret ?_))))))))))
  have e5 : gridWall g p = (wall9 g p) := by
   unfold gridWall
   try dsimp only
   rewrite [if_pos g2]
   all_goals rfl
  rw [e5]
  exact answersR rfl ⟨trivial, trivial⟩ (rfl) rfl

def within9 (n : Int) (lo : Int) (hi : Int) : Bool :=
  if (n : Int) ≥ lo then (decide ((n : Int) ≤ hi)) else false
theorem within9_ok (n : Int) (lo : Int) (hi : Int) : Ok Tryz.prog 116 [I n, I lo, I hi] [] (B (within9 n lo hi)) [] [] := by
 refine ok_of_sem Tryz.func116 rfl ?_
 show Walks Tryz.prog _ _ ⟨[(0, I n), (1, I lo), (2, I hi)], [], 0, [], 15, 0⟩
 refine sem_seq (sem_region rfl (step_r rfl rfl trivial (step_nil (seqK_n (sem_seq (sem_region rfl (step_r rfl rfl trivial (step_r rfl rfl trivial (step_bin rfl rfl rfl rfl rfl trivial (step_r rfl rfl trivial ?_))))))))))
 refine step_gs rfl (fun h4 => ?_) (fun h4 => ?_)
 ·have g4 : (n : Int) ≥ lo := of_decide_eq_true h4
  refine step_g1 rfl h4 (step_r rfl rfl trivial (step_g1 rfl h4 (step_r rfl rfl trivial (step_g1 rfl h4 (step_bin rfl rfl rfl rfl rfl trivial (step_pickT rfl h4 rfl rfl (step_r rfl rfl trivial (step_nil (seqK_n (sem_ret ?_))))))))))
  have e7 : within9 n lo hi = (decide ((n : Int) ≤ hi)) := by
   unfold within9
   try dsimp only
   rewrite [if_pos g4]
   all_goals rfl
  rw [e7]
  exact answersR rfl ⟨trivial, trivial⟩ (rfl) rfl
 ·have g4 : ¬ ((n : Int) ≥ lo) := of_decide_eq_false h4
  refine step_g0 rfl h4 rfl (step_g0 rfl h4 rfl (step_g0 rfl h4 rfl (step_pickF rfl h4 rfl rfl (step_r rfl rfl trivial (step_nil (seqK_n (sem_ret ?_)))))))
  have e8 : within9 n lo hi = false := by
   unfold within9
   try dsimp only
   rewrite [if_neg g4]
   all_goals rfl
  rw [e8]
  exact answersR rfl ⟨trivial, trivial⟩ (rfl) rfl

def amount9 (n : Int) : Bool :=
  (!(within9 n 0 1000000))
theorem amount9_ok (n : Int) : Ok Tryz.prog 134 [I n] [] (B (amount9 n)) [] [] := by
 refine ok_of_sem Tryz.func134 rfl ?_
 show Walks Tryz.prog _ _ ⟨[(0, I n)], [], 0, [], 6, 0⟩
 refine sem_seq (sem_region rfl (step_r rfl rfl trivial (step_nil (seqK_n (sem_seq (sem_region rfl (step_r rfl rfl trivial (step_call rfl rfl rfl rfl (within9_ok n 0 1000000) rfl rfl rfl (step_r rfl rfl trivial (step_r rfl rfl trivial (step_nil ?_)))))))))))
 refine seqK_n (sem_ret ?_)
 have e3 : amount9 n = (!(within9 n 0 1000000)) := by
  unfold amount9
  try dsimp only
  all_goals rfl
 rw [e3]
 exact answersR rfl ⟨trivial, trivial⟩ (rfl) rfl

def amounts9 (l : List Int) : Bool :=
  (!(l.any (fun x_ => amount9 x_)))
theorem amounts9_ok (l : List Int) (l_f : Bool) : Ok Tryz.prog 115 [.pv (.slc l.length l_f (encI l))] [] (B (amounts9 l)) [] [] := by
 refine Ok.len fun hlen => ?_
 have hl_l : l.length ≤ maxLen := hlen _ (by simp [lensL, lens, lensP])
 unfold maxLen at hl_l
 refine ok_of_sem Tryz.func115 rfl ?_
 show Walks Tryz.prog _ _ ⟨[(0, .pv (.slc l.length l_f (encI l)))], [], 0, [], 6, 0⟩
 refine sem_seq (sem_region rfl (step_r rfl rfl trivial (step_nil (seqK_n (sem_seq (sem_region rfl (step_r rfl rfl trivial (step_call rfl rfl rfl rfl (hasf_Int l l_f 134 [] (fun x_ => amount9 x_) ⟨rfl, rfl, fun _ => rfl, fun _ => rfl, fun x_ => amount9_ok x_⟩) rfl rfl rfl (step_r rfl rfl trivial (step_r rfl rfl trivial (step_nil ?_)))))))))))
 refine seqK_n (sem_ret ?_)
 have e2 : amounts9 l = (!(l.any (fun x_ => amount9 x_))) := by
  unfold amounts9
  try dsimp only
  all_goals rfl
 rw [e2]
 exact answersR rfl ⟨trivial, trivial⟩ (rfl) rfl

def idA (a : GAbility) : Int :=
  a.Id
theorem idA_ok (a : GAbility) : Ok Tryz.prog 90 [aGAbility a] [] (I (idA a)) [] [] := by
 refine Ok.len fun hlen => ?_
 have hl_a_Effects : a.Effects.length ≤ maxLen := hlen _ (by simp [lensL, lens, lensP])
 unfold maxLen at hl_a_Effects
 refine ok_of_sem Tryz.func90 rfl ?_
 show Walks Tryz.prog _ _ ⟨[(0, aGAbility a)], [], 0, [], 5, 0⟩
 refine sem_seq (sem_region rfl (step_n (o := .box [_, _, _, _, _, _, _, _]) (nx' := 1) rfl rfl rfl trivial (step_r rfl rfl trivial (step_nil (seqK_n (sem_seq (sem_region rfl (step_r rfl rfl (by decide) (step_r rfl rfl trivial (step_r rfl rfl trivial (step_nil ?_)))))))))))
 refine seqK_n (sem_ret ?_)
 have e2 : idA a = a.Id := by
  unfold idA
  try dsimp only
  all_goals rfl
 rw [e2]
 exact answersR rfl ⟨trivial, trivial⟩ (rfl) rfl

def isA (x_ : GAbility) (c2 : Int) : Bool :=
  ((idA x_ : Int) == c2)
theorem isA_ok (x_ : GAbility) (c2 : Int) : Ok Tryz.prog 152 [aGAbility x_, .pptr [.fn 90] 0, .pptr [i64 c2] 0] [] (B (isA x_ c2)) [] [] := by
 refine Ok.len fun hlen => ?_
 have hl_x__Effects : x_.Effects.length ≤ maxLen := hlen _ (by simp [lensL, lens, lensP])
 unfold maxLen at hl_x__Effects
 refine ok_of_sem Tryz.func152 rfl ?_
 show Walks Tryz.prog _ _ ⟨[(0, aGAbility x_), (1, .pptr [.fn 90] 0), (2, .pptr [i64 c2] 0)], [], 0, [], 10, 0⟩
 refine sem_seq (sem_region rfl (step_n (o := .box [_, _, _, _, _, _, _, _]) (nx' := 1) rfl rfl rfl trivial (step_r rfl rfl trivial (step_nil (seqK_n (sem_seq ?_))))))
 refine sem_drawn rfl (by decide +kernel) rfl ?_
 refine step_load_one rfl rfl rfl (rfl) rfl (step_r (v := (.agg [_, _, _, _, _, _, _, _])) rfl rfl (Nat.le_of_ble_eq_true rfl) (step_call rfl rfl rfl rfl (idA_ok x_) rfl rfl rfl (step_load_one rfl rfl rfl (rfl) rfl (step_bin rfl rfl rfl rfl rfl trivial (step_r rfl rfl trivial (step_nil (seqK_n (sem_ret ?_))))))))
 have e2 : isA x_ c2 = ((idA x_ : Int) == c2) := by
  unfold isA
  try dsimp only
  all_goals rfl
 rw [e2]
 exact answersR rfl ⟨trivial, trivial⟩ (rfl) rfl

def findA (l : List GAbility) (want : Int) : GAbility × Bool :=
  if (fidx (fun x_ => isA x_ want) l : Int) < 0 then ((⟨0, 0, 0, 0, 0, 0, false, []⟩ : GAbility), false) else ((l.getD ((fidx (fun x_ => isA x_ want) l).toNat) default), true)
theorem findA_ok (l : List GAbility) (l_f : Bool) (want : Int) : Ok Tryz.prog 146 [.pv (.slc l.length l_f (l.flatMap encGAbility)), .fnc 90 [], I want] [] (.tup [aGAbility (findA l want).1, B (findA l want).2]) [] [] := by
 refine Ok.len fun hlen => ?_
 have hl_l : l.length ≤ maxLen := hlen _ (by simp [lensL, lens, lensP])
 unfold maxLen at hl_l
 refine ok_of_sem Tryz.func146 rfl ?_
 show Walks Tryz.prog _ _ ⟨[(0, .pv (.slc l.length l_f (l.flatMap encGAbility))), (1, .fnc 90 []), (2, I want)], [], 0, [], 19, 0⟩
 refine sem_trans (Trans.loose (T' := [(0, .pv (.slc l.length l_f (l.flatMap encGAbility))), (1, .pv (.fn 90)), (2, I want)]) (H' := []) ⟨⟨_, rfl, .inl rfl⟩, ⟨_, rfl, .inr rfl⟩, ⟨_, rfl, .inl rfl⟩, trivial⟩ trivial) ?_
 refine sem_seq (sem_region rfl (step_n (o := .box [_]) (nx' := 1) rfl rfl rfl trivial (step_n (o := .box [_]) (nx' := 2) rfl rfl rfl trivial (step_n (o := .box [_, _, _, _, _, _, _, _]) (nx' := 3) rfl rfl rfl trivial (step_r rfl rfl trivial (step_nil (seqK_n (sem_seq (sem_region rfl (step_r rfl rfl trivial (step_r rfl rfl trivial ?_)))))))))))
 refine step_callJ (Hin := [.box [.pv _], .box [.pv _]]) (H' := [(2, _), (1, _), (0, _)]) (nx' := 3) [0, 1] rfl rfl rfl rfl rfl rfl rfl rfl rfl (by (repeat' apply And.intro) <;> first | trivial | rfl | exact flat_len (fun _ => rfl) _ | exact encI_len _ | exact encB_len _ | exact encY_len _ | exact Nat.le_of_ble_eq_true rfl | assumption) (ixf_GAbility l false 152 [.pptr [.fn 90] 0, .pptr [i64 want] 0] (fun x_ => isA x_ want) ⟨rfl, rfl, fun _ => rfl, fun _ => rfl, fun x_ => isA_ok x_ want⟩) rfl (by decide) rfl rfl trivial rfl rfl rfl rfl ?_
 have p1 := fidx_lt (fun x_ => isA x_ want) l
 refine step_r rfl rfl trivial (step_nil (seqK_n (sem_seq (sem_seq (sem_region rfl (step_r rfl rfl trivial (step_bin rfl rfl rfl rfl rfl trivial (step_nil (seqK_n ?_)))))))))
 refine sem_cond rfl (fun h3 => ?_) (fun h3 => ?_)
 ·have g3 : (fidx (fun x_ => isA x_ want) l : Int) < 0 := of_decide_eq_true h3
  refine sem_seq (sem_region rfl (step_r (v := (.agg [_, _, _, _, _, _, _, _])) rfl rfl (Nat.le_of_ble_eq_true rfl) ?_))
  refine step_storeB (H' := [(2, .box [_, _, _, _, _, _, _, _]), (1, _), (0, _)]) rfl rfl rfl rfl rfl rfl (.inl rfl) rfl ?_
  refine step_r rfl rfl trivial (step_nil (seqK_n ?_))
  refine sem_trans (Trans.loose (T' := [(6, .ptr 2 0), (7, B false)]) (H' := [(2, .box [I 0, I 0, I 0, I 0, I 0, I 0, B false, .pv (.slc 0 false [])])]) ⟨⟨_, rfl, .inl rfl⟩, ⟨_, rfl, .inl rfl⟩, trivial⟩ ⟨⟨_, rfl, .inr rfl⟩, trivial⟩) ?_
  refine sem_ret (seqK_r ?_)
  have e4 : findA l want = ((⟨0, 0, 0, 0, 0, 0, false, []⟩ : GAbility), false) := by
   unfold findA
   try dsimp only
   rewrite [if_pos g3]
   all_goals rfl
  rw [e4]
  exact answersR rfl ⟨Nat.le_of_ble_eq_true rfl, trivial, trivial⟩ (rfl) rfl
 ·have g3 : ¬ ((fidx (fun x_ => isA x_ want) l : Int) < 0) := of_decide_eq_false h3
  refine sem_skip (seqK_n (sem_seq (sem_region rfl (step_r rfl rfl trivial (step_r rfl rfl trivial ?_)))))
  have jk5 : (fidx (fun x_ => isA x_ want) l).toNat < l.length := by first | assumption | omega | (simp only [List.length_set, List.length_append]; omega) | (simp only [IntKind.wrap_i64] at *; omega) | (simp; omega) | simp_all
  refine step_idxS' (k := (fidx (fun x_ => isA x_ want) l).toNat) rfl rfl (Int.toNat_of_nonneg (by first | omega | (simp only [IntKind.wrap_i64]; omega) | (simp only [IntKind.wrap_i64] at *; omega) | (simp; omega))).symm rfl rfl jk5 (flat_ne (s := 8) (enc := encGAbility) (fun _ => rfl) (by decide) jk5) rfl ?_
  refine step_load_row rfl rfl rfl (flat_lt (s := 8) (enc := encGAbility) (fun _ => rfl) jk5) (flat_take (s := 8) (enc := encGAbility) (fun _ => rfl) (get_getD jk5)) rfl ?_
  refine step_storeB (H' := [(2, .box [_, _, _, _, _, _, _, _]), (1, _), (0, _)]) rfl rfl rfl rfl rfl rfl (.inl rfl) rfl ?_
  refine step_r rfl rfl trivial (step_nil (seqK_n (sem_ret ?_)))
  have e6 : findA l want = ((l.getD ((fidx (fun x_ => isA x_ want) l).toNat) default), true) := by
   unfold findA
   try dsimp only
   rewrite [if_neg g3]
   all_goals rfl
  rw [e6]
  exact answersR rfl ⟨Nat.le_of_ble_eq_true rfl, trivial, trivial⟩ (rfl) rfl

def idU (a : GAura) : Int :=
  a.Id
theorem idU_ok (a : GAura) : Ok Tryz.prog 94 [aGAura a] [] (I (idU a)) [] [] := by
 refine ok_of_sem Tryz.func94 rfl ?_
 show Walks Tryz.prog _ _ ⟨[(0, aGAura a)], [], 0, [], 5, 0⟩
 refine sem_seq (sem_region rfl (step_n (o := .box [_, _, _, _, _, _, _]) (nx' := 1) rfl rfl rfl trivial (step_r rfl rfl trivial (step_nil (seqK_n (sem_seq (sem_region rfl (step_r rfl rfl (by decide) (step_r rfl rfl trivial (step_r rfl rfl trivial (step_nil ?_)))))))))))
 refine seqK_n (sem_ret ?_)
 have e2 : idU a = a.Id := by
  unfold idU
  try dsimp only
  all_goals rfl
 rw [e2]
 exact answersR rfl ⟨trivial, trivial⟩ (rfl) rfl

def isU (x_ : GAura) (c2 : Int) : Bool :=
  ((idU x_ : Int) == c2)
theorem isU_ok (x_ : GAura) (c2 : Int) : Ok Tryz.prog 150 [aGAura x_, .pptr [.fn 94] 0, .pptr [i64 c2] 0] [] (B (isU x_ c2)) [] [] := by
 refine ok_of_sem Tryz.func150 rfl ?_
 show Walks Tryz.prog _ _ ⟨[(0, aGAura x_), (1, .pptr [.fn 94] 0), (2, .pptr [i64 c2] 0)], [], 0, [], 10, 0⟩
 refine sem_seq (sem_region rfl (step_n (o := .box [_, _, _, _, _, _, _]) (nx' := 1) rfl rfl rfl trivial (step_r rfl rfl trivial (step_nil (seqK_n (sem_seq ?_))))))
 refine sem_drawn rfl (by decide +kernel) rfl ?_
 refine step_load_one rfl rfl rfl (rfl) rfl (step_r (v := (.agg [_, _, _, _, _, _, _])) rfl rfl (Nat.le_of_ble_eq_true rfl) (step_call rfl rfl rfl rfl (idU_ok x_) rfl rfl rfl (step_load_one rfl rfl rfl (rfl) rfl (step_bin rfl rfl rfl rfl rfl trivial (step_r rfl rfl trivial (step_nil (seqK_n (sem_ret ?_))))))))
 have e2 : isU x_ c2 = ((idU x_ : Int) == c2) := by
  unfold isU
  try dsimp only
  all_goals rfl
 rw [e2]
 exact answersR rfl ⟨trivial, trivial⟩ (rfl) rfl

def findU (l : List GAura) (want : Int) : GAura × Bool :=
  if (fidx (fun x_ => isU x_ want) l : Int) < 0 then ((⟨0, 0, 0, 0, 0, 0, false⟩ : GAura), false) else ((l.getD ((fidx (fun x_ => isU x_ want) l).toNat) default), true)
theorem findU_ok (l : List GAura) (l_f : Bool) (want : Int) : Ok Tryz.prog 145 [.pv (.slc l.length l_f (l.flatMap encGAura)), .fnc 94 [], I want] [] (.tup [aGAura (findU l want).1, B (findU l want).2]) [] [] := by
 refine Ok.len fun hlen => ?_
 have hl_l : l.length ≤ maxLen := hlen _ (by simp [lensL, lens, lensP])
 unfold maxLen at hl_l
 refine ok_of_sem Tryz.func145 rfl ?_
 show Walks Tryz.prog _ _ ⟨[(0, .pv (.slc l.length l_f (l.flatMap encGAura))), (1, .fnc 94 []), (2, I want)], [], 0, [], 19, 0⟩
 refine sem_trans (Trans.loose (T' := [(0, .pv (.slc l.length l_f (l.flatMap encGAura))), (1, .pv (.fn 94)), (2, I want)]) (H' := []) ⟨⟨_, rfl, .inl rfl⟩, ⟨_, rfl, .inr rfl⟩, ⟨_, rfl, .inl rfl⟩, trivial⟩ trivial) ?_
 refine sem_seq (sem_region rfl (step_n (o := .box [_]) (nx' := 1) rfl rfl rfl trivial (step_n (o := .box [_]) (nx' := 2) rfl rfl rfl trivial (step_n (o := .box [_, _, _, _, _, _, _]) (nx' := 3) rfl rfl rfl trivial (step_r rfl rfl trivial (step_nil (seqK_n (sem_seq (sem_region rfl (step_r rfl rfl trivial (step_r rfl rfl trivial ?_)))))))))))
 refine step_callJ (Hin := [.box [.pv _], .box [.pv _]]) (H' := [(2, _), (1, _), (0, _)]) (nx' := 3) [0, 1] rfl rfl rfl rfl rfl rfl rfl rfl rfl (by (repeat' apply And.intro) <;> first | trivial | rfl | exact flat_len (fun _ => rfl) _ | exact encI_len _ | exact encB_len _ | exact encY_len _ | exact Nat.le_of_ble_eq_true rfl | assumption) (ixf_GAura l false 150 [.pptr [.fn 94] 0, .pptr [i64 want] 0] (fun x_ => isU x_ want) ⟨rfl, rfl, fun _ => rfl, fun _ => rfl, fun x_ => isU_ok x_ want⟩) rfl (by decide) rfl rfl trivial rfl rfl rfl rfl ?_
 have p1 := fidx_lt (fun x_ => isU x_ want) l
 refine step_r rfl rfl trivial (step_nil (seqK_n (sem_seq (sem_seq (sem_region rfl (step_r rfl rfl trivial (step_bin rfl rfl rfl rfl rfl trivial (step_nil (seqK_n ?_)))))))))
 refine sem_cond rfl (fun h3 => ?_) (fun h3 => ?_)
 ·have g3 : (fidx (fun x_ => isU x_ want) l : Int) < 0 := of_decide_eq_true h3
  refine sem_seq (sem_region rfl (step_r (v := (.agg [_, _, _, _, _, _, _])) rfl rfl (Nat.le_of_ble_eq_true rfl) ?_))
  refine step_storeB (H' := [(2, .box [_, _, _, _, _, _, _]), (1, _), (0, _)]) rfl rfl rfl rfl rfl rfl (.inl rfl) rfl ?_
  refine step_r rfl rfl trivial (step_nil (seqK_n (sem_ret (seqK_r ?_))))
  have e4 : findU l want = ((⟨0, 0, 0, 0, 0, 0, false⟩ : GAura), false) := by
   unfold findU
   try dsimp only
   rewrite [if_pos g3]
   all_goals rfl
  rw [e4]
  exact answersR rfl ⟨Nat.le_of_ble_eq_true rfl, trivial, trivial⟩ (rfl) rfl
 ·have g3 : ¬ ((fidx (fun x_ => isU x_ want) l : Int) < 0) := of_decide_eq_false h3
  refine sem_skip (seqK_n (sem_seq (sem_region rfl (step_r rfl rfl trivial (step_r rfl rfl trivial ?_)))))
  have jk5 : (fidx (fun x_ => isU x_ want) l).toNat < l.length := by first | assumption | omega | (simp only [List.length_set, List.length_append]; omega) | (simp only [IntKind.wrap_i64] at *; omega) | (simp; omega) | simp_all
  refine step_idxS' (k := (fidx (fun x_ => isU x_ want) l).toNat) rfl rfl (Int.toNat_of_nonneg (by first | omega | (simp only [IntKind.wrap_i64]; omega) | (simp only [IntKind.wrap_i64] at *; omega) | (simp; omega))).symm rfl rfl jk5 (flat_ne (s := 7) (enc := encGAura) (fun _ => rfl) (by decide) jk5) rfl ?_
  refine step_load_row rfl rfl rfl (flat_lt (s := 7) (enc := encGAura) (fun _ => rfl) jk5) (flat_take (s := 7) (enc := encGAura) (fun _ => rfl) (get_getD jk5)) rfl ?_
  refine step_storeB (H' := [(2, .box [_, _, _, _, _, _, _]), (1, _), (0, _)]) rfl rfl rfl rfl rfl rfl (.inl rfl) rfl ?_
  refine step_r rfl rfl trivial (step_nil (seqK_n (sem_ret ?_)))
  have e6 : findU l want = ((l.getD ((fidx (fun x_ => isU x_ want) l).toNat) default), true) := by
   unfold findU
   try dsimp only
   rewrite [if_neg g3]
   all_goals rfl
  rw [e6]
  exact answersR rfl ⟨Nat.le_of_ble_eq_true rfl, trivial, trivial⟩ (rfl) rfl

def idF (f : GFoe) : Int :=
  f.Id
theorem idF_ok (f : GFoe) : Ok Tryz.prog 97 [aGFoe f] [] (I (idF f)) [] [] := by
 refine Ok.len fun hlen => ?_
 have hl_f_Script : f.Script.length ≤ maxLen := hlen _ (by simp [lensL, lens, lensP])
 have hl_f_Hoard : f.Hoard.length ≤ maxLen := hlen _ (by simp [lensL, lens, lensP])
 unfold maxLen at hl_f_Script hl_f_Hoard
 refine ok_of_sem Tryz.func97 rfl ?_
 show Walks Tryz.prog _ _ ⟨[(0, aGFoe f)], [], 0, [], 5, 0⟩
 refine sem_seq (sem_region rfl (step_n (o := .box [_, _, _, _, _, _, _, _]) (nx' := 1) rfl rfl rfl trivial (step_r rfl rfl trivial (step_nil (seqK_n (sem_seq (sem_region rfl (step_r rfl rfl (by decide) (step_r rfl rfl trivial (step_r rfl rfl trivial (step_nil ?_)))))))))))
 refine seqK_n (sem_ret ?_)
 have e2 : idF f = f.Id := by
  unfold idF
  try dsimp only
  all_goals rfl
 rw [e2]
 exact answersR rfl ⟨trivial, trivial⟩ (rfl) rfl

structure GContent where
  (Abilities : List GAbility)
  (Auras : List GAura)
  (Foes : List GFoe)
  (Map : GGrid)
  (Door : GPos)
  (Lair : GPos)
  deriving DecidableEq, Inhabited
def encGContent (x : GContent) : List PV := [.slc x.Abilities.length false (x.Abilities.flatMap encGAbility), .slc x.Auras.length false (x.Auras.flatMap encGAura), .slc x.Foes.length false (x.Foes.flatMap encGFoe), i64 x.Map.W, i64 x.Map.H, .slc x.Map.Wall.length false (encB x.Map.Wall), i64 x.Door.X, i64 x.Door.Y, i64 x.Lair.X, i64 x.Lair.Y]
abbrev aGContent (x : GContent) : AV := .agg [.pv (.slc x.Abilities.length false (x.Abilities.flatMap encGAbility)), .pv (.slc x.Auras.length false (x.Auras.flatMap encGAura)), .pv (.slc x.Foes.length false (x.Foes.flatMap encGFoe)), I x.Map.W, I x.Map.H, .pv (.slc x.Map.Wall.length false (encB x.Map.Wall)), I x.Door.X, I x.Door.Y, I x.Lair.X, I x.Lair.Y]
def wfGContent (x : GContent) : Prop := ((∀ y ∈ x.Abilities, wfGAbility y) ∧ x.Abilities.length ≤ 140737488355328) ∧ ((∀ y ∈ x.Auras, wfGAura y) ∧ x.Auras.length ≤ 140737488355328) ∧ ((∀ y ∈ x.Foes, wfGFoe y) ∧ x.Foes.length ≤ 140737488355328) ∧ (wfGGrid x.Map) ∧ (wfGPos x.Door) ∧ (wfGPos x.Lair)

structure Few9 (c : GContent) : Prop where
  eff : ∀ a ∈ c.Abilities, a.Effects.length ≤ 16777216
  script : ∀ f ∈ c.Foes, f.Script.length ≤ 16777216
  hoard : ∀ f ∈ c.Foes, f.Hoard.length ≤ 16777216
  ab : c.Abilities.length ≤ 16777216
  au : c.Auras.length ≤ 16777216
  fo : c.Foes.length ≤ 16777216
  wall : c.Map.Wall.length ≤ 16777216

theorem findA_mem (l : List GAbility) (w : Int) : (findA l w).1 ∈ l ∨ (findA l w).1.Effects = [] := by
  unfold findA
  rcases fidx_cases (fun x_ => isA x_ w) l with ⟨h, _⟩ | ⟨k, x, h, h2, _⟩
  · rw [h, if_pos (by omega)]; exact .inr rfl
  · rw [h, if_neg (by omega)]
    left
    have : l.getD ((k : Int).toNat) default = x := by rw [Int.toNat_natCast, List.getD_eq_getElem?_getD, h2]; rfl
    show l.getD ((k : Int).toNat) default ∈ l
    rw [this]; exact List.mem_of_getElem? h2
theorem few_eff {c : GContent} (h : Few9 c) {w : Int} : (findA c.Abilities w).1.Effects.length ≤ 16777216 := by
  rcases findA_mem c.Abilities w with h1 | h1
  · exact h.eff _ h1
  · rw [h1]; decide

def copyA (a : GAbility) : GAbility :=
  a
theorem copyA_ok (a : GAbility) (hE : a.Effects.length ≤ 16777216) : Ok Tryz.prog 147 [aGAbility a] [] (aGAbility (copyA a)) [] [] := by
 refine Ok.len fun hlen => ?_
 have hl_a_Effects : a.Effects.length ≤ maxLen := hlen _ (by simp [lensL, lens, lensP])
 unfold maxLen at hl_a_Effects
 refine ok_of_sem Tryz.func147 rfl ?_
 show Walks Tryz.prog _ _ ⟨[(0, aGAbility a)], [], 0, [], 8, 0⟩
 refine sem_seq (sem_region rfl (step_n (o := .box [_, _, _, _, _, _, _, _]) (nx' := 1) rfl rfl rfl trivial (step_n (o := .box [_, _, _, _, _, _, _, _]) (nx' := 2) rfl rfl rfl trivial (step_nil (seqK_n (sem_seq (sem_region rfl (step_r rfl rfl (by decide) (step_r rfl rfl trivial ?_)))))))))
 refine step_callN (out' := .ref 2 _ _ _) (H' := [(2, .row _ _ _), (1, _), (0, _)]) (nx' := 3) rfl rfl rfl rfl rfl rfl rfl (by (repeat' apply And.intro) <;> first | trivial | rfl | exact flat_len (fun _ => rfl) _ | exact encI_len _ | exact encB_len _ | exact encY_len _ | exact Nat.le_of_ble_eq_true rfl | assumption) (clone_GEffect a.Effects false (by first | assumption | omega | (simp; omega) | simp_all)) rfl rfl rfl rfl ?_
 refine step_r rfl rfl (by decide) ?_
 refine step_storeB (H' := [(2, _), (1, _), (0, .box [_, _, _, _, _, _, _, _])]) rfl rfl rfl rfl rfl rfl (.inl rfl) rfl ?_
 refine step_nil (seqK_n (sem_seq (sem_region rfl (step_r (v := (.agg [_, _, _, _, _, _, _, _])) rfl rfl (Nat.le_of_ble_eq_true rfl) ?_))))
 refine step_storeB (H' := [(2, _), (1, .box [_, _, _, _, _, _, _, _]), (0, _)]) rfl rfl rfl rfl rfl rfl (.inl rfl) rfl ?_
 refine step_nil (seqK_n ?_)
 refine sem_trans (Trans.freezeJ (T' := [(2, .ptr 1 0)]) (H' := [(1, .box [I a.Id, I a.Cast, I a.Cool, I a.Charges, I a.Range, I a.Cost, B a.Sight, .pv (.slc a.Effects.length false (a.Effects.flatMap encGEffect))])]) [2] (by decide) ⟨⟨_, _, rfl, rfl, (by (repeat' apply And.intro) <;> first | trivial | rfl | exact flat_len (s := 3) (enc := encGEffect) (fun _ => rfl) _ | exact flat_len (fun _ => rfl) _ | exact encI_len _ | exact encB_len _ | exact encY_len _ | exact Nat.le_of_ble_eq_true rfl | assumption)⟩, trivial⟩ ⟨⟨rfl, _, _, rfl, rfl, (by (repeat' apply And.intro) <;> first | trivial | rfl | exact flat_len (s := 3) (enc := encGEffect) (fun _ => rfl) _ | exact flat_len (fun _ => rfl) _ | exact encI_len _ | exact encB_len _ | exact encY_len _ | exact Nat.le_of_ble_eq_true rfl | assumption)⟩, trivial⟩) ?_
 refine sem_ret ?_
 have e1 : copyA a = a := by
  unfold copyA
  try dsimp only
  all_goals rfl
 rw [e1]
 exact answersR rfl ⟨Nat.le_of_ble_eq_true rfl, trivial⟩ (rfl) rfl

def fewB (c : GContent) : Bool := (c.Abilities.all fun a => decide (a.Effects.length ≤ 16777216)) && (c.Foes.all fun f => decide (f.Script.length ≤ 16777216) && decide (f.Hoard.length ≤ 16777216)) && decide (c.Abilities.length ≤ 16777216) && decide (c.Auras.length ≤ 16777216) && decide (c.Foes.length ≤ 16777216) && decide (c.Map.Wall.length ≤ 16777216)
theorem few_small {c : GContent} (h : fewB c = true) : Few9 c := by
  simp only [fewB, Bool.and_eq_true, List.all_eq_true, decide_eq_true_eq] at h
  obtain ⟨⟨⟨⟨⟨h1, h2⟩, h3⟩, h4⟩, h5⟩, h6⟩ := h
  exact ⟨h1, fun f hf => (h2 f hf).1, fun f hf => (h2 f hf).2, h3, h4, h5, h6⟩
theorem few_cut {c : GContent} {n : Nat} (h : Few9 c) : Few9 ⟨c.Abilities, c.Auras, c.Foes.take n, c.Map, c.Door, c.Lair⟩ := ⟨h.eff, fun f hf => h.script f (List.mem_of_mem_take hf), fun f hf => h.hoard f (List.mem_of_mem_take hf), h.ab, h.au, by have := h.fo; simp only [List.length_take]; omega, h.wall⟩

def getA (c : GContent) (id : Int) : GAbility × Bool :=
  ((copyA ((findA c.Abilities id).1)), (findA c.Abilities id).2)
theorem getA_ok (c : GContent) (id : Int) (hF : Few9 c) : Ok Tryz.prog 138 [aGContent c, I id] [] (.tup [aGAbility (getA c id).1, B (getA c id).2]) [] [] := by
 refine Ok.len fun hlen => ?_
 have hl_c_Abilities : c.Abilities.length ≤ maxLen := hlen _ (by simp [lensL, lens, lensP])
 have hl_c_Auras : c.Auras.length ≤ maxLen := hlen _ (by simp [lensL, lens, lensP])
 have hl_c_Foes : c.Foes.length ≤ maxLen := hlen _ (by simp [lensL, lens, lensP])
 have hl_c_Map_Wall : c.Map.Wall.length ≤ maxLen := hlen _ (by simp [lensL, lens, lensP])
 unfold maxLen at hl_c_Abilities hl_c_Auras hl_c_Foes hl_c_Map_Wall
 refine ok_of_sem Tryz.func138 rfl ?_
 show Walks Tryz.prog _ _ ⟨[(0, aGContent c), (1, I id)], [], 0, [], 18, 0⟩
 refine sem_seq (sem_region rfl (step_n (o := .box [_, _, _, _, _, _, _, _, _, _]) (nx' := 1) rfl rfl rfl trivial (step_n (o := .box [_, _, _, _, _, _, _, _]) (nx' := 2) rfl rfl rfl trivial (step_r rfl rfl trivial (step_nil (seqK_n (sem_seq (sem_region rfl (step_r rfl rfl (by decide) (step_r rfl rfl trivial (step_r rfl rfl trivial ?_)))))))))))
 refine step_call rfl rfl rfl rfl (findA_ok c.Abilities false id) rfl rfl rfl (step_r rfl rfl trivial (step_r rfl rfl trivial (step_r rfl rfl trivial (step_n (o := .box [_, _, _, _, _, _, _, _]) (nx' := 3) rfl rfl rfl trivial ?_))))
 refine step_storeB (H' := [(2, .box [_, _, _, _, _, _, _, _]), (1, _), (0, _)]) rfl rfl rfl rfl rfl rfl (.inl rfl) rfl ?_
 refine step_r rfl rfl trivial (step_nil (seqK_n (sem_seq (sem_region rfl (step_r (v := (.agg [_, _, _, _, _, _, _, _])) rfl rfl (Nat.le_of_ble_eq_true rfl) (step_call rfl rfl rfl rfl (copyA_ok ((findA c.Abilities id).1) (by first | assumption | exact few_eff (by assumption) | omega | simp_all)) rfl rfl rfl (step_r rfl rfl trivial ?_)))))))
 refine step_storeB (H' := [(2, _), (1, .box [_, _, _, _, _, _, _, _]), (0, _)]) rfl rfl rfl rfl rfl rfl (.inl rfl) rfl ?_
 refine step_r rfl rfl trivial (step_nil (seqK_n (sem_ret ?_)))
 have e3 : getA c id = ((copyA ((findA c.Abilities id).1)), (findA c.Abilities id).2) := by
  unfold getA
  try dsimp only
  all_goals rfl
 rw [e3]
 exact answersR rfl ⟨Nat.le_of_ble_eq_true rfl, trivial, trivial⟩ (rfl) rfl

def getU (c : GContent) (id : Int) : GAura × Bool :=
  (((findU c.Auras id).1), (findU c.Auras id).2)
theorem getU_ok (c : GContent) (id : Int) : Ok Tryz.prog 136 [aGContent c, I id] [] (.tup [aGAura (getU c id).1, B (getU c id).2]) [] [] := by
 refine Ok.len fun hlen => ?_
 have hl_c_Abilities : c.Abilities.length ≤ maxLen := hlen _ (by simp [lensL, lens, lensP])
 have hl_c_Auras : c.Auras.length ≤ maxLen := hlen _ (by simp [lensL, lens, lensP])
 have hl_c_Foes : c.Foes.length ≤ maxLen := hlen _ (by simp [lensL, lens, lensP])
 have hl_c_Map_Wall : c.Map.Wall.length ≤ maxLen := hlen _ (by simp [lensL, lens, lensP])
 unfold maxLen at hl_c_Abilities hl_c_Auras hl_c_Foes hl_c_Map_Wall
 refine ok_of_sem Tryz.func136 rfl ?_
 show Walks Tryz.prog _ _ ⟨[(0, aGContent c), (1, I id)], [], 0, [], 12, 0⟩
 refine sem_seq (sem_region rfl (step_n (o := .box [_, _, _, _, _, _, _, _, _, _]) (nx' := 1) rfl rfl rfl trivial (step_n (o := .box [_, _, _, _, _, _, _]) (nx' := 2) rfl rfl rfl trivial (step_r rfl rfl trivial (step_nil (seqK_n (sem_seq (sem_region rfl (step_r rfl rfl (by decide) (step_r rfl rfl trivial (step_r rfl rfl trivial ?_)))))))))))
 refine step_call rfl rfl rfl rfl (findU_ok c.Auras false id) rfl rfl rfl (step_r rfl rfl trivial (step_r rfl rfl trivial ?_))
 refine step_storeB (H' := [(1, .box [_, _, _, _, _, _, _]), (0, _)]) rfl rfl rfl rfl rfl rfl (.inl rfl) rfl ?_
 refine step_r rfl rfl trivial (step_nil (seqK_n (sem_ret ?_)))
 have e3 : getU c id = (((findU c.Auras id).1), (findU c.Auras id).2) := by
  unfold getU
  try dsimp only
  all_goals rfl
 rw [e3]
 exact answersR rfl ⟨Nat.le_of_ble_eq_true rfl, trivial, trivial⟩ (rfl) rfl

def effect9 (c : GContent) (e : GEffect) : Bool :=
  if within9 e.Kind 1 7 = true then (if amounts9 ([e.Amount]) = true then (if (e.Kind : Int) = 4 then (if (getU c e.Aura).2 = true then ((e.Amount : Int) == 0) else false) else ((e.Aura : Int) == 0)) else false) else false
theorem effect9_ok (c : GContent) (e : GEffect) : Ok Tryz.prog 119 [aGContent c, aGEffect e] [] (B (effect9 c e)) [] [] := by
 refine Ok.len fun hlen => ?_
 have hl_c_Abilities : c.Abilities.length ≤ maxLen := hlen _ (by simp [lensL, lens, lensP])
 have hl_c_Auras : c.Auras.length ≤ maxLen := hlen _ (by simp [lensL, lens, lensP])
 have hl_c_Foes : c.Foes.length ≤ maxLen := hlen _ (by simp [lensL, lens, lensP])
 have hl_c_Map_Wall : c.Map.Wall.length ≤ maxLen := hlen _ (by simp [lensL, lens, lensP])
 unfold maxLen at hl_c_Abilities hl_c_Auras hl_c_Foes hl_c_Map_Wall
 refine ok_of_sem Tryz.func119 rfl ?_
 show Walks Tryz.prog _ _ ⟨[(0, aGContent c), (1, aGEffect e)], [], 0, [], 37, 0⟩
 refine sem_seq (sem_region rfl (step_n (o := .box [_, _, _, _, _, _, _, _, _, _]) (nx' := 1) rfl rfl rfl trivial (step_n (o := .box [_, _, _]) (nx' := 2) rfl rfl rfl trivial (step_r rfl rfl trivial (step_nil (seqK_n (sem_seq (sem_seq (sem_region rfl (step_r rfl rfl (by decide) (step_r rfl rfl trivial ?_)))))))))))
 refine step_call rfl rfl rfl rfl (within9_ok e.Kind 1 7) rfl rfl rfl (step_r rfl rfl trivial (step_r rfl rfl trivial ?_))
 refine step_gs rfl (fun h2 => ?_) (fun h2 => ?_)
 ·have g2 : ¬ (within9 e.Kind 1 7 = true) := boo_f (not_t h2)
  refine step_g0 rfl h2 rfl (step_g0 rfl h2 rfl (step_g0 rfl h2 rfl (step_g0 rfl h2 rfl (step_g0 rfl h2 rfl (step_pickT rfl h2 rfl rfl (step_nil (seqK_n (sem_condT rfl (sem_seq (sem_region rfl (step_r rfl rfl trivial ?_)))))))))))
  refine step_nil (seqK_n (sem_ret (seqK_r ?_)))
  have e3 : effect9 c e = false := by
   unfold effect9
   try dsimp only
   rewrite [if_neg g2]
   all_goals rfl
  rw [e3]
  exact answersR rfl ⟨trivial, trivial⟩ (rfl) rfl
 ·have g2 : within9 e.Kind 1 7 = true := (not_f h2)
  refine step_g1 rfl h2 (step_r rfl rfl (by decide) (step_g1 rfl h2 (step_r rfl rfl trivial (step_g1 rfl h2 (step_n (o := .row _ _ [_]) (nx' := 3) rfl rfl rfl (by decide) (step_g1 rfl h2 ?_))))))
  refine step_callJ (Hin := [.row _ _ _]) (H' := [(2, _), (1, _), (0, _)]) (nx' := 3) [2] rfl rfl rfl rfl rfl rfl rfl rfl rfl (by (repeat' apply And.intro) <;> first | trivial | rfl | exact flat_len (fun _ => rfl) _ | exact encI_len _ | exact encB_len _ | exact encY_len _ | exact Nat.le_of_ble_eq_true rfl | assumption) (amounts9_ok ([e.Amount]) false) rfl (by decide) rfl rfl trivial rfl rfl rfl rfl ?_
  refine step_g1 rfl h2 (step_r rfl rfl trivial (step_pickF rfl h2 rfl rfl (step_nil (seqK_n ?_))))
  refine sem_cond rfl (fun h5 => ?_) (fun h5 => ?_)
  ·have g5 : ¬ (amounts9 ([e.Amount]) = true) := boo_f (not_t h5)
   refine sem_seq (sem_region rfl (step_r rfl rfl trivial (step_nil (seqK_n (sem_ret (seqK_r ?_))))))
   have e6 : effect9 c e = false := by
    unfold effect9
    try dsimp only
    rewrite [if_pos g2, if_neg g5]
    all_goals rfl
   rw [e6]
   exact answersR rfl ⟨trivial, trivial⟩ (rfl) rfl
  ·have g5 : amounts9 ([e.Amount]) = true := (not_f h5)
   refine sem_skip (seqK_n (sem_seq (sem_seq (sem_region rfl (step_r rfl rfl (by decide) (step_r rfl rfl trivial (step_bin rfl rfl rfl rfl rfl trivial (step_nil (seqK_n ?_)))))))))
   refine sem_cond rfl (fun h7 => ?_) (fun h7 => ?_)
   ·have g7 : ¬ ((e.Kind : Int) = 4) := bne_t h7
    refine sem_seq (sem_region rfl (step_r rfl rfl (by decide) (step_r rfl rfl trivial (step_bin rfl rfl rfl rfl rfl trivial (step_r rfl rfl trivial (step_nil (seqK_n (sem_ret (seqK_r ?_)))))))))
    have e9 : effect9 c e = ((e.Aura : Int) == 0) := by
     unfold effect9
     try dsimp only
     rewrite [if_pos g2, if_pos g5, if_neg g7]
     all_goals rfl
    rw [e9]
    exact answersR rfl ⟨trivial, trivial⟩ (rfl) rfl
   ·have g7 : (e.Kind : Int) = 4 := bne_f h7
    refine sem_skip (seqK_n (sem_seq (sem_region rfl (step_r (v := (.agg [_, _, _, _, _, _, _, _, _, _])) rfl rfl (Nat.le_of_ble_eq_true rfl) (step_r rfl rfl (by decide) (step_r rfl rfl trivial (step_call rfl rfl rfl rfl (getU_ok c e.Aura) rfl rfl rfl (step_r rfl rfl trivial (step_r rfl rfl trivial (step_r rfl rfl trivial (step_n (o := .box [_, _, _, _, _, _, _]) (nx' := 4) rfl rfl rfl trivial ?_)))))))))))
    refine step_storeB (H' := [(3, .box [_, _, _, _, _, _, _]), (2, _), (1, _), (0, _)]) rfl rfl rfl rfl rfl rfl (.inl rfl) rfl ?_
    refine step_r rfl rfl trivial (step_nil (seqK_n (sem_seq (sem_region rfl (step_r rfl rfl trivial (step_r rfl rfl trivial ?_))))))
    refine step_gs rfl (fun h11 => ?_) (fun h11 => ?_)
    ·have g11 : (getU c e.Aura).2 = true := h11
     refine step_g1 rfl h11 (step_r rfl rfl (by decide) (step_g1 rfl h11 (step_r rfl rfl trivial (step_g1 rfl h11 (step_bin rfl rfl rfl rfl rfl trivial (step_pickT rfl h11 rfl rfl (step_r rfl rfl trivial (step_nil (seqK_n (sem_ret ?_))))))))))
     have e13 : effect9 c e = ((e.Amount : Int) == 0) := by
      unfold effect9
      try dsimp only
      rewrite [if_pos g2, if_pos g5, if_pos g7, if_pos g11]
      all_goals rfl
     rw [e13]
     exact answersR rfl ⟨trivial, trivial⟩ (rfl) rfl
    ·have g11 : ¬ ((getU c e.Aura).2 = true) := boo_f h11
     refine step_g0 rfl h11 rfl (step_g0 rfl h11 rfl (step_g0 rfl h11 rfl (step_pickF rfl h11 rfl rfl (step_r rfl rfl trivial (step_nil (seqK_n (sem_ret ?_)))))))
     have e14 : effect9 c e = false := by
      unfold effect9
      try dsimp only
      rewrite [if_pos g2, if_pos g5, if_pos g7, if_neg g11]
      all_goals rfl
     rw [e14]
     exact answersR rfl ⟨trivial, trivial⟩ (rfl) rfl

def badE (e : GEffect) (c1 : GContent) : Bool :=
  (!(effect9 c1 e))
theorem badE_ok (e : GEffect) (c1 : GContent) : Ok Tryz.prog 118 [aGEffect e, .pptr [.slc c1.Abilities.length false (c1.Abilities.flatMap encGAbility), .slc c1.Auras.length false (c1.Auras.flatMap encGAura), .slc c1.Foes.length false (c1.Foes.flatMap encGFoe), i64 c1.Map.W, i64 c1.Map.H, .slc c1.Map.Wall.length false (encB c1.Map.Wall), i64 c1.Door.X, i64 c1.Door.Y, i64 c1.Lair.X, i64 c1.Lair.Y] 0] [] (B (badE e c1)) [] [] := by
 refine ok_of_sem Tryz.func118 rfl ?_
 show Walks Tryz.prog _ _ ⟨[(0, aGEffect e), (1, .pptr [.slc c1.Abilities.length false (c1.Abilities.flatMap encGAbility), .slc c1.Auras.length false (c1.Auras.flatMap encGAura), .slc c1.Foes.length false (c1.Foes.flatMap encGFoe), i64 c1.Map.W, i64 c1.Map.H, .slc c1.Map.Wall.length false (encB c1.Map.Wall), i64 c1.Door.X, i64 c1.Door.Y, i64 c1.Lair.X, i64 c1.Lair.Y] 0)], [], 0, [], 8, 0⟩
 refine sem_seq (sem_region rfl (step_n (o := .box [_, _, _]) (nx' := 1) rfl rfl rfl trivial (step_r rfl rfl trivial (step_nil (seqK_n (sem_seq (sem_region rfl (step_load_row rfl rfl rfl (Nat.le_of_ble_eq_true rfl) (rfl) rfl (step_r (v := (.agg [_, _, _])) rfl rfl (Nat.le_of_ble_eq_true rfl) (step_call rfl rfl rfl rfl (effect9_ok c1 e) rfl rfl rfl (step_r rfl rfl trivial ?_)))))))))))
 refine step_r rfl rfl trivial (step_nil (seqK_n (sem_ret ?_)))
 have e2 : badE e c1 = (!(effect9 c1 e)) := by
  unfold badE
  try dsimp only
  all_goals rfl
 rw [e2]
 exact answersR rfl ⟨trivial, trivial⟩ (rfl) rfl

def ability9 (c : GContent) (a : GAbility) : Bool :=
  if amounts9 ([a.Cast, a.Cool, a.Range, a.Cost]) = true then (if within9 a.Charges 1 100 = true then (if within9 a.Effects.length 1 16 = true then (!(a.Effects.any (fun x_ => badE x_ c))) else false) else false) else false
theorem ability9_ok (c : GContent) (a : GAbility) : Ok Tryz.prog 92 [aGContent c, aGAbility a] [] (B (ability9 c a)) [] [] := by
 refine Ok.len fun hlen => ?_
 have hl_c_Abilities : c.Abilities.length ≤ maxLen := hlen _ (by simp [lensL, lens, lensP])
 have hl_c_Auras : c.Auras.length ≤ maxLen := hlen _ (by simp [lensL, lens, lensP])
 have hl_c_Foes : c.Foes.length ≤ maxLen := hlen _ (by simp [lensL, lens, lensP])
 have hl_c_Map_Wall : c.Map.Wall.length ≤ maxLen := hlen _ (by simp [lensL, lens, lensP])
 have hl_a_Effects : a.Effects.length ≤ maxLen := hlen _ (by simp [lensL, lens, lensP])
 unfold maxLen at hl_c_Abilities hl_c_Auras hl_c_Foes hl_c_Map_Wall hl_a_Effects
 refine ok_of_sem Tryz.func92 rfl ?_
 show Walks Tryz.prog _ _ ⟨[(0, aGContent c), (1, aGAbility a)], [], 0, [], 33, 0⟩
 refine sem_seq (sem_region rfl (step_n (o := .box [_, _, _, _, _, _, _, _, _, _]) (nx' := 1) rfl rfl rfl trivial (step_n (o := .box [_, _, _, _, _, _, _, _]) (nx' := 2) rfl rfl rfl trivial (step_r rfl rfl trivial (step_nil (seqK_n (sem_seq (sem_region rfl (step_r rfl rfl (by decide) (step_r rfl rfl trivial (step_r rfl rfl (by decide) ?_)))))))))))
 refine step_r rfl rfl trivial (step_r rfl rfl (by decide) (step_r rfl rfl trivial (step_r rfl rfl (by decide) (step_r rfl rfl trivial (step_n (o := .row _ _ [_, _, _, _]) (nx' := 3) rfl rfl rfl (by decide) ?_)))))
 refine step_callJ (Hin := [.row _ _ _]) (H' := [(2, _), (1, _), (0, _)]) (nx' := 3) [2] rfl rfl rfl rfl rfl rfl rfl rfl rfl (by (repeat' apply And.intro) <;> first | trivial | rfl | exact flat_len (fun _ => rfl) _ | exact encI_len _ | exact encB_len _ | exact encY_len _ | exact Nat.le_of_ble_eq_true rfl | assumption) (amounts9_ok ([a.Cast, a.Cool, a.Range, a.Cost]) false) rfl (by decide) rfl rfl trivial rfl rfl rfl rfl ?_
 refine step_r rfl rfl trivial ?_
 refine step_gs rfl (fun h2 => ?_) (fun h2 => ?_)
 ·have g2 : amounts9 ([a.Cast, a.Cool, a.Range, a.Cost]) = true := h2
  refine step_g1 rfl h2 (step_r rfl rfl (by decide) (step_g1 rfl h2 (step_r rfl rfl trivial (step_g1 rfl h2 (step_call rfl rfl rfl rfl (within9_ok a.Charges 1 100) rfl rfl rfl (step_pickT rfl h2 rfl rfl (step_r rfl rfl trivial ?_)))))))
  refine step_gs rfl (fun h4 => ?_) (fun h4 => ?_)
  ·have g4 : within9 a.Charges 1 100 = true := h4
   refine step_g1 rfl h4 (step_r rfl rfl (by decide) (step_g1 rfl h4 (step_r rfl rfl trivial (step_g1 rfl h4 (step_r rfl rfl trivial (step_g1 rfl h4 (step_call rfl rfl rfl rfl (within9_ok a.Effects.length 1 16) rfl rfl rfl (step_pickT rfl h4 rfl rfl (step_r rfl rfl trivial ?_)))))))))
   refine step_gs rfl (fun h6 => ?_) (fun h6 => ?_)
   ·have g6 : within9 a.Effects.length 1 16 = true := h6
    refine step_g1 rfl h6 (step_r rfl rfl (by decide) (step_g1 rfl h6 (step_r rfl rfl trivial (step_g1 rfl h6 (step_r rfl rfl trivial (step_g1 rfl h6 ?_))))))
    refine step_callJ (Hin := [.box [.pv _, .pv _, .pv _, .pv _, .pv _, .pv _, .pv _, .pv _, .pv _, .pv _]]) (H' := [(2, _), (1, _), (0, _)]) (nx' := 3) [0] rfl rfl rfl rfl rfl rfl rfl rfl rfl (by (repeat' apply And.intro) <;> first | trivial | rfl | exact flat_len (fun _ => rfl) _ | exact encI_len _ | exact encB_len _ | exact encY_len _ | exact Nat.le_of_ble_eq_true rfl | assumption) (hasf_GEffect a.Effects false 118 [.pptr [(.slc c.Abilities.length false (c.Abilities.flatMap encGAbility)), (.slc c.Auras.length false (c.Auras.flatMap encGAura)), (.slc c.Foes.length false (c.Foes.flatMap encGFoe)), i64 c.Map.W, i64 c.Map.H, (.slc c.Map.Wall.length false (encB c.Map.Wall)), i64 c.Door.X, i64 c.Door.Y, i64 c.Lair.X, i64 c.Lair.Y] 0] (fun x_ => badE x_ c) ⟨rfl, rfl, fun _ => rfl, fun _ => rfl, fun x_ => badE_ok x_ c⟩) rfl (by decide) rfl rfl trivial rfl rfl rfl rfl ?_
    refine step_g1 rfl h6 (step_r rfl rfl trivial (step_pickT rfl h6 rfl rfl (step_r rfl rfl trivial (step_nil (seqK_n (sem_ret ?_))))))
    have e8 : ability9 c a = (!(a.Effects.any (fun x_ => badE x_ c))) := by
     unfold ability9
     try dsimp only
     rewrite [if_pos g2, if_pos g4, if_pos g6]
     all_goals rfl
    rw [e8]
    exact answersR rfl ⟨trivial, trivial⟩ (rfl) rfl
   ·have g6 : ¬ (within9 a.Effects.length 1 16 = true) := boo_f h6
    refine step_g0 rfl h6 rfl (step_g0 rfl h6 rfl (step_g0 rfl h6 rfl (step_g0 rfl h6 rfl (step_g0 rfl h6 rfl (step_pickF rfl h6 rfl rfl (step_r rfl rfl trivial (step_nil (seqK_n (sem_ret ?_)))))))))
    have e9 : ability9 c a = false := by
     unfold ability9
     try dsimp only
     rewrite [if_pos g2, if_pos g4, if_neg g6]
     all_goals rfl
    rw [e9]
    exact answersR rfl ⟨trivial, trivial⟩ (rfl) rfl
  ·have g4 : ¬ (within9 a.Charges 1 100 = true) := boo_f h4
   refine step_g0 rfl h4 rfl (step_g0 rfl h4 rfl (step_g0 rfl h4 rfl (step_g0 rfl h4 rfl (step_pickF rfl h4 rfl rfl (step_r rfl rfl trivial (step_gf rfl rfl (step_gf rfl rfl (step_gf rfl rfl (step_gf rfl rfl (step_gf rfl rfl (step_r rfl rfl trivial ?_)))))))))))
   refine step_r rfl rfl trivial (step_nil (seqK_n (sem_ret ?_)))
   have e10 : ability9 c a = false := by
    unfold ability9
    try dsimp only
    rewrite [if_pos g2, if_neg g4]
    all_goals rfl
   rw [e10]
   exact answersR rfl ⟨trivial, trivial⟩ (rfl) rfl
 ·have g2 : ¬ (amounts9 ([a.Cast, a.Cool, a.Range, a.Cost]) = true) := boo_f h2
  refine step_g0 rfl h2 rfl (step_g0 rfl h2 rfl (step_g0 rfl h2 rfl (step_pickF rfl h2 rfl rfl (step_r rfl rfl trivial (step_gf rfl rfl (step_gf rfl rfl (step_gf rfl rfl (step_gf rfl rfl (step_r rfl rfl trivial (step_r rfl rfl trivial (step_gf rfl rfl ?_)))))))))))
  refine step_gf rfl rfl (step_gf rfl rfl (step_gf rfl rfl (step_gf rfl rfl (step_r rfl rfl trivial (step_r rfl rfl trivial (step_nil (seqK_n (sem_ret ?_))))))))
  have e11 : ability9 c a = false := by
   unfold ability9
   try dsimp only
   rewrite [if_neg g2]
   all_goals rfl
  rw [e11]
  exact answersR rfl ⟨trivial, trivial⟩ (rfl) rfl

def aura9_J12 (a : GAura) : Bool :=
  if (a.Kind : Int) = 1 then ((a.Kind : Int) == 1) else ((a.Kind : Int) == 2)
def aura9_J18 (a : GAura) : Bool :=
  if (a.Kind : Int) = 3 then ((a.Kind : Int) == 3) else ((a.Kind : Int) == 4)
def aura9_J21 (a : GAura) : Bool :=
  if (a.Kind : Int) = 5 then ((a.Kind : Int) == 5) else ((a.Kind : Int) == 6)
def aura9_J9 (a : GAura) : Sum Bool (Int × Int × Bool) :=
  (let t11_12 := aura9_J12 a; if t11_12 = true then .inr (0, 1000000, (within9 a.Every 1 1000000)) else (let t17_18 := aura9_J18 a; if t17_18 = true then .inr ((-100), 1000, ((a.Every : Int) == 0)) else (let t20_21 := aura9_J21 a; if t20_21 = true then .inr (0, 1000000, ((a.Every : Int) == 0)) else .inl false)))
def aura9 (a : GAura) : Bool :=
  (match aura9_J9 a with
    | .inl r_ => r_
    | .inr (least_9, most_9, every_9) => if every_9 = true then (if within9 a.Ticks 1 1000000 = true then (if within9 a.Stacks 1 100 = true then (within9 a.Amount least_9 most_9) else false) else false) else false)
theorem aura9_ok (a : GAura) : Ok Tryz.prog 95 [aGAura a] [] (B (aura9 a)) [] [] := by
 refine ok_of_sem Tryz.func95 rfl ?_
 show Walks Tryz.prog _ _ ⟨[(0, aGAura a)], [], 0, [], 41, 0⟩
 refine sem_seq (sem_region rfl (step_n (o := .box [_, _, _, _, _, _, _]) (nx' := 1) rfl rfl rfl trivial (step_r rfl rfl trivial (step_nil (seqK_n (sem_seq (sem_region rfl (step_r rfl rfl trivial (step_r rfl rfl trivial (step_nil (seqK_n ?_)))))))))))
 refine sem_seq (sem_region rfl (step_r rfl rfl (by decide) (step_r rfl rfl trivial (step_bin rfl rfl rfl rfl rfl trivial (step_r rfl rfl trivial (step_nil (seqK_n (sem_seq ?_))))))))
 refine sem_cutW (fun w_ : Int × Int × Bool => match w_ with | (least_9, most_9, every_9) => (⟨[(1, .ptr 0 0), (3, I least_9), (4, I most_9), (5, B every_9)], [(0, .box [I a.Id, I a.Kind, I a.Ticks, I a.Every, I a.Stacks, I a.Amount, B a.Harm])], 1, [], 41, 0⟩ : St)) (fun w_ => aura9_J9 a = .inr w_) ?_ ?_
 ·refine sem_seq (sem_region rfl (step_r rfl rfl (by decide) (step_r rfl rfl trivial (step_nil (seqK_n (sem_block (sem_seq ?_)))))))
  refine sem_cutW (fun t11_12 : Bool => (⟨[(1, .ptr 0 0), (3, I 0), (4, I 1000000), (5, B ((a.Every : Int) == 0)), (10, I a.Kind), (11, B t11_12)], [(0, .box [I a.Id, I a.Kind, I a.Ticks, I a.Every, I a.Stacks, I a.Amount, B a.Harm])], 1, [], 41, 0⟩ : St)) (fun w_ => aura9_J12 a = w_) ?_ ?_
  ·refine sem_seq (sem_region rfl (step_bin rfl rfl rfl rfl rfl trivial (step_r rfl rfl trivial (step_nil (seqK_n ?_)))))
   refine sem_cond rfl (fun h5 => ?_) (fun h5 => ?_)
   ·have g5 : (a.Kind : Int) = 1 := beq_t h5
    refine sem_skip ?_
    have e6 : aura9_J12 a = ((a.Kind : Int) == 1) := by
     unfold aura9_J12
     try dsimp only
     rewrite [if_pos g5]
     all_goals rfl
    exact cutW_n ((a.Kind : Int) == 1) e6 (Trans.ren [] (by decide +kernel) (by decide +kernel) rfl ⟨⟨rfl, rfl⟩, ⟨rfl, rfl⟩, ⟨rfl, rfl⟩, ⟨rfl, rfl⟩, ⟨rfl, rfl⟩, ⟨rfl, rfl⟩, trivial⟩ ⟨⟨rfl, rfl, rfl⟩, trivial⟩ (by decide))
   ·have g5 : ¬ ((a.Kind : Int) = 1) := beq_f h5
    refine sem_region rfl (step_bin rfl rfl rfl rfl rfl trivial (step_r rfl rfl trivial (step_nil ?_)))
    have e8 : aura9_J12 a = ((a.Kind : Int) == 2) := by
     unfold aura9_J12
     try dsimp only
     rewrite [if_neg g5]
     all_goals rfl
    exact cutW_n ((a.Kind : Int) == 2) e8 (Trans.ren [] (by decide +kernel) (by decide +kernel) rfl ⟨⟨rfl, rfl⟩, ⟨rfl, rfl⟩, ⟨rfl, rfl⟩, ⟨rfl, rfl⟩, ⟨rfl, rfl⟩, ⟨rfl, rfl⟩, trivial⟩ ⟨⟨rfl, rfl, rfl⟩, trivial⟩ (by decide))
  ·rintro t11_12 (hJ3 : aura9_J12 a = t11_12)
   show seqK _ _ _ .normal (⟨[(1, .ptr 0 0), (3, I 0), (4, I 1000000), (5, B ((a.Every : Int) == 0)), (10, I a.Kind), (11, B t11_12)], [(0, .box [I a.Id, I a.Kind, I a.Ticks, I a.Every, I a.Stacks, I a.Amount, B a.Harm])], 1, [], 41, 0⟩ : St)
   refine seqK_n ?_
   refine sem_cond rfl (fun h9 => ?_) (fun h9 => ?_)
   ·have g9 : t11_12 = true := h9
    refine sem_region rfl (step_r rfl rfl (by decide) (step_r rfl rfl trivial (step_call rfl rfl rfl rfl (within9_ok a.Every 1 1000000) rfl rfl rfl (step_r rfl rfl trivial (step_nil (blkK_n ?_))))))
    have e11 : aura9_J9 a = .inr (0, 1000000, (within9 a.Every 1 1000000)) := by
     unfold aura9_J9
     try dsimp only
     rewrite [hJ3]
     try dsimp only
     rewrite [if_pos g9]
     all_goals rfl
    exact cutW_n (0, 1000000, (within9 a.Every 1 1000000)) e11 (Trans.ren [] (by decide +kernel) (by decide +kernel) rfl ⟨⟨rfl, rfl⟩, ⟨rfl, rfl⟩, ⟨rfl, rfl⟩, ⟨rfl, rfl⟩, trivial⟩ ⟨⟨rfl, rfl, rfl⟩, trivial⟩ (by decide))
   ·have g9 : ¬ (t11_12 = true) := boo_f h9
    refine sem_seq ?_
    refine sem_cutW (fun t17_18 : Bool => (⟨[(1, .ptr 0 0), (3, I 0), (4, I 1000000), (5, B ((a.Every : Int) == 0)), (10, I a.Kind), (17, B t17_18)], [(0, .box [I a.Id, I a.Kind, I a.Ticks, I a.Every, I a.Stacks, I a.Amount, B a.Harm])], 1, [], 41, 0⟩ : St)) (fun w_ => aura9_J18 a = w_) ?_ ?_
    ·refine sem_seq (sem_region rfl (step_bin rfl rfl rfl rfl rfl trivial (step_r rfl rfl trivial (step_nil (seqK_n ?_)))))
     refine sem_cond rfl (fun h14 => ?_) (fun h14 => ?_)
     ·have g14 : (a.Kind : Int) = 3 := beq_t h14
      refine sem_skip ?_
      have e15 : aura9_J18 a = ((a.Kind : Int) == 3) := by
       unfold aura9_J18
       try dsimp only
       rewrite [if_pos g14]
       all_goals rfl
      exact cutW_n ((a.Kind : Int) == 3) e15 (Trans.ren [] (by decide +kernel) (by decide +kernel) rfl ⟨⟨rfl, rfl⟩, ⟨rfl, rfl⟩, ⟨rfl, rfl⟩, ⟨rfl, rfl⟩, ⟨rfl, rfl⟩, ⟨rfl, rfl⟩, trivial⟩ ⟨⟨rfl, rfl, rfl⟩, trivial⟩ (by decide))
     ·have g14 : ¬ ((a.Kind : Int) = 3) := beq_f h14
      refine sem_region rfl (step_bin rfl rfl rfl rfl rfl trivial (step_r rfl rfl trivial (step_nil ?_)))
      have e17 : aura9_J18 a = ((a.Kind : Int) == 4) := by
       unfold aura9_J18
       try dsimp only
       rewrite [if_neg g14]
       all_goals rfl
      exact cutW_n ((a.Kind : Int) == 4) e17 (Trans.ren [] (by decide +kernel) (by decide +kernel) rfl ⟨⟨rfl, rfl⟩, ⟨rfl, rfl⟩, ⟨rfl, rfl⟩, ⟨rfl, rfl⟩, ⟨rfl, rfl⟩, ⟨rfl, rfl⟩, trivial⟩ ⟨⟨rfl, rfl, rfl⟩, trivial⟩ (by decide))
    ·rintro t17_18 (hJ12 : aura9_J18 a = t17_18)
     show seqK _ _ _ .normal (⟨[(1, .ptr 0 0), (3, I 0), (4, I 1000000), (5, B ((a.Every : Int) == 0)), (10, I a.Kind), (17, B t17_18)], [(0, .box [I a.Id, I a.Kind, I a.Ticks, I a.Every, I a.Stacks, I a.Amount, B a.Harm])], 1, [], 41, 0⟩ : St)
     refine seqK_n ?_
     refine sem_cond rfl (fun h18 => ?_) (fun h18 => ?_)
     ·have g18 : t17_18 = true := h18
      refine sem_region rfl (step_r rfl rfl trivial (step_r rfl rfl trivial (step_nil (blkK_n ?_))))
      have e19 : aura9_J9 a = .inr ((-100), 1000, ((a.Every : Int) == 0)) := by
       unfold aura9_J9
       try dsimp only
       rewrite [hJ3]
       try dsimp only
       rewrite [if_neg g9, hJ12]
       try dsimp only
       rewrite [if_pos g18]
       all_goals rfl
      exact cutW_n ((-100), 1000, ((a.Every : Int) == 0)) e19 (Trans.ren [] (by decide +kernel) (by decide +kernel) rfl ⟨⟨rfl, rfl⟩, ⟨rfl, rfl⟩, ⟨rfl, rfl⟩, ⟨rfl, rfl⟩, trivial⟩ ⟨⟨rfl, rfl, rfl⟩, trivial⟩ (by decide))
     ·have g18 : ¬ (t17_18 = true) := boo_f h18
      refine sem_seq ?_
      refine sem_cutW (fun t20_21 : Bool => (⟨[(1, .ptr 0 0), (3, I 0), (4, I 1000000), (5, B ((a.Every : Int) == 0)), (20, B t20_21)], [(0, .box [I a.Id, I a.Kind, I a.Ticks, I a.Every, I a.Stacks, I a.Amount, B a.Harm])], 1, [], 41, 0⟩ : St)) (fun w_ => aura9_J21 a = w_) ?_ ?_
      ·refine sem_seq (sem_region rfl (step_bin rfl rfl rfl rfl rfl trivial (step_r rfl rfl trivial (step_nil (seqK_n ?_)))))
       refine sem_cond rfl (fun h22 => ?_) (fun h22 => ?_)
       ·have g22 : (a.Kind : Int) = 5 := beq_t h22
        refine sem_skip ?_
        have e23 : aura9_J21 a = ((a.Kind : Int) == 5) := by
         unfold aura9_J21
         try dsimp only
         rewrite [if_pos g22]
         all_goals rfl
        exact cutW_n ((a.Kind : Int) == 5) e23 (Trans.ren [] (by decide +kernel) (by decide +kernel) rfl ⟨⟨rfl, rfl⟩, ⟨rfl, rfl⟩, ⟨rfl, rfl⟩, ⟨rfl, rfl⟩, ⟨rfl, rfl⟩, trivial⟩ ⟨⟨rfl, rfl, rfl⟩, trivial⟩ (by decide))
       ·have g22 : ¬ ((a.Kind : Int) = 5) := beq_f h22
        refine sem_region rfl (step_bin rfl rfl rfl rfl rfl trivial (step_r rfl rfl trivial (step_nil ?_)))
        have e25 : aura9_J21 a = ((a.Kind : Int) == 6) := by
         unfold aura9_J21
         try dsimp only
         rewrite [if_neg g22]
         all_goals rfl
        exact cutW_n ((a.Kind : Int) == 6) e25 (Trans.ren [] (by decide +kernel) (by decide +kernel) rfl ⟨⟨rfl, rfl⟩, ⟨rfl, rfl⟩, ⟨rfl, rfl⟩, ⟨rfl, rfl⟩, ⟨rfl, rfl⟩, trivial⟩ ⟨⟨rfl, rfl, rfl⟩, trivial⟩ (by decide))
      ·rintro t20_21 (hJ20 : aura9_J21 a = t20_21)
       show seqK _ _ _ .normal (⟨[(1, .ptr 0 0), (3, I 0), (4, I 1000000), (5, B ((a.Every : Int) == 0)), (20, B t20_21)], [(0, .box [I a.Id, I a.Kind, I a.Ticks, I a.Every, I a.Stacks, I a.Amount, B a.Harm])], 1, [], 41, 0⟩ : St)
       refine seqK_n ?_
       refine sem_cond rfl (fun h26 => ?_) (fun h26 => ?_)
       ·have g26 : t20_21 = true := h26
        refine sem_skip (blkK_n ?_)
        have e27 : aura9_J9 a = .inr (0, 1000000, ((a.Every : Int) == 0)) := by
         unfold aura9_J9
         try dsimp only
         rewrite [hJ3]
         try dsimp only
         rewrite [if_neg g9, hJ12]
         try dsimp only
         rewrite [if_neg g18, hJ20]
         try dsimp only
         rewrite [if_pos g26]
         all_goals rfl
        exact cutW_n (0, 1000000, ((a.Every : Int) == 0)) e27 (Trans.ren [] (by decide +kernel) (by decide +kernel) rfl ⟨⟨rfl, rfl⟩, ⟨rfl, rfl⟩, ⟨rfl, rfl⟩, ⟨rfl, rfl⟩, trivial⟩ ⟨⟨rfl, rfl, rfl⟩, trivial⟩ (by decide))
       ·have g26 : ¬ (t20_21 = true) := boo_f h26
        refine sem_seq (sem_region rfl (step_r rfl rfl trivial (step_nil (seqK_n (sem_ret (blkK_r (cutW_r (seqK_r ?_))))))))
        have e28 : aura9_J9 a = .inl false := by
         unfold aura9_J9
         try dsimp only
         rewrite [hJ3]
         try dsimp only
         rewrite [if_neg g9, hJ12]
         try dsimp only
         rewrite [if_neg g18, hJ20]
         try dsimp only
         rewrite [if_neg g26]
         all_goals rfl
        have e29 : aura9 a = false := by
         unfold aura9
         try dsimp only
         rewrite [e28]
         try dsimp only
         all_goals rfl
        rw [e29]
        exact answersR rfl ⟨trivial, trivial⟩ (rfl) rfl
 ·rintro ⟨least_9, most_9, every_9⟩ (hJ2 : aura9_J9 a = .inr (least_9, most_9, every_9))
  show seqK _ _ _ .normal (⟨[(1, .ptr 0 0), (3, I least_9), (4, I most_9), (5, B every_9)], [(0, .box [I a.Id, I a.Kind, I a.Ticks, I a.Every, I a.Stacks, I a.Amount, B a.Harm])], 1, [], 41, 0⟩ : St)
  refine seqK_n (sem_seq (sem_region rfl (step_r rfl rfl trivial (step_r rfl rfl trivial ?_))))
  refine step_gs rfl (fun h31 => ?_) (fun h31 => ?_)
  ·have g31 : every_9 = true := h31
   refine step_g1 rfl h31 (step_r rfl rfl (by decide) (step_g1 rfl h31 (step_r rfl rfl trivial (step_g1 rfl h31 (step_call rfl rfl rfl rfl (within9_ok a.Ticks 1 1000000) rfl rfl rfl (step_pickT rfl h31 rfl rfl (step_r rfl rfl trivial ?_)))))))
   refine step_gs rfl (fun h33 => ?_) (fun h33 => ?_)
   ·have g33 : within9 a.Ticks 1 1000000 = true := h33
    refine step_g1 rfl h33 (step_r rfl rfl (by decide) (step_g1 rfl h33 (step_r rfl rfl trivial (step_g1 rfl h33 (step_call rfl rfl rfl rfl (within9_ok a.Stacks 1 100) rfl rfl rfl (step_pickT rfl h33 rfl rfl (step_r rfl rfl trivial ?_)))))))
    refine step_gs rfl (fun h35 => ?_) (fun h35 => ?_)
    ·have g35 : within9 a.Stacks 1 100 = true := h35
     refine step_g1 rfl h35 (step_r rfl rfl (by decide) (step_g1 rfl h35 (step_r rfl rfl trivial (step_g1 rfl h35 (step_r rfl rfl trivial (step_g1 rfl h35 (step_r rfl rfl trivial (step_g1 rfl h35 (step_call rfl rfl rfl rfl (within9_ok a.Amount least_9 most_9) rfl rfl rfl (step_pickT rfl h35 rfl rfl (step_r rfl rfl trivial ?_)))))))))))
     refine step_nil (seqK_n (sem_ret ?_))
     have e39 : aura9 a = (within9 a.Amount least_9 most_9) := by
      unfold aura9
      try dsimp only
      rewrite [hJ2]
      try dsimp only
      rewrite [if_pos g31, if_pos g33, if_pos g35]
      all_goals rfl
     rw [e39]
     exact answersR rfl ⟨trivial, trivial⟩ (rfl) rfl
    ·have g35 : ¬ (within9 a.Stacks 1 100 = true) := boo_f h35
     refine step_g0 rfl h35 rfl (step_g0 rfl h35 rfl (step_g0 rfl h35 rfl (step_g0 rfl h35 rfl (step_g0 rfl h35 rfl (step_pickF rfl h35 rfl rfl (step_r rfl rfl trivial (step_nil (seqK_n (sem_ret ?_)))))))))
     have e40 : aura9 a = false := by
      unfold aura9
      try dsimp only
      rewrite [hJ2]
      try dsimp only
      rewrite [if_pos g31, if_pos g33, if_neg g35]
      all_goals rfl
     rw [e40]
     exact answersR rfl ⟨trivial, trivial⟩ (rfl) rfl
   ·have g33 : ¬ (within9 a.Ticks 1 1000000 = true) := boo_f h33
    refine step_g0 rfl h33 rfl (step_g0 rfl h33 rfl (step_g0 rfl h33 rfl (step_pickF rfl h33 rfl rfl (step_r rfl rfl trivial (step_gf rfl rfl (step_gf rfl rfl (step_gf rfl rfl (step_gf rfl rfl (step_gf rfl rfl (step_r rfl rfl trivial (step_r rfl rfl trivial ?_)))))))))))
    refine step_nil (seqK_n (sem_ret ?_))
    have e41 : aura9 a = false := by
     unfold aura9
     try dsimp only
     rewrite [hJ2]
     try dsimp only
     rewrite [if_pos g31, if_neg g33]
     all_goals rfl
    rw [e41]
    exact answersR rfl ⟨trivial, trivial⟩ (rfl) rfl
  ·have g31 : ¬ (every_9 = true) := boo_f h31
   refine step_g0 rfl h31 rfl (step_g0 rfl h31 rfl (step_g0 rfl h31 rfl (step_pickF rfl h31 rfl rfl (step_r rfl rfl trivial (step_gf rfl rfl (step_gf rfl rfl (step_gf rfl rfl (step_r rfl rfl trivial (step_r rfl rfl trivial (step_gf rfl rfl (step_gf rfl rfl ?_)))))))))))
   refine step_gf rfl rfl (step_gf rfl rfl (step_gf rfl rfl (step_r rfl rfl trivial (step_r rfl rfl trivial (step_nil (seqK_n (sem_ret ?_)))))))
   have e42 : aura9 a = false := by
    unfold aura9
    try dsimp only
    rewrite [hJ2]
    try dsimp only
    rewrite [if_neg g31]
    all_goals rfl
   rw [e42]
   exact answersR rfl ⟨trivial, trivial⟩ (rfl) rfl

def line9_J8 (l : GLine) : Int :=
  if (l.When : Int) = 1 then 100 else 1000000
def line9 (c : GContent) (l : GLine) : Bool :=
  (let most_8 := line9_J8 l; if within9 l.Phase 1 100 = true then (if within9 l.When 1 3 = true then (if within9 l.Arg 1 most_8 = true then (if amounts9 ([l.Value]) = true then (if (l.Do : Int) = 1 then (within9 l.Value 1 100) else if (l.Do : Int) = 2 then (getA c l.Value).2 else if (l.Do : Int) = 3 then true else ((l.Do : Int) == 4)) else false) else false) else false) else false)
theorem line9_ok (c : GContent) (l : GLine) (hF : Few9 c) : Ok Tryz.prog 122 [aGContent c, aGLine l] [] (B (line9 c l)) [] [] := by
 refine Ok.len fun hlen => ?_
 have hl_c_Abilities : c.Abilities.length ≤ maxLen := hlen _ (by simp [lensL, lens, lensP])
 have hl_c_Auras : c.Auras.length ≤ maxLen := hlen _ (by simp [lensL, lens, lensP])
 have hl_c_Foes : c.Foes.length ≤ maxLen := hlen _ (by simp [lensL, lens, lensP])
 have hl_c_Map_Wall : c.Map.Wall.length ≤ maxLen := hlen _ (by simp [lensL, lens, lensP])
 unfold maxLen at hl_c_Abilities hl_c_Auras hl_c_Foes hl_c_Map_Wall
 refine ok_of_sem Tryz.func122 rfl ?_
 show Walks Tryz.prog _ _ ⟨[(0, aGContent c), (1, aGLine l)], [], 0, [], 60, 0⟩
 refine sem_seq (sem_region rfl (step_n (o := .box [_, _, _, _, _, _, _, _, _, _]) (nx' := 1) rfl rfl rfl trivial (step_n (o := .box [_, _, _, _, _]) (nx' := 2) rfl rfl rfl trivial (step_r rfl rfl trivial (step_nil (seqK_n (sem_seq (sem_region rfl (step_r rfl rfl trivial (step_nil (seqK_n ?_)))))))))))
 refine sem_seq ?_
 refine sem_cutW (fun most_8 : Int => (⟨[(2, .ptr 0 0), (3, .ptr 1 0), (5, I most_8)], [(0, .box [.pv (.slc c.Abilities.length false (c.Abilities.flatMap encGAbility)), .pv (.slc c.Auras.length false (c.Auras.flatMap encGAura)), .pv (.slc c.Foes.length false (c.Foes.flatMap encGFoe)), I c.Map.W, I c.Map.H, .pv (.slc c.Map.Wall.length false (encB c.Map.Wall)), I c.Door.X, I c.Door.Y, I c.Lair.X, I c.Lair.Y]), (1, .box [I l.Phase, I l.When, I l.Arg, I l.Do, I l.Value])], 2, [], 60, 0⟩ : St)) (fun w_ => line9_J8 l = w_) ?_ ?_
 ·refine sem_seq (sem_region rfl (step_r rfl rfl (by decide) (step_r rfl rfl trivial (step_bin rfl rfl rfl rfl rfl trivial (step_nil (seqK_n ?_))))))
  refine sem_cond rfl (fun h2 => ?_) (fun h2 => ?_)
  ·have g2 : (l.When : Int) = 1 := beq_t h2
   refine sem_region rfl (step_r rfl rfl trivial (step_nil ?_))
   have e3 : line9_J8 l = 100 := by
    unfold line9_J8
    try dsimp only
    rewrite [if_pos g2]
    all_goals rfl
   exact cutW_n 100 e3 (Trans.ren [] (by decide +kernel) (by decide +kernel) rfl ⟨⟨rfl, rfl⟩, ⟨rfl, rfl⟩, ⟨rfl, rfl⟩, trivial⟩ ⟨⟨rfl, rfl, rfl⟩, ⟨rfl, rfl, rfl⟩, trivial⟩ (by decide))
  ·have g2 : ¬ ((l.When : Int) = 1) := beq_f h2
   refine sem_skip ?_
   have e4 : line9_J8 l = 1000000 := by
    unfold line9_J8
    try dsimp only
    rewrite [if_neg g2]
    all_goals rfl
   exact cutW_n 1000000 e4 (Trans.ren [] (by decide +kernel) (by decide +kernel) rfl ⟨⟨rfl, rfl⟩, ⟨rfl, rfl⟩, ⟨rfl, rfl⟩, trivial⟩ ⟨⟨rfl, rfl, rfl⟩, ⟨rfl, rfl, rfl⟩, trivial⟩ (by decide))
 ·rintro most_8 (hJ1 : line9_J8 l = most_8)
  show seqK _ _ _ .normal (⟨[(2, .ptr 0 0), (3, .ptr 1 0), (5, I most_8)], [(0, .box [.pv (.slc c.Abilities.length false (c.Abilities.flatMap encGAbility)), .pv (.slc c.Auras.length false (c.Auras.flatMap encGAura)), .pv (.slc c.Foes.length false (c.Foes.flatMap encGFoe)), I c.Map.W, I c.Map.H, .pv (.slc c.Map.Wall.length false (encB c.Map.Wall)), I c.Door.X, I c.Door.Y, I c.Lair.X, I c.Lair.Y]), (1, .box [I l.Phase, I l.When, I l.Arg, I l.Do, I l.Value])], 2, [], 60, 0⟩ : St)
  refine seqK_n (sem_seq (sem_seq (sem_region rfl (step_r rfl rfl (by decide) (step_r rfl rfl trivial (step_call rfl rfl rfl rfl (within9_ok l.Phase 1 100) rfl rfl rfl (step_r rfl rfl trivial (step_r rfl rfl trivial ?_))))))))
  refine step_gs rfl (fun h6 => ?_) (fun h6 => ?_)
  ·have g6 : ¬ (within9 l.Phase 1 100 = true) := boo_f (not_t h6)
   refine step_g0 rfl h6 rfl (step_g0 rfl h6 rfl (step_g0 rfl h6 rfl (step_g0 rfl h6 rfl (step_pickT rfl h6 rfl rfl (step_r rfl rfl trivial (step_gf rfl rfl (step_gf rfl rfl (step_gf rfl rfl (step_gf rfl rfl (step_gf rfl rfl (step_r rfl rfl trivial ?_)))))))))))
   refine step_r rfl rfl trivial (step_gf rfl rfl (step_gf rfl rfl (step_gf rfl rfl (step_gf rfl rfl (step_gf rfl rfl (step_r rfl rfl trivial (step_nil (seqK_n (sem_condT rfl (sem_seq (sem_region rfl ?_)))))))))))
   refine step_r rfl rfl trivial (step_nil (seqK_n (sem_ret (seqK_r ?_))))
   have e7 : line9 c l = false := by
    unfold line9
    try dsimp only
    rewrite [hJ1]
    try dsimp only
    rewrite [if_neg g6]
    all_goals rfl
   rw [e7]
   exact answersR rfl ⟨trivial, trivial⟩ (rfl) rfl
  ·have g6 : within9 l.Phase 1 100 = true := (not_f h6)
   refine step_g1 rfl h6 (step_r rfl rfl (by decide) (step_g1 rfl h6 (step_r rfl rfl trivial (step_g1 rfl h6 (step_call rfl rfl rfl rfl (within9_ok l.When 1 3) rfl rfl rfl (step_g1 rfl h6 (step_r rfl rfl trivial (step_pickF rfl h6 rfl rfl (step_r rfl rfl trivial ?_)))))))))
   refine step_gs rfl (fun h9 => ?_) (fun h9 => ?_)
   ·have g9 : ¬ (within9 l.When 1 3 = true) := boo_f (not_t h9)
    refine step_g0 rfl h9 rfl (step_g0 rfl h9 rfl (step_g0 rfl h9 rfl (step_g0 rfl h9 rfl (step_g0 rfl h9 rfl (step_pickT rfl h9 rfl rfl (step_r rfl rfl trivial (step_gf rfl rfl (step_gf rfl rfl (step_gf rfl rfl (step_gf rfl rfl (step_gf rfl rfl ?_)))))))))))
    refine step_r rfl rfl trivial (step_nil (seqK_n (sem_condT rfl (sem_seq (sem_region rfl (step_r rfl rfl trivial (step_nil (seqK_n (sem_ret (seqK_r ?_))))))))))
    have e10 : line9 c l = false := by
     unfold line9
     try dsimp only
     rewrite [hJ1]
     try dsimp only
     rewrite [if_pos g6, if_neg g9]
     all_goals rfl
    rw [e10]
    exact answersR rfl ⟨trivial, trivial⟩ (rfl) rfl
   ·have g9 : within9 l.When 1 3 = true := (not_f h9)
    refine step_g1 rfl h9 (step_r rfl rfl (by decide) (step_g1 rfl h9 (step_r rfl rfl trivial (step_g1 rfl h9 (step_r rfl rfl trivial (step_g1 rfl h9 (step_call rfl rfl rfl rfl (within9_ok l.Arg 1 most_8) rfl rfl rfl (step_g1 rfl h9 (step_r rfl rfl trivial (step_pickF rfl h9 rfl rfl (step_r rfl rfl trivial ?_)))))))))))
    refine step_gs rfl (fun h13 => ?_) (fun h13 => ?_)
    ·have g13 : ¬ (within9 l.Arg 1 most_8 = true) := boo_f (not_t h13)
     refine step_g0 rfl h13 rfl (step_g0 rfl h13 rfl (step_g0 rfl h13 rfl (step_g0 rfl h13 rfl (step_g0 rfl h13 rfl (step_pickT rfl h13 rfl rfl (step_nil (seqK_n (sem_condT rfl (sem_seq (sem_region rfl (step_r rfl rfl trivial ?_)))))))))))
     refine step_nil (seqK_n (sem_ret (seqK_r ?_)))
     have e14 : line9 c l = false := by
      unfold line9
      try dsimp only
      rewrite [hJ1]
      try dsimp only
      rewrite [if_pos g6, if_pos g9, if_neg g13]
      all_goals rfl
     rw [e14]
     exact answersR rfl ⟨trivial, trivial⟩ (rfl) rfl
    ·have g13 : within9 l.Arg 1 most_8 = true := (not_f h13)
     refine step_g1 rfl h13 (step_r rfl rfl (by decide) (step_g1 rfl h13 (step_r rfl rfl trivial (step_g1 rfl h13 (step_n (o := .row _ _ [_]) (nx' := 3) rfl rfl rfl (by decide) (step_g1 rfl h13 ?_))))))
     refine step_callJ (Hin := [.row _ _ _]) (H' := [(2, _), (0, _), (1, _)]) (nx' := 3) [2] rfl rfl rfl rfl rfl rfl rfl rfl rfl (by (repeat' apply And.intro) <;> first | trivial | rfl | exact flat_len (fun _ => rfl) _ | exact encI_len _ | exact encB_len _ | exact encY_len _ | exact Nat.le_of_ble_eq_true rfl | assumption) (amounts9_ok ([l.Value]) false) rfl (by decide) rfl rfl trivial rfl rfl rfl rfl ?_
     refine step_g1 rfl h13 (step_r rfl rfl trivial (step_pickF rfl h13 rfl rfl (step_nil (seqK_n ?_))))
     refine sem_cond rfl (fun h16 => ?_) (fun h16 => ?_)
     ·have g16 : ¬ (amounts9 ([l.Value]) = true) := boo_f (not_t h16)
      refine sem_seq (sem_region rfl (step_r rfl rfl trivial (step_nil (seqK_n (sem_ret (seqK_r ?_))))))
      have e17 : line9 c l = false := by
       unfold line9
       try dsimp only
       rewrite [hJ1]
       try dsimp only
       rewrite [if_pos g6, if_pos g9, if_pos g13, if_neg g16]
       all_goals rfl
      rw [e17]
      exact answersR rfl ⟨trivial, trivial⟩ (rfl) rfl
     ·have g16 : amounts9 ([l.Value]) = true := (not_f h16)
      refine sem_skip (seqK_n (sem_seq (sem_seq (sem_region rfl (step_r rfl rfl (by decide) (step_r rfl rfl trivial (step_nil (seqK_n (sem_block (sem_seq (sem_region rfl ?_)))))))))))
      refine step_bin rfl rfl rfl rfl rfl trivial (step_r rfl rfl trivial (step_nil (seqK_n ?_)))
      refine sem_cond rfl (fun h19 => ?_) (fun h19 => ?_)
      ·have g19 : (l.Do : Int) = 1 := beq_t h19
       refine sem_seq (sem_region rfl (step_r rfl rfl (by decide) (step_r rfl rfl trivial (step_call rfl rfl rfl rfl (within9_ok l.Value 1 100) rfl rfl rfl (step_r rfl rfl trivial (step_nil (seqK_n (sem_ret (blkK_r (seqK_r ?_))))))))))
       have e21 : line9 c l = (within9 l.Value 1 100) := by
        unfold line9
        try dsimp only
        rewrite [hJ1]
        try dsimp only
        rewrite [if_pos g6, if_pos g9, if_pos g13, if_pos g16, if_pos g19]
        all_goals rfl
       rw [e21]
       exact answersR rfl ⟨trivial, trivial⟩ (rfl) rfl
      ·have g19 : ¬ ((l.Do : Int) = 1) := beq_f h19
       refine sem_seq (sem_region rfl (step_bin rfl rfl rfl rfl rfl trivial (step_r rfl rfl trivial (step_nil (seqK_n ?_)))))
       refine sem_cond rfl (fun h23 => ?_) (fun h23 => ?_)
       ·have g23 : (l.Do : Int) = 2 := beq_t h23
        refine sem_seq (sem_region rfl (step_r (v := (.agg [_, _, _, _, _, _, _, _, _, _])) rfl rfl (Nat.le_of_ble_eq_true rfl) (step_r rfl rfl (by decide) (step_r rfl rfl trivial (step_call rfl rfl rfl rfl (getA_ok c l.Value (by first | assumption | exact few_small (by decide +kernel) | exact few_cut (by assumption) | grind)) rfl rfl rfl (step_r rfl rfl trivial (step_r rfl rfl trivial (step_r rfl rfl trivial (step_n (o := .box [_, _, _, _, _, _, _, _]) (nx' := 4) rfl rfl rfl trivial ?_)))))))))
        refine step_storeB (H' := [(3, .box [_, _, _, _, _, _, _, _]), (2, _), (0, _), (1, _)]) rfl rfl rfl rfl rfl rfl (.inl rfl) rfl ?_
        refine step_r rfl rfl trivial (step_nil (seqK_n (sem_seq (sem_region rfl (step_r rfl rfl trivial (step_r rfl rfl trivial (step_nil (seqK_n (sem_ret (blkK_r (seqK_r ?_)))))))))))
        have e25 : line9 c l = (getA c l.Value).2 := by
         unfold line9
         try dsimp only
         rewrite [hJ1]
         try dsimp only
         rewrite [if_pos g6, if_pos g9, if_pos g13, if_pos g16, if_neg g19, if_pos g23]
         all_goals rfl
        rw [e25]
        exact answersR rfl ⟨trivial, trivial⟩ (rfl) rfl
       ·have g23 : ¬ ((l.Do : Int) = 2) := beq_f h23
        refine sem_skip (blkK_n (seqK_n (sem_seq (sem_region rfl (step_r rfl rfl (by decide) (step_r rfl rfl trivial (step_bin rfl rfl rfl rfl rfl trivial (step_r rfl rfl trivial ?_))))))))
        refine step_gs rfl (fun h27 => ?_) (fun h27 => ?_)
        ·have g27 : (l.Do : Int) = 3 := beq_t h27
         refine step_g0 rfl h27 rfl (step_g0 rfl h27 rfl (step_g0 rfl h27 rfl (step_pickT rfl h27 rfl rfl (step_r rfl rfl trivial (step_nil (seqK_n (sem_ret ?_)))))))
         have e28 : line9 c l = true := by
          unfold line9
          try dsimp only
          rewrite [hJ1]
          try dsimp only
          rewrite [if_pos g6, if_pos g9, if_pos g13, if_pos g16, if_neg g19, if_neg g23, if_pos g27]
          all_goals rfl
         rw [e28]
         exact answersR rfl ⟨trivial, trivial⟩ (rfl) rfl
        ·have g27 : ¬ ((l.Do : Int) = 3) := beq_f h27
         refine step_g1 rfl h27 (step_r rfl rfl (by decide) (step_g1 rfl h27 (step_r rfl rfl trivial (step_g1 rfl h27 (step_bin rfl rfl rfl rfl rfl trivial (step_pickF rfl h27 rfl rfl (step_r rfl rfl trivial (step_nil (seqK_n (sem_ret ?_))))))))))
         have e30 : line9 c l = ((l.Do : Int) == 4) := by
          unfold line9
          try dsimp only
          rewrite [hJ1]
          try dsimp only
          rewrite [if_pos g6, if_pos g9, if_pos g13, if_pos g16, if_neg g19, if_neg g23, if_neg g27]
          all_goals rfl
         rw [e30]
         exact answersR rfl ⟨trivial, trivial⟩ (rfl) rfl

def prize9 (p : GPrize) : Bool :=
  if within9 p.Item 1 1000000 = true then (within9 p.Weight 1 1000000) else false
theorem prize9_ok (p : GPrize) : Ok Tryz.prog 125 [aGPrize p] [] (B (prize9 p)) [] [] := by
 refine ok_of_sem Tryz.func125 rfl ?_
 show Walks Tryz.prog _ _ ⟨[(0, aGPrize p)], [], 0, [], 11, 0⟩
 refine sem_seq (sem_region rfl (step_n (o := .box [_, _]) (nx' := 1) rfl rfl rfl trivial (step_r rfl rfl trivial (step_nil (seqK_n (sem_seq (sem_region rfl (step_r rfl rfl (by decide) (step_r rfl rfl trivial (step_call rfl rfl rfl rfl (within9_ok p.Item 1 1000000) rfl rfl rfl (step_r rfl rfl trivial ?_)))))))))))
 refine step_gs rfl (fun h2 => ?_) (fun h2 => ?_)
 ·have g2 : within9 p.Item 1 1000000 = true := h2
  refine step_g1 rfl h2 (step_r rfl rfl (by decide) (step_g1 rfl h2 (step_r rfl rfl trivial (step_g1 rfl h2 (step_call rfl rfl rfl rfl (within9_ok p.Weight 1 1000000) rfl rfl rfl (step_pickT rfl h2 rfl rfl (step_r rfl rfl trivial (step_nil (seqK_n (sem_ret ?_))))))))))
  have e4 : prize9 p = (within9 p.Weight 1 1000000) := by
   unfold prize9
   try dsimp only
   rewrite [if_pos g2]
   all_goals rfl
  rw [e4]
  exact answersR rfl ⟨trivial, trivial⟩ (rfl) rfl
 ·have g2 : ¬ (within9 p.Item 1 1000000 = true) := boo_f h2
  refine step_g0 rfl h2 rfl (step_g0 rfl h2 rfl (step_g0 rfl h2 rfl (step_pickF rfl h2 rfl rfl (step_r rfl rfl trivial (step_nil (seqK_n (sem_ret ?_)))))))
  have e5 : prize9 p = false := by
   unfold prize9
   try dsimp only
   rewrite [if_neg g2]
   all_goals rfl
  rw [e5]
  exact answersR rfl ⟨trivial, trivial⟩ (rfl) rfl

def badL (l : GLine) (c1 : GContent) : Bool :=
  (!(line9 c1 l))
theorem badL_ok (l : GLine) (c1 : GContent) (hF : Few9 c1) : Ok Tryz.prog 121 [aGLine l, .pptr [.slc c1.Abilities.length false (c1.Abilities.flatMap encGAbility), .slc c1.Auras.length false (c1.Auras.flatMap encGAura), .slc c1.Foes.length false (c1.Foes.flatMap encGFoe), i64 c1.Map.W, i64 c1.Map.H, .slc c1.Map.Wall.length false (encB c1.Map.Wall), i64 c1.Door.X, i64 c1.Door.Y, i64 c1.Lair.X, i64 c1.Lair.Y] 0] [] (B (badL l c1)) [] [] := by
 refine ok_of_sem Tryz.func121 rfl ?_
 show Walks Tryz.prog _ _ ⟨[(0, aGLine l), (1, .pptr [.slc c1.Abilities.length false (c1.Abilities.flatMap encGAbility), .slc c1.Auras.length false (c1.Auras.flatMap encGAura), .slc c1.Foes.length false (c1.Foes.flatMap encGFoe), i64 c1.Map.W, i64 c1.Map.H, .slc c1.Map.Wall.length false (encB c1.Map.Wall), i64 c1.Door.X, i64 c1.Door.Y, i64 c1.Lair.X, i64 c1.Lair.Y] 0)], [], 0, [], 8, 0⟩
 refine sem_seq (sem_region rfl (step_n (o := .box [_, _, _, _, _]) (nx' := 1) rfl rfl rfl trivial (step_r rfl rfl trivial (step_nil (seqK_n (sem_seq (sem_region rfl (step_load_row rfl rfl rfl (Nat.le_of_ble_eq_true rfl) (rfl) rfl (step_r (v := (.agg [_, _, _, _, _])) rfl rfl (Nat.le_of_ble_eq_true rfl) (step_call rfl rfl rfl rfl (line9_ok c1 l (by first | assumption | exact few_small (by decide +kernel) | exact few_cut (by assumption) | grind)) rfl rfl rfl (step_r rfl rfl trivial ?_)))))))))))
 refine step_r rfl rfl trivial (step_nil (seqK_n (sem_ret ?_)))
 have e2 : badL l c1 = (!(line9 c1 l)) := by
  unfold badL
  try dsimp only
  all_goals rfl
 rw [e2]
 exact answersR rfl ⟨trivial, trivial⟩ (rfl) rfl

def badP (p : GPrize) : Bool :=
  (!(prize9 p))
theorem badP_ok (p : GPrize) : Ok Tryz.prog 124 [aGPrize p] [] (B (badP p)) [] [] := by
 refine ok_of_sem Tryz.func124 rfl ?_
 show Walks Tryz.prog _ _ ⟨[(0, aGPrize p)], [], 0, [], 6, 0⟩
 refine sem_seq (sem_region rfl (step_n (o := .box [_, _]) (nx' := 1) rfl rfl rfl trivial (step_r rfl rfl trivial (step_nil (seqK_n (sem_seq (sem_region rfl (step_r (v := (.agg [_, _])) rfl rfl (Nat.le_of_ble_eq_true rfl) (step_call rfl rfl rfl rfl (prize9_ok p) rfl rfl rfl (step_r rfl rfl trivial (step_r rfl rfl trivial ?_)))))))))))
 refine step_nil (seqK_n (sem_ret ?_))
 have e2 : badP p = (!(prize9 p)) := by
  unfold badP
  try dsimp only
  all_goals rfl
 rw [e2]
 exact answersR rfl ⟨trivial, trivial⟩ (rfl) rfl

def foe9_J7 (f : GFoe) : Bool :=
  if within9 f.Health 1 1000000 = true then (if within9 f.Every 1 1000000 = true then (!(amounts9 ([f.Hit, f.Reach]))) else (!(within9 f.Every 1 1000000))) else (!(within9 f.Health 1 1000000))
def foe9_J23 (f : GFoe) : Bool :=
  if within9 f.Drops 0 16 = true then (if (f.Script.length : Int) > 16 then (decide ((f.Script.length : Int) > 16)) else if (f.Hoard.length : Int) > 16 then (decide ((f.Hoard.length : Int) > 16)) else if (f.Drops : Int) > 0 then ((f.Hoard.length : Int) == 0) else false) else (!(within9 f.Drops 0 16))
def foe9 (c : GContent) (f : GFoe) : Bool :=
  (let t6_7 := foe9_J7 f; if t6_7 = true then false else (let t22_23 := foe9_J23 f; if t22_23 = true then false else if f.Script.any (fun x_ => badL x_ c) = true then false else (!(f.Hoard.any (fun x_ => badP x_)))))
theorem foe9_ok (c : GContent) (f : GFoe) (hF : Few9 c) : Ok Tryz.prog 99 [aGContent c, aGFoe f] [] (B (foe9 c f)) [] [] := by
 refine Ok.len fun hlen => ?_
 have hl_c_Abilities : c.Abilities.length ≤ maxLen := hlen _ (by simp [lensL, lens, lensP])
 have hl_c_Auras : c.Auras.length ≤ maxLen := hlen _ (by simp [lensL, lens, lensP])
 have hl_c_Foes : c.Foes.length ≤ maxLen := hlen _ (by simp [lensL, lens, lensP])
 have hl_c_Map_Wall : c.Map.Wall.length ≤ maxLen := hlen _ (by simp [lensL, lens, lensP])
 have hl_f_Script : f.Script.length ≤ maxLen := hlen _ (by simp [lensL, lens, lensP])
 have hl_f_Hoard : f.Hoard.length ≤ maxLen := hlen _ (by simp [lensL, lens, lensP])
 unfold maxLen at hl_c_Abilities hl_c_Auras hl_c_Foes hl_c_Map_Wall hl_f_Script hl_f_Hoard
 refine ok_of_sem Tryz.func99 rfl ?_
 show Walks Tryz.prog _ _ ⟨[(0, aGContent c), (1, aGFoe f)], [], 0, [], 56, 0⟩
 refine sem_seq (sem_region rfl (step_n (o := .box [_, _, _, _, _, _, _, _, _, _]) (nx' := 1) rfl rfl rfl trivial (step_n (o := .box [_, _, _, _, _, _, _, _]) (nx' := 2) rfl rfl rfl trivial (step_r rfl rfl trivial (step_nil (seqK_n (sem_seq (sem_block (sem_seq ?_)))))))))
 refine sem_cutW (fun t6_7 : Bool => (⟨[(2, .ptr 0 0), (3, .ptr 1 0), (6, B t6_7)], [(0, .box [.pv (.slc c.Abilities.length false (c.Abilities.flatMap encGAbility)), .pv (.slc c.Auras.length false (c.Auras.flatMap encGAura)), .pv (.slc c.Foes.length false (c.Foes.flatMap encGFoe)), I c.Map.W, I c.Map.H, .pv (.slc c.Map.Wall.length false (encB c.Map.Wall)), I c.Door.X, I c.Door.Y, I c.Lair.X, I c.Lair.Y]), (1, .box [I f.Id, I f.Health, I f.Hit, I f.Every, I f.Reach, .pv (.slc f.Script.length false (f.Script.flatMap encGLine)), .pv (.slc f.Hoard.length false (f.Hoard.flatMap encGPrize)), I f.Drops])], 2, [], 56, 0⟩ : St)) (fun w_ => foe9_J7 f = w_) ?_ ?_
 ·refine sem_seq (sem_region rfl (step_r rfl rfl (by decide) (step_r rfl rfl trivial (step_call rfl rfl rfl rfl (within9_ok f.Health 1 1000000) rfl rfl rfl (step_r rfl rfl trivial (step_r rfl rfl trivial (step_nil (seqK_n ?_))))))))
  refine sem_cond rfl (fun h3 => ?_) (fun h3 => ?_)
  ·have g3 : ¬ (within9 f.Health 1 1000000 = true) := boo_f (not_t h3)
   refine sem_skip ?_
   have e4 : foe9_J7 f = (!(within9 f.Health 1 1000000)) := by
    unfold foe9_J7
    try dsimp only
    rewrite [if_neg g3]
    all_goals rfl
   exact cutW_n (!(within9 f.Health 1 1000000)) e4 (Trans.ren [] (by decide +kernel) (by decide +kernel) rfl ⟨⟨rfl, rfl⟩, ⟨rfl, rfl⟩, ⟨rfl, rfl⟩, trivial⟩ ⟨⟨rfl, rfl, rfl⟩, ⟨rfl, rfl, rfl⟩, trivial⟩ (by decide))
  ·have g3 : within9 f.Health 1 1000000 = true := (not_f h3)
   refine sem_seq (sem_region rfl (step_r rfl rfl (by decide) (step_r rfl rfl trivial (step_call rfl rfl rfl rfl (within9_ok f.Every 1 1000000) rfl rfl rfl (step_r rfl rfl trivial (step_r rfl rfl trivial (step_nil (seqK_n ?_))))))))
   refine sem_cond rfl (fun h6 => ?_) (fun h6 => ?_)
   ·have g6 : ¬ (within9 f.Every 1 1000000 = true) := boo_f (not_t h6)
    refine sem_skip ?_
    have e7 : foe9_J7 f = (!(within9 f.Every 1 1000000)) := by
     unfold foe9_J7
     try dsimp only
     rewrite [if_pos g3, if_neg g6]
     all_goals rfl
    exact cutW_n (!(within9 f.Every 1 1000000)) e7 (Trans.ren [] (by decide +kernel) (by decide +kernel) rfl ⟨⟨rfl, rfl⟩, ⟨rfl, rfl⟩, ⟨rfl, rfl⟩, trivial⟩ ⟨⟨rfl, rfl, rfl⟩, ⟨rfl, rfl, rfl⟩, trivial⟩ (by decide))
   ·have g6 : within9 f.Every 1 1000000 = true := (not_f h6)
    refine sem_region rfl (step_r rfl rfl (by decide) (step_r rfl rfl trivial (step_r rfl rfl (by decide) (step_r rfl rfl trivial (step_n (o := .row _ _ [_, _]) (nx' := 3) rfl rfl rfl (by decide) ?_)))))
    refine step_callJ (Hin := [.row _ _ _]) (H' := [(2, _), (1, _), (0, _)]) (nx' := 3) [2] rfl rfl rfl rfl rfl rfl rfl rfl rfl (by (repeat' apply And.intro) <;> first | trivial | rfl | exact flat_len (fun _ => rfl) _ | exact encI_len _ | exact encB_len _ | exact encY_len _ | exact Nat.le_of_ble_eq_true rfl | assumption) (amounts9_ok ([f.Hit, f.Reach]) false) rfl (by decide) rfl rfl trivial rfl rfl rfl rfl ?_
    refine step_r rfl rfl trivial (step_r rfl rfl trivial (step_nil ?_))
    have e9 : foe9_J7 f = (!(amounts9 ([f.Hit, f.Reach]))) := by
     unfold foe9_J7
     try dsimp only
     rewrite [if_pos g3, if_pos g6]
     all_goals rfl
    exact cutW_n (!(amounts9 ([f.Hit, f.Reach]))) e9 (Trans.ren [] (by decide +kernel) (by decide +kernel) rfl ⟨⟨rfl, rfl⟩, ⟨rfl, rfl⟩, ⟨rfl, rfl⟩, trivial⟩ ⟨⟨rfl, rfl, rfl⟩, ⟨rfl, rfl, rfl⟩, trivial⟩ (by decide))
 ·rintro t6_7 (hJ1 : foe9_J7 f = t6_7)
  show seqK _ _ _ .normal (⟨[(2, .ptr 0 0), (3, .ptr 1 0), (6, B t6_7)], [(0, .box [.pv (.slc c.Abilities.length false (c.Abilities.flatMap encGAbility)), .pv (.slc c.Auras.length false (c.Auras.flatMap encGAura)), .pv (.slc c.Foes.length false (c.Foes.flatMap encGFoe)), I c.Map.W, I c.Map.H, .pv (.slc c.Map.Wall.length false (encB c.Map.Wall)), I c.Door.X, I c.Door.Y, I c.Lair.X, I c.Lair.Y]), (1, .box [I f.Id, I f.Health, I f.Hit, I f.Every, I f.Reach, .pv (.slc f.Script.length false (f.Script.flatMap encGLine)), .pv (.slc f.Hoard.length false (f.Hoard.flatMap encGPrize)), I f.Drops])], 2, [], 56, 0⟩ : St)
  refine seqK_n ?_
  refine sem_cond rfl (fun h10 => ?_) (fun h10 => ?_)
  ·have g10 : t6_7 = true := h10
   refine sem_seq (sem_region rfl (step_r rfl rfl trivial (step_nil (seqK_n (sem_ret (blkK_r (seqK_r ?_)))))))
   have e11 : foe9 c f = false := by
    unfold foe9
    try dsimp only
    rewrite [hJ1]
    try dsimp only
    rewrite [if_pos g10]
    all_goals rfl
   rw [e11]
   exact answersR rfl ⟨trivial, trivial⟩ (rfl) rfl
  ·have g10 : ¬ (t6_7 = true) := boo_f h10
   refine sem_seq ?_
   refine sem_cutW (fun t22_23 : Bool => (⟨[(2, .ptr 0 0), (3, .ptr 1 0), (22, B t22_23)], [(0, .box [.pv (.slc c.Abilities.length false (c.Abilities.flatMap encGAbility)), .pv (.slc c.Auras.length false (c.Auras.flatMap encGAura)), .pv (.slc c.Foes.length false (c.Foes.flatMap encGFoe)), I c.Map.W, I c.Map.H, .pv (.slc c.Map.Wall.length false (encB c.Map.Wall)), I c.Door.X, I c.Door.Y, I c.Lair.X, I c.Lair.Y]), (1, .box [I f.Id, I f.Health, I f.Hit, I f.Every, I f.Reach, .pv (.slc f.Script.length false (f.Script.flatMap encGLine)), .pv (.slc f.Hoard.length false (f.Hoard.flatMap encGPrize)), I f.Drops])], 2, [], 56, 0⟩ : St)) (fun w_ => foe9_J23 f = w_) ?_ ?_
   ·refine sem_seq (sem_region rfl (step_r rfl rfl (by decide) (step_r rfl rfl trivial (step_call rfl rfl rfl rfl (within9_ok f.Drops 0 16) rfl rfl rfl (step_r rfl rfl trivial (step_r rfl rfl trivial (step_nil (seqK_n ?_))))))))
    refine sem_cond rfl (fun h14 => ?_) (fun h14 => ?_)
    ·have g14 : ¬ (within9 f.Drops 0 16 = true) := boo_f (not_t h14)
     refine sem_skip ?_
     have e15 : foe9_J23 f = (!(within9 f.Drops 0 16)) := by
      unfold foe9_J23
      try dsimp only
      rewrite [if_neg g14]
      all_goals rfl
     exact cutW_n (!(within9 f.Drops 0 16)) e15 (Trans.ren [] (by decide +kernel) (by decide +kernel) rfl ⟨⟨rfl, rfl⟩, ⟨rfl, rfl⟩, ⟨rfl, rfl⟩, trivial⟩ ⟨⟨rfl, rfl, rfl⟩, ⟨rfl, rfl, rfl⟩, trivial⟩ (by decide))
    ·have g14 : within9 f.Drops 0 16 = true := (not_f h14)
     refine sem_seq (sem_region rfl (step_r rfl rfl (by decide) (step_r rfl rfl trivial (step_r rfl rfl trivial (step_bin rfl rfl rfl rfl rfl trivial (step_r rfl rfl trivial (step_nil (seqK_n ?_))))))))
     refine sem_cond rfl (fun h17 => ?_) (fun h17 => ?_)
     ·have g17 : (f.Script.length : Int) > 16 := of_decide_eq_true h17
      refine sem_skip ?_
      have e18 : foe9_J23 f = (decide ((f.Script.length : Int) > 16)) := by
       unfold foe9_J23
       try dsimp only
       rewrite [if_pos g14, if_pos g17]
       all_goals rfl
      exact cutW_n (decide ((f.Script.length : Int) > 16)) e18 (Trans.ren [] (by decide +kernel) (by decide +kernel) rfl ⟨⟨rfl, rfl⟩, ⟨rfl, rfl⟩, ⟨rfl, rfl⟩, trivial⟩ ⟨⟨rfl, rfl, rfl⟩, ⟨rfl, rfl, rfl⟩, trivial⟩ (by decide))
     ·have g17 : ¬ ((f.Script.length : Int) > 16) := of_decide_eq_false h17
      refine sem_seq (sem_region rfl (step_r rfl rfl (by decide) (step_r rfl rfl trivial (step_r rfl rfl trivial (step_bin rfl rfl rfl rfl rfl trivial (step_r rfl rfl trivial (step_nil (seqK_n ?_))))))))
      refine sem_cond rfl (fun h20 => ?_) (fun h20 => ?_)
      ·have g20 : (f.Hoard.length : Int) > 16 := of_decide_eq_true h20
       refine sem_skip ?_
       have e21 : foe9_J23 f = (decide ((f.Hoard.length : Int) > 16)) := by
        unfold foe9_J23
        try dsimp only
        rewrite [if_pos g14, if_neg g17, if_pos g20]
        all_goals rfl
       exact cutW_n (decide ((f.Hoard.length : Int) > 16)) e21 (Trans.ren [] (by decide +kernel) (by decide +kernel) rfl ⟨⟨rfl, rfl⟩, ⟨rfl, rfl⟩, ⟨rfl, rfl⟩, trivial⟩ ⟨⟨rfl, rfl, rfl⟩, ⟨rfl, rfl, rfl⟩, trivial⟩ (by decide))
      ·have g20 : ¬ ((f.Hoard.length : Int) > 16) := of_decide_eq_false h20
       refine sem_region rfl (step_r rfl rfl (by decide) (step_r rfl rfl trivial (step_bin rfl rfl rfl rfl rfl trivial (step_r rfl rfl trivial ?_))))
       refine step_gs rfl (fun h23 => ?_) (fun h23 => ?_)
       ·have g23 : (f.Drops : Int) > 0 := of_decide_eq_true h23
        refine step_g1 rfl h23 (step_r rfl rfl (by decide) (step_g1 rfl h23 (step_r rfl rfl trivial (step_g1 rfl h23 (step_r rfl rfl trivial (step_g1 rfl h23 (step_bin rfl rfl rfl rfl rfl trivial (step_pickT rfl h23 rfl rfl (step_r rfl rfl trivial (step_nil ?_))))))))))
        have e25 : foe9_J23 f = ((f.Hoard.length : Int) == 0) := by
         unfold foe9_J23
         try dsimp only
         rewrite [if_pos g14, if_neg g17, if_neg g20, if_pos g23]
         all_goals rfl
        exact cutW_n ((f.Hoard.length : Int) == 0) e25 (Trans.ren [] (by decide +kernel) (by decide +kernel) rfl ⟨⟨rfl, rfl⟩, ⟨rfl, rfl⟩, ⟨rfl, rfl⟩, trivial⟩ ⟨⟨rfl, rfl, rfl⟩, ⟨rfl, rfl, rfl⟩, trivial⟩ (by decide))
       ·have g23 : ¬ ((f.Drops : Int) > 0) := of_decide_eq_false h23
        refine step_g0 rfl h23 rfl (step_g0 rfl h23 rfl (step_g0 rfl h23 rfl (step_g0 rfl h23 rfl (step_pickF rfl h23 rfl rfl (step_r rfl rfl trivial (step_nil ?_))))))
        have e26 : foe9_J23 f = false := by
         unfold foe9_J23
         try dsimp only
         rewrite [if_pos g14, if_neg g17, if_neg g20, if_neg g23]
         all_goals rfl
        exact cutW_n false e26 (Trans.ren [] (by decide +kernel) (by decide +kernel) rfl ⟨⟨rfl, rfl⟩, ⟨rfl, rfl⟩, ⟨rfl, rfl⟩, trivial⟩ ⟨⟨rfl, rfl, rfl⟩, ⟨rfl, rfl, rfl⟩, trivial⟩ (by decide))
   ·rintro t22_23 (hJ12 : foe9_J23 f = t22_23)
    show seqK _ _ _ .normal (⟨[(2, .ptr 0 0), (3, .ptr 1 0), (22, B t22_23)], [(0, .box [.pv (.slc c.Abilities.length false (c.Abilities.flatMap encGAbility)), .pv (.slc c.Auras.length false (c.Auras.flatMap encGAura)), .pv (.slc c.Foes.length false (c.Foes.flatMap encGFoe)), I c.Map.W, I c.Map.H, .pv (.slc c.Map.Wall.length false (encB c.Map.Wall)), I c.Door.X, I c.Door.Y, I c.Lair.X, I c.Lair.Y]), (1, .box [I f.Id, I f.Health, I f.Hit, I f.Every, I f.Reach, .pv (.slc f.Script.length false (f.Script.flatMap encGLine)), .pv (.slc f.Hoard.length false (f.Hoard.flatMap encGPrize)), I f.Drops])], 2, [], 56, 0⟩ : St)
    refine seqK_n ?_
    refine sem_cond rfl (fun h27 => ?_) (fun h27 => ?_)
    ·have g27 : t22_23 = true := h27
     refine sem_seq (sem_region rfl (step_r rfl rfl trivial (step_nil (seqK_n (sem_ret (blkK_r (seqK_r ?_)))))))
     have e28 : foe9 c f = false := by
      unfold foe9
      try dsimp only
      rewrite [hJ1]
      try dsimp only
      rewrite [if_neg g10, hJ12]
      try dsimp only
      rewrite [if_pos g27]
      all_goals rfl
     rw [e28]
     exact answersR rfl ⟨trivial, trivial⟩ (rfl) rfl
    ·have g27 : ¬ (t22_23 = true) := boo_f h27
     refine sem_skip (blkK_n (seqK_n (sem_seq (sem_region rfl (step_r rfl rfl (by decide) (step_r rfl rfl trivial (step_r rfl rfl trivial ?_)))))))
     refine step_callJ (Hin := [.box [.pv _, .pv _, .pv _, .pv _, .pv _, .pv _, .pv _, .pv _, .pv _, .pv _]]) (H' := [(0, _), (1, _)]) (nx' := 2) [0] rfl rfl rfl rfl rfl rfl rfl rfl rfl (by (repeat' apply And.intro) <;> first | trivial | rfl | exact flat_len (fun _ => rfl) _ | exact encI_len _ | exact encB_len _ | exact encY_len _ | exact Nat.le_of_ble_eq_true rfl | assumption) (hasf_GLine f.Script false 121 [.pptr [(.slc c.Abilities.length false (c.Abilities.flatMap encGAbility)), (.slc c.Auras.length false (c.Auras.flatMap encGAura)), (.slc c.Foes.length false (c.Foes.flatMap encGFoe)), i64 c.Map.W, i64 c.Map.H, (.slc c.Map.Wall.length false (encB c.Map.Wall)), i64 c.Door.X, i64 c.Door.Y, i64 c.Lair.X, i64 c.Lair.Y] 0] (fun x_ => badL x_ c) ⟨rfl, rfl, fun _ => rfl, fun _ => rfl, fun x_ => badL_ok x_ c (by first | assumption | exact few_small (by decide +kernel) | exact few_cut (by assumption) | grind)⟩) rfl (by decide) rfl rfl trivial rfl rfl rfl rfl ?_
     refine step_r rfl rfl trivial (step_nil (seqK_n (sem_seq (sem_region rfl (step_r rfl rfl trivial (step_r rfl rfl trivial (step_r rfl rfl trivial ?_)))))))
     refine step_gs rfl (fun h31 => ?_) (fun h31 => ?_)
     ·have g31 : ¬ (f.Script.any (fun x_ => badL x_ c) = true) := boo_f (not_t h31)
      refine step_g1 rfl h31 (step_r rfl rfl (by decide) (step_g1 rfl h31 (step_r rfl rfl trivial (step_g1 rfl h31 (step_call rfl rfl rfl rfl (hasf_GPrize f.Hoard false 124 [] (fun x_ => badP x_) ⟨rfl, rfl, fun _ => rfl, fun _ => rfl, fun x_ => badP_ok x_⟩) rfl rfl rfl (step_g1 rfl h31 (step_r rfl rfl trivial (step_pickT rfl h31 rfl rfl (step_r rfl rfl trivial (step_nil (seqK_n ?_)))))))))))
      refine sem_ret ?_
      have e33 : foe9 c f = (!(f.Hoard.any (fun x_ => badP x_))) := by
       unfold foe9
       try dsimp only
       rewrite [hJ1]
       try dsimp only
       rewrite [if_neg g10, hJ12]
       try dsimp only
       rewrite [if_neg g27, if_neg g31]
       all_goals rfl
      rw [e33]
      exact answersR rfl ⟨trivial, trivial⟩ (rfl) rfl
     ·have g31 : f.Script.any (fun x_ => badL x_ c) = true := (not_f h31)
      refine step_g0 rfl h31 rfl (step_g0 rfl h31 rfl (step_g0 rfl h31 rfl (step_g0 rfl h31 rfl (step_pickF rfl h31 rfl rfl (step_r rfl rfl trivial (step_nil (seqK_n (sem_ret ?_))))))))
      have e34 : foe9 c f = false := by
       unfold foe9
       try dsimp only
       rewrite [hJ1]
       try dsimp only
       rewrite [if_neg g10, hJ12]
       try dsimp only
       rewrite [if_neg g27, if_pos g31]
       all_goals rfl
      rw [e34]
      exact answersR rfl ⟨trivial, trivial⟩ (rfl) rfl

def okA (a : GAbility) (c1 : GContent) : Bool :=
  (ability9 c1 a)
theorem okA_ok (a : GAbility) (c1 : GContent) : Ok Tryz.prog 91 [aGAbility a, .pptr [.slc c1.Abilities.length false (c1.Abilities.flatMap encGAbility), .slc c1.Auras.length false (c1.Auras.flatMap encGAura), .slc c1.Foes.length false (c1.Foes.flatMap encGFoe), i64 c1.Map.W, i64 c1.Map.H, .slc c1.Map.Wall.length false (encB c1.Map.Wall), i64 c1.Door.X, i64 c1.Door.Y, i64 c1.Lair.X, i64 c1.Lair.Y] 0] [] (B (okA a c1)) [] [] := by
 refine Ok.len fun hlen => ?_
 have hl_a_Effects : a.Effects.length ≤ maxLen := hlen _ (by simp [lensL, lens, lensP])
 unfold maxLen at hl_a_Effects
 refine ok_of_sem Tryz.func91 rfl ?_
 show Walks Tryz.prog _ _ ⟨[(0, aGAbility a), (1, .pptr [.slc c1.Abilities.length false (c1.Abilities.flatMap encGAbility), .slc c1.Auras.length false (c1.Auras.flatMap encGAura), .slc c1.Foes.length false (c1.Foes.flatMap encGFoe), i64 c1.Map.W, i64 c1.Map.H, .slc c1.Map.Wall.length false (encB c1.Map.Wall), i64 c1.Door.X, i64 c1.Door.Y, i64 c1.Lair.X, i64 c1.Lair.Y] 0)], [], 0, [], 7, 0⟩
 refine sem_seq (sem_region rfl (step_n (o := .box [_, _, _, _, _, _, _, _]) (nx' := 1) rfl rfl rfl trivial (step_r rfl rfl trivial (step_nil (seqK_n (sem_seq (sem_region rfl (step_load_row rfl rfl rfl (Nat.le_of_ble_eq_true rfl) (rfl) rfl (step_r (v := (.agg [_, _, _, _, _, _, _, _])) rfl rfl (Nat.le_of_ble_eq_true rfl) (step_call rfl rfl rfl rfl (ability9_ok c1 a) rfl rfl rfl (step_r rfl rfl trivial ?_)))))))))))
 refine step_nil (seqK_n (sem_ret ?_))
 have e2 : okA a c1 = (ability9 c1 a) := by
  unfold okA
  try dsimp only
  all_goals rfl
 rw [e2]
 exact answersR rfl ⟨trivial, trivial⟩ (rfl) rfl

def okF (f : GFoe) (c1 : GContent) : Bool :=
  (foe9 c1 f)
theorem okF_ok (f : GFoe) (c1 : GContent) (hF : Few9 c1) : Ok Tryz.prog 98 [aGFoe f, .pptr [.slc c1.Abilities.length false (c1.Abilities.flatMap encGAbility), .slc c1.Auras.length false (c1.Auras.flatMap encGAura), .slc c1.Foes.length false (c1.Foes.flatMap encGFoe), i64 c1.Map.W, i64 c1.Map.H, .slc c1.Map.Wall.length false (encB c1.Map.Wall), i64 c1.Door.X, i64 c1.Door.Y, i64 c1.Lair.X, i64 c1.Lair.Y] 0] [] (B (okF f c1)) [] [] := by
 refine Ok.len fun hlen => ?_
 have hl_f_Script : f.Script.length ≤ maxLen := hlen _ (by simp [lensL, lens, lensP])
 have hl_f_Hoard : f.Hoard.length ≤ maxLen := hlen _ (by simp [lensL, lens, lensP])
 unfold maxLen at hl_f_Script hl_f_Hoard
 refine ok_of_sem Tryz.func98 rfl ?_
 show Walks Tryz.prog _ _ ⟨[(0, aGFoe f), (1, .pptr [.slc c1.Abilities.length false (c1.Abilities.flatMap encGAbility), .slc c1.Auras.length false (c1.Auras.flatMap encGAura), .slc c1.Foes.length false (c1.Foes.flatMap encGFoe), i64 c1.Map.W, i64 c1.Map.H, .slc c1.Map.Wall.length false (encB c1.Map.Wall), i64 c1.Door.X, i64 c1.Door.Y, i64 c1.Lair.X, i64 c1.Lair.Y] 0)], [], 0, [], 7, 0⟩
 refine sem_seq (sem_region rfl (step_n (o := .box [_, _, _, _, _, _, _, _]) (nx' := 1) rfl rfl rfl trivial (step_r rfl rfl trivial (step_nil (seqK_n (sem_seq (sem_region rfl (step_load_row rfl rfl rfl (Nat.le_of_ble_eq_true rfl) (rfl) rfl (step_r (v := (.agg [_, _, _, _, _, _, _, _])) rfl rfl (Nat.le_of_ble_eq_true rfl) (step_call rfl rfl rfl rfl (foe9_ok c1 f (by first | assumption | exact few_small (by decide +kernel) | exact few_cut (by assumption) | grind)) rfl rfl rfl (step_r rfl rfl trivial ?_)))))))))))
 refine step_nil (seqK_n (sem_ret ?_))
 have e2 : okF f c1 = (foe9 c1 f) := by
  unfold okF
  try dsimp only
  all_goals rfl
 rw [e2]
 exact answersR rfl ⟨trivial, trivial⟩ (rfl) rfl

def firstA_L0 (id : GAbility → Int) (right : GAbility → Bool) : List GAbility → Nat → Int → Int → Int
  | [], k0, last0, bad0 => bad0
  | x0 :: l_, k0, last0, bad0 => if (k0 : Int) = 64 then k0 else if (id x0 : Int) ≤ last0 then k0 else if right x0 = true then firstA_L0 id right l_ (k0 + 1) (id x0) bad0 else k0
def firstA (l : List GAbility) (id : GAbility → Int) (right : GAbility → Bool) : Int :=
  (let bad_0 := firstA_L0 id right l 0 0 (-1); bad_0)
theorem firstA_ok (l : List GAbility) (l_f : Bool) (id_c : FuncId) (id_k : List AV) (id : GAbility → Int) (id_h : Fn1 Tryz.prog id_c id_k (fun x_ : GAbility => [aGAbility x_]) (fun x_ => I (id x_))) (right_c : FuncId) (right_k : List AV) (right : GAbility → Bool) (right_h : Fn1 Tryz.prog right_c right_k (fun x_ : GAbility => [aGAbility x_]) (fun x_ => B (right x_))) : Ok Tryz.prog 89 [.pv (.slc l.length l_f (l.flatMap encGAbility)), .fnc id_c id_k, .fnc right_c right_k] [] (I (firstA l id right)) [] [] := by
 refine Ok.len fun hlen => ?_
 have hl_l : l.length ≤ maxLen := hlen _ (by simp [lensL, lens, lensP])
 unfold maxLen at hl_l
 refine ok_of_sem Tryz.func89 rfl ?_
 show Walks Tryz.prog _ _ ⟨[(0, .pv (.slc l.length l_f (l.flatMap encGAbility))), (1, .fnc id_c id_k), (2, .fnc right_c right_k)], [], 0, [], 39, 0⟩
 refine sem_seq (sem_region rfl (step_r rfl rfl trivial (step_nil (seqK_n ?_))))
 refine sem_scope ?_
 refine sem_seq (sem_region rfl (step_r rfl rfl trivial (step_r rfl rfl trivial (step_nil (seqK_n (sem_seq ?_))))))
 refine sem_label ?_
 refine seqK_n (sem_seq (sem_seq (sem_region rfl (step_r rfl rfl trivial (step_r rfl rfl trivial (step_r rfl rfl trivial (step_nil (seqK_n ?_))))))))
 refine sem_cutW (fun bad_0 : Int => (⟨[(8, I bad_0)], [], 0, [], 39, 0⟩ : St)) (fun w_ => firstA_L0 id right l 0 0 (-1) = w_) ?_ ?_
 ·refine sem_block ?_
  refine sem_loopT (fun w_ : Nat × Int × Int => match w_ with | (k0, last0, bad0) => (⟨[(1, .fnc id_c id_k), (2, .fnc right_c right_k), (7, I last0), (8, I bad0), (11, .pv (.slc l.length l_f (l.flatMap encGAbility))), (12, I l.length), (13, I k0)], [], 0, [], 39, 0⟩ : St)) (fun w_ : Nat × Int × Int => match w_ with | (k0, last0, bad0) => firstA_L0 id right (l.drop k0) k0 last0 bad0 = firstA_L0 id right l 0 0 (-1) ∧ k0 ≤ l.length) (fun w_ : Nat × Int × Int => match w_ with | (k0, last0, bad0) => l.length - k0) (0, 0, (-1)) (⟨rfl, Nat.zero_le _⟩) ?_ (fun w_ hh_ => ?_)
  ·exact (Trans.ren [] (by decide +kernel) (by decide +kernel) rfl ⟨⟨congrArg some id_h.renN.symm, id_h.belN⟩, ⟨congrArg some right_h.renN.symm, right_h.belN⟩, ⟨rfl, rfl⟩, ⟨rfl, rfl⟩, ⟨rfl, rfl⟩, ⟨rfl, rfl⟩, ⟨rfl, rfl⟩, trivial⟩ trivial (by decide))
  obtain ⟨k0, last0, bad0⟩ := w_
  obtain ⟨hI0, hb0⟩ := hh_
  show Walks Tryz.prog _ _ (⟨[(1, .fnc id_c id_k), (2, .fnc right_c right_k), (7, I last0), (8, I bad0), (11, .pv (.slc l.length l_f (l.flatMap encGAbility))), (12, I l.length), (13, I k0)], [], 0, [], 39, 0⟩ : St)
  refine sem_seq (sem_region rfl (step_bin rfl rfl rfl rfl rfl trivial (step_nil (seqK_n (sem_seq ?_)))))
  refine sem_cond rfl (fun h2 => ?_) (fun h2 => ?_)
  ·have g2 : (k0 : Int) < l.length := of_decide_eq_true h2
   have hk0 : k0 < l.length := by omega
   obtain ⟨x0, hx0⟩ : ∃ z_, l[k0]? = some z_ := ⟨_, List.getElem?_eq_getElem hk0⟩
   refine sem_skip (seqK_n (sem_seq (sem_block (sem_seq (sem_region rfl (step_r rfl rfl trivial (step_idxS (k := k0) rfl rfl rfl rfl hk0 (flat_ne (s := 8) (enc := encGAbility) (fun _ => rfl) (by decide) hk0) rfl (step_load_row rfl rfl rfl (flat_lt (s := 8) (enc := encGAbility) (fun _ => rfl) hk0) (flat_take (s := 8) (enc := encGAbility) (fun _ => rfl) hx0) rfl (step_n (o := .box [_, _, _, _, _, _, _, _]) (nx' := 1) rfl rfl rfl trivial (step_r rfl rfl trivial ?_))))))))))
   refine step_storeB (H' := [(0, .box [_, _, _, _, _, _, _, _])]) rfl rfl rfl rfl rfl rfl (.inl rfl) rfl ?_
   refine step_nil (seqK_n (sem_seq (sem_seq (sem_region rfl (step_r rfl rfl trivial (step_bin rfl rfl rfl rfl rfl trivial (step_r rfl rfl trivial ?_)))))))
   refine step_gs rfl (fun h5 => ?_) (fun h5 => ?_)
   ·have g5 : (k0 : Int) = 64 := beq_t h5
    refine step_g0 rfl h5 rfl (step_g0 rfl h5 rfl (step_g0 rfl h5 rfl (step_g0 rfl h5 rfl (step_g0 rfl h5 rfl (step_pickT rfl h5 rfl rfl (step_r rfl rfl trivial (step_gf rfl rfl (step_gf rfl rfl (step_gf rfl rfl (step_gf rfl rfl (step_r rfl rfl trivial ?_)))))))))))
    refine step_nil (seqK_n (sem_condT rfl (sem_seq (sem_region rfl (step_r rfl rfl trivial (step_r rfl rfl trivial (step_nil (seqK_n (sem_exit (seqK_e ?_))))))))))
    refine blkK_f rfl ?_
    refine seqK_e (lupK_e (blkK_t rfl ?_))
    have e6 : firstA_L0 id right l 0 0 (-1) = k0 := by
     rewrite [← hI0, drop_cons hx0]
     rewrite [firstA_L0]
     try dsimp only
     rewrite [if_pos g5]
     all_goals rfl
    exact cutW_n k0 e6 (Trans.ren [] (by decide +kernel) (by decide +kernel) rfl ⟨⟨rfl, rfl⟩, trivial⟩ trivial (by decide))
   ·have g5 : ¬ ((k0 : Int) = 64) := beq_f h5
    refine step_g1 rfl h5 (step_r rfl rfl trivial (step_g1 rfl h5 (step_r (v := (.agg [_, _, _, _, _, _, _, _])) rfl rfl (Nat.le_of_ble_eq_true rfl) (step_g1 rfl h5 ?_))))
    refine step_callF id_h x0 rfl rfl rfl rfl rfl rfl ?_
    refine step_g1 rfl h5 (step_r rfl rfl trivial (step_g1 rfl h5 (step_bin rfl rfl rfl rfl rfl trivial (step_pickF rfl h5 rfl rfl (step_r rfl rfl trivial ?_)))))
    refine step_gs rfl (fun h9 => ?_) (fun h9 => ?_)
    ·have g9 : (id x0 : Int) ≤ last0 := of_decide_eq_true h9
     refine step_g0 rfl h9 rfl (step_g0 rfl h9 rfl (step_g0 rfl h9 rfl (step_g0 rfl h9 rfl (step_pickT rfl h9 rfl rfl (step_nil (seqK_n (sem_condT rfl (sem_seq (sem_region rfl (step_r rfl rfl trivial (step_r rfl rfl trivial ?_)))))))))))
     refine step_nil (seqK_n (sem_exit (seqK_e ?_)))
     refine blkK_f rfl ?_
     refine seqK_e (lupK_e (blkK_t rfl ?_))
     have e10 : firstA_L0 id right l 0 0 (-1) = k0 := by
      rewrite [← hI0, drop_cons hx0]
      rewrite [firstA_L0]
      try dsimp only
      rewrite [if_neg g5, if_pos g9]
      all_goals rfl
     exact cutW_n k0 e10 (Trans.ren [] (by decide +kernel) (by decide +kernel) rfl ⟨⟨rfl, rfl⟩, trivial⟩ trivial (by decide))
    ·have g9 : ¬ ((id x0 : Int) ≤ last0) := of_decide_eq_false h9
     refine step_g1 rfl h9 (step_r rfl rfl trivial (step_g1 rfl h9 (step_r (v := (.agg [_, _, _, _, _, _, _, _])) rfl rfl (Nat.le_of_ble_eq_true rfl) (step_g1 rfl h9 ?_))))
     refine step_callF right_h x0 rfl rfl rfl rfl rfl rfl ?_
     refine step_g1 rfl h9 (step_r rfl rfl trivial (step_pickF rfl h9 rfl rfl (step_nil (seqK_n ?_))))
     refine sem_cond rfl (fun h12 => ?_) (fun h12 => ?_)
     ·have g12 : ¬ (right x0 = true) := boo_f (not_t h12)
      refine sem_seq (sem_region rfl (step_r rfl rfl trivial (step_r rfl rfl trivial (step_nil (seqK_n (sem_exit (seqK_e ?_)))))))
      refine blkK_f rfl ?_
      refine seqK_e (lupK_e (blkK_t rfl ?_))
      have e13 : firstA_L0 id right l 0 0 (-1) = k0 := by
       rewrite [← hI0, drop_cons hx0]
       rewrite [firstA_L0]
       try dsimp only
       rewrite [if_neg g5, if_neg g9, if_neg g12]
       all_goals rfl
      exact cutW_n k0 e13 (Trans.ren [] (by decide +kernel) (by decide +kernel) rfl ⟨⟨rfl, rfl⟩, trivial⟩ trivial (by decide))
     ·have g12 : right x0 = true := (not_f h12)
      refine sem_skip (seqK_n (sem_region rfl (step_r rfl rfl trivial (step_r (v := (.agg [_, _, _, _, _, _, _, _])) rfl rfl (Nat.le_of_ble_eq_true rfl) ?_))))
      refine step_callF id_h x0 rfl rfl rfl rfl rfl rfl ?_
      refine step_r rfl rfl trivial (step_nil (blkK_n (seqK_n (sem_region rfl (step_bin rfl rfl rfl rfl rfl trivial (step_r rfl rfl trivial (step_nil ?_)))))))
      have e16 : firstA_L0 id right (l.drop k0) k0 last0 bad0 = firstA_L0 id right (l.drop (k0 + 1)) (k0 + 1) (id x0) bad0 := by
       rewrite [drop_cons hx0]
       rewrite [firstA_L0]
       try dsimp only
       rewrite [if_neg g5, if_neg g9, if_pos g12]
       all_goals rfl
      exact lup_againT (k0 + 1, (id x0), bad0) ⟨e16.symm.trans hI0, hk0⟩ (by show l.length - (k0 + 1) < l.length - k0; omega) (Trans.ren [] (by decide +kernel) (by decide +kernel) rfl ⟨⟨congrArg some id_h.renN.symm, id_h.belN⟩, ⟨congrArg some right_h.renN.symm, right_h.belN⟩, ⟨rfl, rfl⟩, ⟨rfl, rfl⟩, ⟨rfl, rfl⟩, ⟨rfl, rfl⟩, ⟨congrArg (fun n => some (I n)) (wrapI (k := k0) (by first | omega | (simp; omega))), rfl⟩, trivial⟩ trivial (by decide))
  ·have g2 : ¬ ((k0 : Int) < l.length) := of_decide_eq_false h2
   have hk0 : k0 = l.length := by omega
   refine sem_exit (seqK_e (lupK_e (blkK_t rfl ?_)))
   have e17 : firstA_L0 id right l 0 0 (-1) = bad0 := by
    rewrite [← hI0, hk0, List.drop_length]
    rewrite [firstA_L0]
    try dsimp only
    all_goals rfl
   exact cutW_n bad0 e17 (Trans.ren [] (by decide +kernel) (by decide +kernel) rfl ⟨⟨rfl, rfl⟩, trivial⟩ trivial (by decide))
 ·rintro bad_0 (hJ1 : firstA_L0 id right l 0 0 (-1) = bad_0)
  show seqK _ _ _ .normal (⟨[(8, I bad_0)], [], 0, [], 39, 0⟩ : St)
  refine seqK_n (sem_seq (sem_region rfl (step_r rfl rfl trivial (step_r rfl rfl trivial (step_nil (seqK_n (sem_ret ?_)))))))
  refine scpK_r ?_
  have e19 : firstA l id right = bad_0 := by
   unfold firstA
   try dsimp only
   rewrite [hJ1]
   try dsimp only
   all_goals rfl
  rw [e19]
  exact answersR rfl ⟨trivial, trivial⟩ (rfl) rfl

def firstU_L0 (id : GAura → Int) (right : GAura → Bool) : List GAura → Nat → Int → Int → Int
  | [], k0, last0, bad0 => bad0
  | x0 :: l_, k0, last0, bad0 => if (k0 : Int) = 64 then k0 else if (id x0 : Int) ≤ last0 then k0 else if right x0 = true then firstU_L0 id right l_ (k0 + 1) (id x0) bad0 else k0
def firstU (l : List GAura) (id : GAura → Int) (right : GAura → Bool) : Int :=
  (let bad_0 := firstU_L0 id right l 0 0 (-1); bad_0)
theorem firstU_ok (l : List GAura) (l_f : Bool) (id_c : FuncId) (id_k : List AV) (id : GAura → Int) (id_h : Fn1 Tryz.prog id_c id_k (fun x_ : GAura => [aGAura x_]) (fun x_ => I (id x_))) (right_c : FuncId) (right_k : List AV) (right : GAura → Bool) (right_h : Fn1 Tryz.prog right_c right_k (fun x_ : GAura => [aGAura x_]) (fun x_ => B (right x_))) : Ok Tryz.prog 93 [.pv (.slc l.length l_f (l.flatMap encGAura)), .fnc id_c id_k, .fnc right_c right_k] [] (I (firstU l id right)) [] [] := by
 refine Ok.len fun hlen => ?_
 have hl_l : l.length ≤ maxLen := hlen _ (by simp [lensL, lens, lensP])
 unfold maxLen at hl_l
 refine ok_of_sem Tryz.func93 rfl ?_
 show Walks Tryz.prog _ _ ⟨[(0, .pv (.slc l.length l_f (l.flatMap encGAura))), (1, .fnc id_c id_k), (2, .fnc right_c right_k)], [], 0, [], 39, 0⟩
 refine sem_seq (sem_region rfl (step_r rfl rfl trivial (step_nil (seqK_n ?_))))
 refine sem_scope ?_
 refine sem_seq (sem_region rfl (step_r rfl rfl trivial (step_r rfl rfl trivial (step_nil (seqK_n (sem_seq ?_))))))
 refine sem_label ?_
 refine seqK_n (sem_seq (sem_seq (sem_region rfl (step_r rfl rfl trivial (step_r rfl rfl trivial (step_r rfl rfl trivial (step_nil (seqK_n ?_))))))))
 refine sem_cutW (fun bad_0 : Int => (⟨[(8, I bad_0)], [], 0, [], 39, 0⟩ : St)) (fun w_ => firstU_L0 id right l 0 0 (-1) = w_) ?_ ?_
 ·refine sem_block ?_
  refine sem_loopT (fun w_ : Nat × Int × Int => match w_ with | (k0, last0, bad0) => (⟨[(1, .fnc id_c id_k), (2, .fnc right_c right_k), (7, I last0), (8, I bad0), (11, .pv (.slc l.length l_f (l.flatMap encGAura))), (12, I l.length), (13, I k0)], [], 0, [], 39, 0⟩ : St)) (fun w_ : Nat × Int × Int => match w_ with | (k0, last0, bad0) => firstU_L0 id right (l.drop k0) k0 last0 bad0 = firstU_L0 id right l 0 0 (-1) ∧ k0 ≤ l.length) (fun w_ : Nat × Int × Int => match w_ with | (k0, last0, bad0) => l.length - k0) (0, 0, (-1)) (⟨rfl, Nat.zero_le _⟩) ?_ (fun w_ hh_ => ?_)
  ·exact (Trans.ren [] (by decide +kernel) (by decide +kernel) rfl ⟨⟨congrArg some id_h.renN.symm, id_h.belN⟩, ⟨congrArg some right_h.renN.symm, right_h.belN⟩, ⟨rfl, rfl⟩, ⟨rfl, rfl⟩, ⟨rfl, rfl⟩, ⟨rfl, rfl⟩, ⟨rfl, rfl⟩, trivial⟩ trivial (by decide))
  obtain ⟨k0, last0, bad0⟩ := w_
  obtain ⟨hI0, hb0⟩ := hh_
  show Walks Tryz.prog _ _ (⟨[(1, .fnc id_c id_k), (2, .fnc right_c right_k), (7, I last0), (8, I bad0), (11, .pv (.slc l.length l_f (l.flatMap encGAura))), (12, I l.length), (13, I k0)], [], 0, [], 39, 0⟩ : St)
  refine sem_seq (sem_region rfl (step_bin rfl rfl rfl rfl rfl trivial (step_nil (seqK_n (sem_seq ?_)))))
  refine sem_cond rfl (fun h2 => ?_) (fun h2 => ?_)
  ·have g2 : (k0 : Int) < l.length := of_decide_eq_true h2
   have hk0 : k0 < l.length := by omega
   obtain ⟨x0, hx0⟩ : ∃ z_, l[k0]? = some z_ := ⟨_, List.getElem?_eq_getElem hk0⟩
   refine sem_skip (seqK_n (sem_seq (sem_block (sem_seq (sem_region rfl (step_r rfl rfl trivial (step_idxS (k := k0) rfl rfl rfl rfl hk0 (flat_ne (s := 7) (enc := encGAura) (fun _ => rfl) (by decide) hk0) rfl (step_load_row rfl rfl rfl (flat_lt (s := 7) (enc := encGAura) (fun _ => rfl) hk0) (flat_take (s := 7) (enc := encGAura) (fun _ => rfl) hx0) rfl (step_n (o := .box [_, _, _, _, _, _, _]) (nx' := 1) rfl rfl rfl trivial (step_r rfl rfl trivial ?_))))))))))
   refine step_storeB (H' := [(0, .box [_, _, _, _, _, _, _])]) rfl rfl rfl rfl rfl rfl (.inl rfl) rfl ?_
   refine step_nil (seqK_n (sem_seq (sem_seq (sem_region rfl (step_r rfl rfl trivial (step_bin rfl rfl rfl rfl rfl trivial (step_r rfl rfl trivial ?_)))))))
   refine step_gs rfl (fun h5 => ?_) (fun h5 => ?_)
   ·have g5 : (k0 : Int) = 64 := beq_t h5
    refine step_g0 rfl h5 rfl (step_g0 rfl h5 rfl (step_g0 rfl h5 rfl (step_g0 rfl h5 rfl (step_g0 rfl h5 rfl (step_pickT rfl h5 rfl rfl (step_r rfl rfl trivial (step_gf rfl rfl (step_gf rfl rfl (step_gf rfl rfl (step_gf rfl rfl (step_r rfl rfl trivial ?_)))))))))))
    refine step_nil (seqK_n (sem_condT rfl (sem_seq (sem_region rfl (step_r rfl rfl trivial (step_r rfl rfl trivial (step_nil (seqK_n (sem_exit (seqK_e ?_))))))))))
    refine blkK_f rfl ?_
    refine seqK_e (lupK_e (blkK_t rfl ?_))
    have e6 : firstU_L0 id right l 0 0 (-1) = k0 := by
     rewrite [← hI0, drop_cons hx0]
     rewrite [firstU_L0]
     try dsimp only
     rewrite [if_pos g5]
     all_goals rfl
    exact cutW_n k0 e6 (Trans.ren [] (by decide +kernel) (by decide +kernel) rfl ⟨⟨rfl, rfl⟩, trivial⟩ trivial (by decide))
   ·have g5 : ¬ ((k0 : Int) = 64) := beq_f h5
    refine step_g1 rfl h5 (step_r rfl rfl trivial (step_g1 rfl h5 (step_r (v := (.agg [_, _, _, _, _, _, _])) rfl rfl (Nat.le_of_ble_eq_true rfl) (step_g1 rfl h5 ?_))))
    refine step_callF id_h x0 rfl rfl rfl rfl rfl rfl ?_
    refine step_g1 rfl h5 (step_r rfl rfl trivial (step_g1 rfl h5 (step_bin rfl rfl rfl rfl rfl trivial (step_pickF rfl h5 rfl rfl (step_r rfl rfl trivial ?_)))))
    refine step_gs rfl (fun h9 => ?_) (fun h9 => ?_)
    ·have g9 : (id x0 : Int) ≤ last0 := of_decide_eq_true h9
     refine step_g0 rfl h9 rfl (step_g0 rfl h9 rfl (step_g0 rfl h9 rfl (step_g0 rfl h9 rfl (step_pickT rfl h9 rfl rfl (step_nil (seqK_n (sem_condT rfl (sem_seq (sem_region rfl (step_r rfl rfl trivial (step_r rfl rfl trivial ?_)))))))))))
     refine step_nil (seqK_n (sem_exit (seqK_e ?_)))
     refine blkK_f rfl ?_
     refine seqK_e (lupK_e (blkK_t rfl ?_))
     have e10 : firstU_L0 id right l 0 0 (-1) = k0 := by
      rewrite [← hI0, drop_cons hx0]
      rewrite [firstU_L0]
      try dsimp only
      rewrite [if_neg g5, if_pos g9]
      all_goals rfl
     exact cutW_n k0 e10 (Trans.ren [] (by decide +kernel) (by decide +kernel) rfl ⟨⟨rfl, rfl⟩, trivial⟩ trivial (by decide))
    ·have g9 : ¬ ((id x0 : Int) ≤ last0) := of_decide_eq_false h9
     refine step_g1 rfl h9 (step_r rfl rfl trivial (step_g1 rfl h9 (step_r (v := (.agg [_, _, _, _, _, _, _])) rfl rfl (Nat.le_of_ble_eq_true rfl) (step_g1 rfl h9 ?_))))
     refine step_callF right_h x0 rfl rfl rfl rfl rfl rfl ?_
     refine step_g1 rfl h9 (step_r rfl rfl trivial (step_pickF rfl h9 rfl rfl (step_nil (seqK_n ?_))))
     refine sem_cond rfl (fun h12 => ?_) (fun h12 => ?_)
     ·have g12 : ¬ (right x0 = true) := boo_f (not_t h12)
      refine sem_seq (sem_region rfl (step_r rfl rfl trivial (step_r rfl rfl trivial (step_nil (seqK_n (sem_exit (seqK_e ?_)))))))
      refine blkK_f rfl ?_
      refine seqK_e (lupK_e (blkK_t rfl ?_))
      have e13 : firstU_L0 id right l 0 0 (-1) = k0 := by
       rewrite [← hI0, drop_cons hx0]
       rewrite [firstU_L0]
       try dsimp only
       rewrite [if_neg g5, if_neg g9, if_neg g12]
       all_goals rfl
      exact cutW_n k0 e13 (Trans.ren [] (by decide +kernel) (by decide +kernel) rfl ⟨⟨rfl, rfl⟩, trivial⟩ trivial (by decide))
     ·have g12 : right x0 = true := (not_f h12)
      refine sem_skip (seqK_n (sem_region rfl (step_r rfl rfl trivial (step_r (v := (.agg [_, _, _, _, _, _, _])) rfl rfl (Nat.le_of_ble_eq_true rfl) ?_))))
      refine step_callF id_h x0 rfl rfl rfl rfl rfl rfl ?_
      refine step_r rfl rfl trivial (step_nil (blkK_n (seqK_n (sem_region rfl (step_bin rfl rfl rfl rfl rfl trivial (step_r rfl rfl trivial (step_nil ?_)))))))
      have e16 : firstU_L0 id right (l.drop k0) k0 last0 bad0 = firstU_L0 id right (l.drop (k0 + 1)) (k0 + 1) (id x0) bad0 := by
       rewrite [drop_cons hx0]
       rewrite [firstU_L0]
       try dsimp only
       rewrite [if_neg g5, if_neg g9, if_pos g12]
       all_goals rfl
      exact lup_againT (k0 + 1, (id x0), bad0) ⟨e16.symm.trans hI0, hk0⟩ (by show l.length - (k0 + 1) < l.length - k0; omega) (Trans.ren [] (by decide +kernel) (by decide +kernel) rfl ⟨⟨congrArg some id_h.renN.symm, id_h.belN⟩, ⟨congrArg some right_h.renN.symm, right_h.belN⟩, ⟨rfl, rfl⟩, ⟨rfl, rfl⟩, ⟨rfl, rfl⟩, ⟨rfl, rfl⟩, ⟨congrArg (fun n => some (I n)) (wrapI (k := k0) (by first | omega | (simp; omega))), rfl⟩, trivial⟩ trivial (by decide))
  ·have g2 : ¬ ((k0 : Int) < l.length) := of_decide_eq_false h2
   have hk0 : k0 = l.length := by omega
   refine sem_exit (seqK_e (lupK_e (blkK_t rfl ?_)))
   have e17 : firstU_L0 id right l 0 0 (-1) = bad0 := by
    rewrite [← hI0, hk0, List.drop_length]
    rewrite [firstU_L0]
    try dsimp only
    all_goals rfl
   exact cutW_n bad0 e17 (Trans.ren [] (by decide +kernel) (by decide +kernel) rfl ⟨⟨rfl, rfl⟩, trivial⟩ trivial (by decide))
 ·rintro bad_0 (hJ1 : firstU_L0 id right l 0 0 (-1) = bad_0)
  show seqK _ _ _ .normal (⟨[(8, I bad_0)], [], 0, [], 39, 0⟩ : St)
  refine seqK_n (sem_seq (sem_region rfl (step_r rfl rfl trivial (step_r rfl rfl trivial (step_nil (seqK_n (sem_ret ?_)))))))
  refine scpK_r ?_
  have e19 : firstU l id right = bad_0 := by
   unfold firstU
   try dsimp only
   rewrite [hJ1]
   try dsimp only
   all_goals rfl
  rw [e19]
  exact answersR rfl ⟨trivial, trivial⟩ (rfl) rfl

def firstF_L0 (id : GFoe → Int) (right : GFoe → Bool) : List GFoe → Nat → Int → Int → Int
  | [], k0, last0, bad0 => bad0
  | x0 :: l_, k0, last0, bad0 => if (k0 : Int) = 64 then k0 else if (id x0 : Int) ≤ last0 then k0 else if right x0 = true then firstF_L0 id right l_ (k0 + 1) (id x0) bad0 else k0
def firstF (l : List GFoe) (id : GFoe → Int) (right : GFoe → Bool) : Int :=
  (let bad_0 := firstF_L0 id right l 0 0 (-1); bad_0)
theorem firstF_ok (l : List GFoe) (l_f : Bool) (id_c : FuncId) (id_k : List AV) (id : GFoe → Int) (id_h : Fn1 Tryz.prog id_c id_k (fun x_ : GFoe => [aGFoe x_]) (fun x_ => I (id x_))) (right_c : FuncId) (right_k : List AV) (right : GFoe → Bool) (right_h : Fn1 Tryz.prog right_c right_k (fun x_ : GFoe => [aGFoe x_]) (fun x_ => B (right x_))) : Ok Tryz.prog 96 [.pv (.slc l.length l_f (l.flatMap encGFoe)), .fnc id_c id_k, .fnc right_c right_k] [] (I (firstF l id right)) [] [] := by
 refine Ok.len fun hlen => ?_
 have hl_l : l.length ≤ maxLen := hlen _ (by simp [lensL, lens, lensP])
 unfold maxLen at hl_l
 refine ok_of_sem Tryz.func96 rfl ?_
 show Walks Tryz.prog _ _ ⟨[(0, .pv (.slc l.length l_f (l.flatMap encGFoe))), (1, .fnc id_c id_k), (2, .fnc right_c right_k)], [], 0, [], 39, 0⟩
 refine sem_seq (sem_region rfl (step_r rfl rfl trivial (step_nil (seqK_n ?_))))
 refine sem_scope ?_
 refine sem_seq (sem_region rfl (step_r rfl rfl trivial (step_r rfl rfl trivial (step_nil (seqK_n (sem_seq ?_))))))
 refine sem_label ?_
 refine seqK_n (sem_seq (sem_seq (sem_region rfl (step_r rfl rfl trivial (step_r rfl rfl trivial (step_r rfl rfl trivial (step_nil (seqK_n ?_))))))))
 refine sem_cutW (fun bad_0 : Int => (⟨[(8, I bad_0)], [], 0, [], 39, 0⟩ : St)) (fun w_ => firstF_L0 id right l 0 0 (-1) = w_) ?_ ?_
 ·refine sem_block ?_
  refine sem_loopT (fun w_ : Nat × Int × Int => match w_ with | (k0, last0, bad0) => (⟨[(1, .fnc id_c id_k), (2, .fnc right_c right_k), (7, I last0), (8, I bad0), (11, .pv (.slc l.length l_f (l.flatMap encGFoe))), (12, I l.length), (13, I k0)], [], 0, [], 39, 0⟩ : St)) (fun w_ : Nat × Int × Int => match w_ with | (k0, last0, bad0) => firstF_L0 id right (l.drop k0) k0 last0 bad0 = firstF_L0 id right l 0 0 (-1) ∧ k0 ≤ l.length) (fun w_ : Nat × Int × Int => match w_ with | (k0, last0, bad0) => l.length - k0) (0, 0, (-1)) (⟨rfl, Nat.zero_le _⟩) ?_ (fun w_ hh_ => ?_)
  ·exact (Trans.ren [] (by decide +kernel) (by decide +kernel) rfl ⟨⟨congrArg some id_h.renN.symm, id_h.belN⟩, ⟨congrArg some right_h.renN.symm, right_h.belN⟩, ⟨rfl, rfl⟩, ⟨rfl, rfl⟩, ⟨rfl, rfl⟩, ⟨rfl, rfl⟩, ⟨rfl, rfl⟩, trivial⟩ trivial (by decide))
  obtain ⟨k0, last0, bad0⟩ := w_
  obtain ⟨hI0, hb0⟩ := hh_
  show Walks Tryz.prog _ _ (⟨[(1, .fnc id_c id_k), (2, .fnc right_c right_k), (7, I last0), (8, I bad0), (11, .pv (.slc l.length l_f (l.flatMap encGFoe))), (12, I l.length), (13, I k0)], [], 0, [], 39, 0⟩ : St)
  refine sem_seq (sem_region rfl (step_bin rfl rfl rfl rfl rfl trivial (step_nil (seqK_n (sem_seq ?_)))))
  refine sem_cond rfl (fun h2 => ?_) (fun h2 => ?_)
  ·have g2 : (k0 : Int) < l.length := of_decide_eq_true h2
   have hk0 : k0 < l.length := by omega
   obtain ⟨x0, hx0⟩ : ∃ z_, l[k0]? = some z_ := ⟨_, List.getElem?_eq_getElem hk0⟩
   refine sem_skip (seqK_n (sem_seq (sem_block (sem_seq (sem_region rfl (step_r rfl rfl trivial (step_idxS (k := k0) rfl rfl rfl rfl hk0 (flat_ne (s := 8) (enc := encGFoe) (fun _ => rfl) (by decide) hk0) rfl (step_load_row rfl rfl rfl (flat_lt (s := 8) (enc := encGFoe) (fun _ => rfl) hk0) (flat_take (s := 8) (enc := encGFoe) (fun _ => rfl) hx0) rfl (step_n (o := .box [_, _, _, _, _, _, _, _]) (nx' := 1) rfl rfl rfl trivial (step_r rfl rfl trivial ?_))))))))))
   refine step_storeB (H' := [(0, .box [_, _, _, _, _, _, _, _])]) rfl rfl rfl rfl rfl rfl (.inl rfl) rfl ?_
   refine step_nil (seqK_n (sem_seq (sem_seq (sem_region rfl (step_r rfl rfl trivial (step_bin rfl rfl rfl rfl rfl trivial (step_r rfl rfl trivial ?_)))))))
   refine step_gs rfl (fun h5 => ?_) (fun h5 => ?_)
   ·have g5 : (k0 : Int) = 64 := beq_t h5
    refine step_g0 rfl h5 rfl (step_g0 rfl h5 rfl (step_g0 rfl h5 rfl (step_g0 rfl h5 rfl (step_g0 rfl h5 rfl (step_pickT rfl h5 rfl rfl (step_r rfl rfl trivial (step_gf rfl rfl (step_gf rfl rfl (step_gf rfl rfl (step_gf rfl rfl (step_r rfl rfl trivial ?_)))))))))))
    refine step_nil (seqK_n (sem_condT rfl (sem_seq (sem_region rfl (step_r rfl rfl trivial (step_r rfl rfl trivial (step_nil (seqK_n (sem_exit (seqK_e ?_))))))))))
    refine blkK_f rfl ?_
    refine seqK_e (lupK_e (blkK_t rfl ?_))
    have e6 : firstF_L0 id right l 0 0 (-1) = k0 := by
     rewrite [← hI0, drop_cons hx0]
     rewrite [firstF_L0]
     try dsimp only
     rewrite [if_pos g5]
     all_goals rfl
    exact cutW_n k0 e6 (Trans.ren [] (by decide +kernel) (by decide +kernel) rfl ⟨⟨rfl, rfl⟩, trivial⟩ trivial (by decide))
   ·have g5 : ¬ ((k0 : Int) = 64) := beq_f h5
    refine step_g1 rfl h5 (step_r rfl rfl trivial (step_g1 rfl h5 (step_r (v := (.agg [_, _, _, _, _, _, _, _])) rfl rfl (Nat.le_of_ble_eq_true rfl) (step_g1 rfl h5 ?_))))
    refine step_callF id_h x0 rfl rfl rfl rfl rfl rfl ?_
    refine step_g1 rfl h5 (step_r rfl rfl trivial (step_g1 rfl h5 (step_bin rfl rfl rfl rfl rfl trivial (step_pickF rfl h5 rfl rfl (step_r rfl rfl trivial ?_)))))
    refine step_gs rfl (fun h9 => ?_) (fun h9 => ?_)
    ·have g9 : (id x0 : Int) ≤ last0 := of_decide_eq_true h9
     refine step_g0 rfl h9 rfl (step_g0 rfl h9 rfl (step_g0 rfl h9 rfl (step_g0 rfl h9 rfl (step_pickT rfl h9 rfl rfl (step_nil (seqK_n (sem_condT rfl (sem_seq (sem_region rfl (step_r rfl rfl trivial (step_r rfl rfl trivial ?_)))))))))))
     refine step_nil (seqK_n (sem_exit (seqK_e ?_)))
     refine blkK_f rfl ?_
     refine seqK_e (lupK_e (blkK_t rfl ?_))
     have e10 : firstF_L0 id right l 0 0 (-1) = k0 := by
      rewrite [← hI0, drop_cons hx0]
      rewrite [firstF_L0]
      try dsimp only
      rewrite [if_neg g5, if_pos g9]
      all_goals rfl
     exact cutW_n k0 e10 (Trans.ren [] (by decide +kernel) (by decide +kernel) rfl ⟨⟨rfl, rfl⟩, trivial⟩ trivial (by decide))
    ·have g9 : ¬ ((id x0 : Int) ≤ last0) := of_decide_eq_false h9
     refine step_g1 rfl h9 (step_r rfl rfl trivial (step_g1 rfl h9 (step_r (v := (.agg [_, _, _, _, _, _, _, _])) rfl rfl (Nat.le_of_ble_eq_true rfl) (step_g1 rfl h9 ?_))))
     refine step_callF right_h x0 rfl rfl rfl rfl rfl rfl ?_
     refine step_g1 rfl h9 (step_r rfl rfl trivial (step_pickF rfl h9 rfl rfl (step_nil (seqK_n ?_))))
     refine sem_cond rfl (fun h12 => ?_) (fun h12 => ?_)
     ·have g12 : ¬ (right x0 = true) := boo_f (not_t h12)
      refine sem_seq (sem_region rfl (step_r rfl rfl trivial (step_r rfl rfl trivial (step_nil (seqK_n (sem_exit (seqK_e ?_)))))))
      refine blkK_f rfl ?_
      refine seqK_e (lupK_e (blkK_t rfl ?_))
      have e13 : firstF_L0 id right l 0 0 (-1) = k0 := by
       rewrite [← hI0, drop_cons hx0]
       rewrite [firstF_L0]
       try dsimp only
       rewrite [if_neg g5, if_neg g9, if_neg g12]
       all_goals rfl
      exact cutW_n k0 e13 (Trans.ren [] (by decide +kernel) (by decide +kernel) rfl ⟨⟨rfl, rfl⟩, trivial⟩ trivial (by decide))
     ·have g12 : right x0 = true := (not_f h12)
      refine sem_skip (seqK_n (sem_region rfl (step_r rfl rfl trivial (step_r (v := (.agg [_, _, _, _, _, _, _, _])) rfl rfl (Nat.le_of_ble_eq_true rfl) ?_))))
      refine step_callF id_h x0 rfl rfl rfl rfl rfl rfl ?_
      refine step_r rfl rfl trivial (step_nil (blkK_n (seqK_n (sem_region rfl (step_bin rfl rfl rfl rfl rfl trivial (step_r rfl rfl trivial (step_nil ?_)))))))
      have e16 : firstF_L0 id right (l.drop k0) k0 last0 bad0 = firstF_L0 id right (l.drop (k0 + 1)) (k0 + 1) (id x0) bad0 := by
       rewrite [drop_cons hx0]
       rewrite [firstF_L0]
       try dsimp only
       rewrite [if_neg g5, if_neg g9, if_pos g12]
       all_goals rfl
      exact lup_againT (k0 + 1, (id x0), bad0) ⟨e16.symm.trans hI0, hk0⟩ (by show l.length - (k0 + 1) < l.length - k0; omega) (Trans.ren [] (by decide +kernel) (by decide +kernel) rfl ⟨⟨congrArg some id_h.renN.symm, id_h.belN⟩, ⟨congrArg some right_h.renN.symm, right_h.belN⟩, ⟨rfl, rfl⟩, ⟨rfl, rfl⟩, ⟨rfl, rfl⟩, ⟨rfl, rfl⟩, ⟨congrArg (fun n => some (I n)) (wrapI (k := k0) (by first | omega | (simp; omega))), rfl⟩, trivial⟩ trivial (by decide))
  ·have g2 : ¬ ((k0 : Int) < l.length) := of_decide_eq_false h2
   have hk0 : k0 = l.length := by omega
   refine sem_exit (seqK_e (lupK_e (blkK_t rfl ?_)))
   have e17 : firstF_L0 id right l 0 0 (-1) = bad0 := by
    rewrite [← hI0, hk0, List.drop_length]
    rewrite [firstF_L0]
    try dsimp only
    all_goals rfl
   exact cutW_n bad0 e17 (Trans.ren [] (by decide +kernel) (by decide +kernel) rfl ⟨⟨rfl, rfl⟩, trivial⟩ trivial (by decide))
 ·rintro bad_0 (hJ1 : firstF_L0 id right l 0 0 (-1) = bad_0)
  show seqK _ _ _ .normal (⟨[(8, I bad_0)], [], 0, [], 39, 0⟩ : St)
  refine seqK_n (sem_seq (sem_region rfl (step_r rfl rfl trivial (step_r rfl rfl trivial (step_nil (seqK_n (sem_ret ?_)))))))
  refine scpK_r ?_
  have e19 : firstF l id right = bad_0 := by
   unfold firstF
   try dsimp only
   rewrite [hJ1]
   try dsimp only
   all_goals rfl
  rw [e19]
  exact answersR rfl ⟨trivial, trivial⟩ (rfl) rfl

structure GFlaw where
  (Part : Int)
  (At : Int)
  deriving DecidableEq, Inhabited
abbrev aGFlaw (x : GFlaw) : AV := .agg [I x.Part, I x.At]
def check9 (c : GContent) : GFlaw × Bool :=
  if (firstA c.Abilities (fun x_ => idA x_) (fun x_ => okA x_ c) : Int) ≥ 0 then ((⟨1, (firstA c.Abilities (fun x_ => idA x_) (fun x_ => okA x_ c))⟩ : GFlaw), false) else if (firstU c.Auras (fun x_ => idU x_) (fun x_ => aura9 x_) : Int) ≥ 0 then ((⟨2, (firstU c.Auras (fun x_ => idU x_) (fun x_ => aura9 x_))⟩ : GFlaw), false) else if (firstF c.Foes (fun x_ => idF x_) (fun x_ => okF x_ c) : Int) ≥ 0 then ((⟨3, (firstF c.Foes (fun x_ => idF x_) (fun x_ => okF x_ c))⟩ : GFlaw), false) else if gridWall c.Map c.Door = true then ((⟨4, 0⟩ : GFlaw), false) else if gridWall c.Map c.Lair = true then ((⟨4, 0⟩ : GFlaw), false) else ((⟨0, 0⟩ : GFlaw), true)
theorem check9_ok (c : GContent) (hF : Few9 c) : Ok Tryz.prog 56 [aGContent c] [] (.tup [aGFlaw (check9 c).1, B (check9 c).2]) [] [] := by
 refine Ok.len fun hlen => ?_
 have hl_c_Abilities : c.Abilities.length ≤ maxLen := hlen _ (by simp [lensL, lens, lensP])
 have hl_c_Auras : c.Auras.length ≤ maxLen := hlen _ (by simp [lensL, lens, lensP])
 have hl_c_Foes : c.Foes.length ≤ maxLen := hlen _ (by simp [lensL, lens, lensP])
 have hl_c_Map_Wall : c.Map.Wall.length ≤ maxLen := hlen _ (by simp [lensL, lens, lensP])
 unfold maxLen at hl_c_Abilities hl_c_Auras hl_c_Foes hl_c_Map_Wall
 refine ok_of_sem Tryz.func56 rfl ?_
 show Walks Tryz.prog _ _ ⟨[(0, aGContent c)], [], 0, [], 42, 0⟩
 refine sem_seq (sem_region rfl (step_n (o := .box [_, _, _, _, _, _, _, _, _, _]) (nx' := 1) rfl rfl rfl trivial (step_n (o := .box [_, _]) (nx' := 2) rfl rfl rfl trivial (step_r rfl rfl trivial (step_nil (seqK_n (sem_seq (sem_region rfl (step_r rfl rfl (by decide) (step_r rfl rfl trivial (step_r rfl rfl trivial ?_)))))))))))
 refine step_callJ (Hin := [.box [.pv _, .pv _, .pv _, .pv _, .pv _, .pv _, .pv _, .pv _, .pv _, .pv _]]) (H' := [(1, _), (0, _)]) (nx' := 2) [0] rfl rfl rfl rfl rfl rfl rfl rfl rfl (by (repeat' apply And.intro) <;> first | trivial | rfl | exact flat_len (fun _ => rfl) _ | exact encI_len _ | exact encB_len _ | exact encY_len _ | exact Nat.le_of_ble_eq_true rfl | assumption) (firstA_ok c.Abilities false 90 [] (fun x_ => idA x_) ⟨rfl, rfl, fun _ => rfl, fun _ => rfl, fun x_ => idA_ok x_⟩ 91 [.pptr [(.slc c.Abilities.length false (c.Abilities.flatMap encGAbility)), (.slc c.Auras.length false (c.Auras.flatMap encGAura)), (.slc c.Foes.length false (c.Foes.flatMap encGFoe)), i64 c.Map.W, i64 c.Map.H, (.slc c.Map.Wall.length false (encB c.Map.Wall)), i64 c.Door.X, i64 c.Door.Y, i64 c.Lair.X, i64 c.Lair.Y] 0] (fun x_ => okA x_ c) ⟨rfl, rfl, fun _ => rfl, fun _ => rfl, fun x_ => okA_ok x_ c⟩) rfl (by decide) rfl rfl trivial rfl rfl rfl rfl ?_
 refine step_r rfl rfl trivial (step_nil (seqK_n (sem_seq (sem_seq (sem_region rfl (step_r rfl rfl trivial (step_bin rfl rfl rfl rfl rfl trivial (step_nil (seqK_n ?_)))))))))
 refine sem_cond rfl (fun h2 => ?_) (fun h2 => ?_)
 ·have g2 : (firstA c.Abilities (fun x_ => idA x_) (fun x_ => okA x_ c) : Int) ≥ 0 := of_decide_eq_true h2
  refine sem_seq (sem_region rfl (step_r rfl rfl trivial (step_r (v := (.agg [_, _])) rfl rfl trivial ?_)))
  refine step_storeB (H' := [(1, .box [_, _]), (0, _)]) rfl rfl rfl rfl rfl rfl (.inl rfl) rfl ?_
  refine step_r rfl rfl trivial (step_nil (seqK_n (sem_ret (seqK_r ?_))))
  have e3 : check9 c = ((⟨1, (firstA c.Abilities (fun x_ => idA x_) (fun x_ => okA x_ c))⟩ : GFlaw), false) := by
   unfold check9
   try dsimp only
   rewrite [if_pos g2]
   all_goals rfl
  rw [e3]
  exact answersR rfl ⟨Nat.le_of_ble_eq_true rfl, trivial, trivial⟩ (rfl) rfl
 ·have g2 : ¬ ((firstA c.Abilities (fun x_ => idA x_) (fun x_ => okA x_ c) : Int) ≥ 0) := of_decide_eq_false h2
  refine sem_skip (seqK_n (sem_seq (sem_seq (sem_region rfl (step_r rfl rfl (by decide) (step_r rfl rfl trivial (step_call rfl rfl rfl rfl (firstU_ok c.Auras false 94 [] (fun x_ => idU x_) ⟨rfl, rfl, fun _ => rfl, fun _ => rfl, fun x_ => idU_ok x_⟩ 95 [] (fun x_ => aura9 x_) ⟨rfl, rfl, fun _ => rfl, fun _ => rfl, fun x_ => aura9_ok x_⟩) rfl rfl rfl (step_r rfl rfl trivial (step_nil (seqK_n (sem_seq ?_)))))))))))
  refine sem_region rfl (step_r rfl rfl trivial (step_bin rfl rfl rfl rfl rfl trivial (step_nil (seqK_n ?_))))
  refine sem_cond rfl (fun h5 => ?_) (fun h5 => ?_)
  ·have g5 : (firstU c.Auras (fun x_ => idU x_) (fun x_ => aura9 x_) : Int) ≥ 0 := of_decide_eq_true h5
   refine sem_seq (sem_region rfl (step_r rfl rfl trivial (step_r (v := (.agg [_, _])) rfl rfl trivial ?_)))
   refine step_storeB (H' := [(1, .box [_, _]), (0, _)]) rfl rfl rfl rfl rfl rfl (.inl rfl) rfl ?_
   refine step_r rfl rfl trivial (step_nil (seqK_n (sem_ret (seqK_r ?_))))
   have e6 : check9 c = ((⟨2, (firstU c.Auras (fun x_ => idU x_) (fun x_ => aura9 x_))⟩ : GFlaw), false) := by
    unfold check9
    try dsimp only
    rewrite [if_neg g2, if_pos g5]
    all_goals rfl
   rw [e6]
   exact answersR rfl ⟨Nat.le_of_ble_eq_true rfl, trivial, trivial⟩ (rfl) rfl
  ·have g5 : ¬ ((firstU c.Auras (fun x_ => idU x_) (fun x_ => aura9 x_) : Int) ≥ 0) := of_decide_eq_false h5
   refine sem_skip (seqK_n (sem_seq (sem_region rfl (step_r rfl rfl (by decide) (step_r rfl rfl trivial (step_r rfl rfl trivial ?_))))))
   refine step_callJ (Hin := [.box [.pv _, .pv _, .pv _, .pv _, .pv _, .pv _, .pv _, .pv _, .pv _, .pv _]]) (H' := [(1, _), (0, _)]) (nx' := 2) [0] rfl rfl rfl rfl rfl rfl rfl rfl rfl (by (repeat' apply And.intro) <;> first | trivial | rfl | exact flat_len (fun _ => rfl) _ | exact encI_len _ | exact encB_len _ | exact encY_len _ | exact Nat.le_of_ble_eq_true rfl | assumption) (firstF_ok c.Foes false 97 [] (fun x_ => idF x_) ⟨rfl, rfl, fun _ => rfl, fun _ => rfl, fun x_ => idF_ok x_⟩ 98 [.pptr [(.slc c.Abilities.length false (c.Abilities.flatMap encGAbility)), (.slc c.Auras.length false (c.Auras.flatMap encGAura)), (.slc c.Foes.length false (c.Foes.flatMap encGFoe)), i64 c.Map.W, i64 c.Map.H, (.slc c.Map.Wall.length false (encB c.Map.Wall)), i64 c.Door.X, i64 c.Door.Y, i64 c.Lair.X, i64 c.Lair.Y] 0] (fun x_ => okF x_ c) ⟨rfl, rfl, fun _ => rfl, fun _ => rfl, fun x_ => okF_ok x_ c (by first | assumption | exact few_small (by decide +kernel) | exact few_cut (by assumption) | grind)⟩) rfl (by decide) rfl rfl trivial rfl rfl rfl rfl ?_
   refine step_r rfl rfl trivial (step_nil (seqK_n (sem_seq (sem_seq (sem_region rfl (step_r rfl rfl trivial (step_bin rfl rfl rfl rfl rfl trivial (step_nil (seqK_n ?_)))))))))
   refine sem_cond rfl (fun h8 => ?_) (fun h8 => ?_)
   ·have g8 : (firstF c.Foes (fun x_ => idF x_) (fun x_ => okF x_ c) : Int) ≥ 0 := of_decide_eq_true h8
    refine sem_seq (sem_region rfl (step_r rfl rfl trivial (step_r (v := (.agg [_, _])) rfl rfl trivial ?_)))
    refine step_storeB (H' := [(1, .box [_, _]), (0, _)]) rfl rfl rfl rfl rfl rfl (.inl rfl) rfl ?_
    refine step_r rfl rfl trivial (step_nil (seqK_n (sem_ret (seqK_r ?_))))
    have e9 : check9 c = ((⟨3, (firstF c.Foes (fun x_ => idF x_) (fun x_ => okF x_ c))⟩ : GFlaw), false) := by
     unfold check9
     try dsimp only
     rewrite [if_neg g2, if_neg g5, if_pos g8]
     all_goals rfl
    rw [e9]
    exact answersR rfl ⟨Nat.le_of_ble_eq_true rfl, trivial, trivial⟩ (rfl) rfl
   ·have g8 : ¬ ((firstF c.Foes (fun x_ => idF x_) (fun x_ => okF x_ c) : Int) ≥ 0) := of_decide_eq_false h8
    refine sem_skip (seqK_n (sem_seq (sem_seq (sem_region rfl (step_r rfl rfl (by decide) (step_r (v := (.agg [_, _, _])) rfl rfl (Nat.le_of_ble_eq_true rfl) (step_r rfl rfl (by decide) (step_r (v := (.agg [_, _])) rfl rfl (Nat.le_of_ble_eq_true rfl) (step_call rfl rfl rfl rfl (gridWall_ok c.Map c.Door) rfl rfl rfl (step_r rfl rfl trivial ?_))))))))))
    refine step_gs rfl (fun h11 => ?_) (fun h11 => ?_)
    ·have g11 : gridWall c.Map c.Door = true := h11
     refine step_g0 rfl h11 rfl (step_g0 rfl h11 rfl (step_g0 rfl h11 rfl (step_g0 rfl h11 rfl (step_g0 rfl h11 rfl (step_pickT rfl h11 rfl rfl (step_nil (seqK_n (sem_condT rfl (sem_seq (sem_region rfl (step_r (v := (.agg [_, _])) rfl rfl trivial ?_)))))))))))
     refine step_storeB (H' := [(1, .box [_, _]), (0, _)]) rfl rfl rfl rfl rfl rfl (.inl rfl) rfl ?_
     refine step_r rfl rfl trivial (step_nil (seqK_n (sem_ret (seqK_r ?_))))
     have e12 : check9 c = ((⟨4, 0⟩ : GFlaw), false) := by
      unfold check9
      try dsimp only
      rewrite [if_neg g2, if_neg g5, if_neg g8, if_pos g11]
      all_goals rfl
     rw [e12]
     exact answersR rfl ⟨Nat.le_of_ble_eq_true rfl, trivial, trivial⟩ (rfl) rfl
    ·have g11 : ¬ (gridWall c.Map c.Door = true) := boo_f h11
     refine step_g1 rfl h11 (step_r rfl rfl (by decide) (step_g1 rfl h11 (step_r (v := (.agg [_, _, _])) rfl rfl (Nat.le_of_ble_eq_true rfl) (step_g1 rfl h11 (step_r rfl rfl (by decide) (step_g1 rfl h11 (step_r (v := (.agg [_, _])) rfl rfl (Nat.le_of_ble_eq_true rfl) (step_g1 rfl h11 (step_call rfl rfl rfl rfl (gridWall_ok c.Map c.Lair) rfl rfl rfl (step_pickF rfl h11 rfl rfl (step_nil ?_)))))))))))
     refine seqK_n ?_
     refine sem_cond rfl (fun h14 => ?_) (fun h14 => ?_)
     ·have g14 : gridWall c.Map c.Lair = true := h14
      refine sem_seq (sem_region rfl (step_r (v := (.agg [_, _])) rfl rfl trivial ?_))
      refine step_storeB (H' := [(1, .box [_, _]), (0, _)]) rfl rfl rfl rfl rfl rfl (.inl rfl) rfl ?_
      refine step_r rfl rfl trivial (step_nil (seqK_n (sem_ret (seqK_r ?_))))
      have e15 : check9 c = ((⟨4, 0⟩ : GFlaw), false) := by
       unfold check9
       try dsimp only
       rewrite [if_neg g2, if_neg g5, if_neg g8, if_neg g11, if_pos g14]
       all_goals rfl
      rw [e15]
      exact answersR rfl ⟨Nat.le_of_ble_eq_true rfl, trivial, trivial⟩ (rfl) rfl
     ·have g14 : ¬ (gridWall c.Map c.Lair = true) := boo_f h14
      refine sem_skip (seqK_n (sem_seq (sem_region rfl (step_r (v := (.agg [_, _])) rfl rfl trivial ?_))))
      refine step_storeB (H' := [(1, .box [_, _]), (0, _)]) rfl rfl rfl rfl rfl rfl (.inl rfl) rfl ?_
      refine step_r rfl rfl trivial (step_nil (seqK_n (sem_ret ?_)))
      have e16 : check9 c = ((⟨0, 0⟩ : GFlaw), true) := by
       unfold check9
       try dsimp only
       rewrite [if_neg g2, if_neg g5, if_neg g8, if_neg g11, if_neg g14]
       all_goals rfl
      rw [e16]
      exact answersR rfl ⟨Nat.le_of_ble_eq_true rfl, trivial, trivial⟩ (rfl) rfl

def right9 (c : GContent) : Bool :=
  (check9 c).2
theorem right9_ok (c : GContent) (hF : Few9 c) : Ok Tryz.prog 20 [aGContent c] [] (B (right9 c)) [] [] := by
 refine Ok.len fun hlen => ?_
 have hl_c_Abilities : c.Abilities.length ≤ maxLen := hlen _ (by simp [lensL, lens, lensP])
 have hl_c_Auras : c.Auras.length ≤ maxLen := hlen _ (by simp [lensL, lens, lensP])
 have hl_c_Foes : c.Foes.length ≤ maxLen := hlen _ (by simp [lensL, lens, lensP])
 have hl_c_Map_Wall : c.Map.Wall.length ≤ maxLen := hlen _ (by simp [lensL, lens, lensP])
 unfold maxLen at hl_c_Abilities hl_c_Auras hl_c_Foes hl_c_Map_Wall
 refine ok_of_sem Tryz.func20 rfl ?_
 show Walks Tryz.prog _ _ ⟨[(0, aGContent c)], [], 0, [], 11, 0⟩
 refine sem_seq (sem_region rfl (step_n (o := .box [_, _, _, _, _, _, _, _, _, _]) (nx' := 1) rfl rfl rfl trivial (step_r rfl rfl trivial (step_nil (seqK_n (sem_seq (sem_region rfl (step_r (v := (.agg [_, _, _, _, _, _, _, _, _, _])) rfl rfl (Nat.le_of_ble_eq_true rfl) (step_call rfl rfl rfl rfl (check9_ok c (by first | assumption | exact few_small (by decide +kernel) | exact few_cut (by assumption) | grind)) rfl rfl rfl (step_r rfl rfl trivial (step_r rfl rfl trivial ?_)))))))))))
 refine step_r rfl rfl trivial (step_n (o := .box [_, _]) (nx' := 2) rfl rfl rfl trivial ?_)
 refine step_storeB (H' := [(1, .box [_, _]), (0, _)]) rfl rfl rfl rfl rfl rfl (.inl rfl) rfl ?_
 refine step_r rfl rfl trivial (step_nil (seqK_n (sem_seq (sem_region rfl (step_r rfl rfl trivial (step_r rfl rfl trivial (step_nil (seqK_n (sem_ret ?_)))))))))
 have e2 : right9 c = (check9 c).2 := by
  unfold right9
  try dsimp only
  all_goals rfl
 rw [e2]
 exact answersR rfl ⟨trivial, trivial⟩ (rfl) rfl

end Go.Proofs.YtppnccjeggnllaaGreat

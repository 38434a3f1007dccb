import Derived.Test.YtcbdecknbfabaaaMulrp
namespace Go.Proofs.Ytcbdecknbfabaaa
open Go Go.RowKit Go.Proofs.YtcbdecknbfabaaaVm
attribute [local irreducible] opsWp AnswersE OpsS
set_option maxHeartbeats 400000
set_option maxRecDepth 100000
set_option linter.all false
def gridRightR (g : GGrid) : Bool :=
  if (g.W : Int) ≥ 1 then (if (g.W : Int) ≤ 256 then (if (g.H : Int) ≥ 1 then (if (g.H : Int) ≤ 256 then ((g.Wall.length : Int) == (IntKind.i64.wrap (g.W * g.H))) else false) else false) else false) else false
theorem gridRightR_ok (g : GGrid) : Ok Try.prog 107 [aGGrid g] [] (B (gridRightR g)) [] [] := by
 refine Ok.len fun hlen => ?_
 have hl_g_Wall : g.Wall.length ≤ maxLen := hlen _ (by simp [lensL, lens, lensP])
 unfold maxLen at hl_g_Wall
 refine ok_of_sem Try.func107 rfl ?_
 show Walks Try.prog _ _ ⟨[(0, aGGrid g)], [], 0, [], 32, 0⟩
 refine sem_seq (sem_region rfl (step_n (o := .box [_, _, _]) (nx' := 1) rfl rfl rfl trivial (step_r rfl rfl trivial (step_nil (seqK_n (sem_seq (sem_region rfl (step_r rfl rfl (by decide) (step_r rfl rfl trivial (step_bin rfl rfl rfl rfl rfl trivial (step_r rfl rfl trivial ?_)))))))))))
 refine step_gs rfl (fun h2 => ?_) (fun h2 => ?_)
 ·have g2 : (g.W : Int) ≥ 1 := of_decide_eq_true h2
  refine step_g1 rfl h2 (step_r rfl rfl (by decide) (step_g1 rfl h2 (step_r rfl rfl trivial (step_g1 rfl h2 (step_bin rfl rfl rfl rfl rfl trivial (step_pickT rfl h2 rfl rfl (step_r rfl rfl trivial ?_)))))))
  refine step_gs rfl (fun h4 => ?_) (fun h4 => ?_)
  ·have g4 : (g.W : Int) ≤ 256 := of_decide_eq_true h4
   refine step_g1 rfl h4 (step_r rfl rfl (by decide) (step_g1 rfl h4 (step_r rfl rfl trivial (step_g1 rfl h4 (step_bin rfl rfl rfl rfl rfl trivial (step_pickT rfl h4 rfl rfl (step_r rfl rfl trivial ?_)))))))
   refine step_gs rfl (fun h6 => ?_) (fun h6 => ?_)
   ·have g6 : (g.H : Int) ≥ 1 := of_decide_eq_true h6
    refine step_g1 rfl h6 (step_r rfl rfl (by decide) (step_g1 rfl h6 (step_r rfl rfl trivial (step_g1 rfl h6 (step_bin rfl rfl rfl rfl rfl trivial (step_pickT rfl h6 rfl rfl (step_r rfl rfl trivial ?_)))))))
    refine step_gs rfl (fun h8 => ?_) (fun h8 => ?_)
    ·have g8 : (g.H : Int) ≤ 256 := of_decide_eq_true h8
     refine step_g1 rfl h8 (step_r rfl rfl (by decide) (step_g1 rfl h8 (step_r rfl rfl trivial (step_g1 rfl h8 (step_r rfl rfl trivial (step_g1 rfl h8 (step_r rfl rfl (by decide) (step_g1 rfl h8 (step_r rfl rfl trivial (step_g1 rfl h8 (step_r rfl rfl (by decide) ?_)))))))))))
     refine step_g1 rfl h8 (step_r rfl rfl trivial (step_g1 rfl h8 (step_bin rfl rfl rfl rfl rfl trivial (step_g1 rfl h8 (step_bin rfl rfl rfl rfl rfl trivial (step_pickT rfl h8 rfl rfl (step_r rfl rfl trivial (step_nil (seqK_n (sem_ret ?_))))))))))
     have e10 : gridRightR g = ((g.Wall.length : Int) == (IntKind.i64.wrap (g.W * g.H))) := by
      unfold gridRightR
      try dsimp only
      rewrite [if_pos g2, if_pos g4, if_pos g6, if_pos g8]
      all_goals rfl
     rw [e10]
     exact answersR rfl ⟨trivial, trivial⟩ (rfl) rfl
    ·have g8 : ¬ ((g.H : Int) ≤ 256) := of_decide_eq_false h8
     refine step_g0 rfl h8 rfl (step_g0 rfl h8 rfl (step_g0 rfl h8 rfl (step_g0 rfl h8 rfl (step_g0 rfl h8 rfl (step_g0 rfl h8 rfl (step_g0 rfl h8 rfl (step_g0 rfl h8 rfl (step_g0 rfl h8 rfl (step_pickF rfl h8 rfl rfl (step_r rfl rfl trivial (step_nil ?_)))))))))))
     refine seqK_n (sem_ret ?_)
     have e11 : gridRightR g = false := by
      unfold gridRightR
      try dsimp only
      rewrite [if_pos g2, if_pos g4, if_pos g6, if_neg g8]
      all_goals rfl
     rw [e11]
     exact answersR rfl ⟨trivial, trivial⟩ (rfl) rfl
   ·have g6 : ¬ ((g.H : Int) ≥ 1) := of_decide_eq_false h6
    refine step_g0 rfl h6 rfl (step_g0 rfl h6 rfl (step_g0 rfl h6 rfl (step_pickF rfl h6 rfl rfl (step_r rfl rfl trivial (step_gf rfl rfl (step_gf rfl rfl (step_gf rfl rfl (step_gf rfl rfl (step_gf rfl rfl (step_gf rfl rfl (step_gf rfl rfl ?_)))))))))))
    refine step_gf rfl rfl (step_gf rfl rfl (step_r rfl rfl trivial (step_r rfl rfl trivial (step_nil (seqK_n (sem_ret ?_))))))
    have e12 : gridRightR g = false := by
     unfold gridRightR
     try dsimp only
     rewrite [if_pos g2, if_pos g4, if_neg g6]
     all_goals rfl
    rw [e12]
    exact answersR rfl ⟨trivial, trivial⟩ (rfl) rfl
  ·have g4 : ¬ ((g.W : Int) ≤ 256) := of_decide_eq_false h4
   refine step_g0 rfl h4 rfl (step_g0 rfl h4 rfl (step_g0 rfl h4 rfl (step_pickF rfl h4 rfl rfl (step_r rfl rfl trivial (step_gf rfl rfl (step_gf rfl rfl (step_gf rfl rfl (step_r rfl rfl trivial (step_r rfl rfl trivial (step_gf rfl rfl (step_gf rfl rfl ?_)))))))))))
   refine step_gf rfl rfl (step_gf rfl rfl (step_gf rfl rfl (step_gf rfl rfl (step_gf rfl rfl (step_gf rfl rfl (step_gf rfl rfl (step_r rfl rfl trivial (step_r rfl rfl trivial (step_nil (seqK_n (sem_ret ?_)))))))))))
   have e13 : gridRightR g = false := by
    unfold gridRightR
    try dsimp only
    rewrite [if_pos g2, if_neg g4]
    all_goals rfl
   rw [e13]
   exact answersR rfl ⟨trivial, trivial⟩ (rfl) rfl
 ·have g2 : ¬ ((g.W : Int) ≥ 1) := of_decide_eq_false h2
  refine step_g0 rfl h2 rfl (step_g0 rfl h2 rfl (step_g0 rfl h2 rfl (step_pickF rfl h2 rfl rfl (step_r rfl rfl trivial (step_gf rfl rfl (step_gf rfl rfl (step_gf rfl rfl (step_r rfl rfl trivial (step_r rfl rfl trivial (step_gf rfl rfl (step_gf rfl rfl ?_)))))))))))
  refine step_gf rfl rfl (step_r rfl rfl trivial (step_r rfl rfl trivial (step_gf rfl rfl (step_gf rfl rfl (step_gf rfl rfl (step_gf rfl rfl (step_gf rfl rfl (step_gf rfl rfl (step_gf rfl rfl (step_gf rfl rfl (step_gf rfl rfl ?_)))))))))))
  refine step_r rfl rfl trivial (step_r rfl rfl trivial (step_nil (seqK_n (sem_ret ?_))))
  have e14 : gridRightR g = false := by
   unfold gridRightR
   try dsimp only
   rewrite [if_neg g2]
   all_goals rfl
  rw [e14]
  exact answersR rfl ⟨trivial, trivial⟩ (rfl) rfl

def gridInR (g : GGrid) (p : GPos) : Bool :=
  if gridRightR g = true then (if (p.X : Int) ≥ 0 then (if (p.X : Int) < g.W then (if (p.Y : Int) ≥ 0 then (decide ((p.Y : Int) < g.H)) else false) else false) else false) else false
theorem gridInR_ok (g : GGrid) (p : GPos) : Ok Try.prog 97 [aGGrid g, aGPos p] [] (B (gridInR g p)) [] [] := by
 refine Ok.len fun hlen => ?_
 have hl_g_Wall : g.Wall.length ≤ maxLen := hlen _ (by simp [lensL, lens, lensP])
 unfold maxLen at hl_g_Wall
 refine ok_of_sem Try.func97 rfl ?_
 show Walks Try.prog _ _ ⟨[(0, aGGrid g), (1, aGPos p)], [], 0, [], 33, 0⟩
 refine sem_seq (sem_region rfl (step_n (o := .box [_, _, _]) (nx' := 1) rfl rfl rfl trivial (step_n (o := .box [_, _]) (nx' := 2) rfl rfl rfl trivial (step_r rfl rfl trivial (step_nil (seqK_n (sem_seq (sem_region rfl (step_r (v := (.agg [_, _, _])) rfl rfl (Nat.le_of_ble_eq_true rfl) (step_call rfl rfl rfl rfl (gridRightR_ok g) rfl rfl rfl (step_r rfl rfl trivial ?_)))))))))))
 refine step_nil (seqK_n (sem_seq (sem_region rfl (step_r rfl rfl trivial (step_r rfl rfl trivial ?_)))))
 refine step_gs rfl (fun h2 => ?_) (fun h2 => ?_)
 ·have g2 : gridRightR g = true := h2
  refine step_g1 rfl h2 (step_r rfl rfl (by decide) (step_g1 rfl h2 (step_r rfl rfl trivial (step_g1 rfl h2 (step_bin rfl rfl rfl rfl rfl trivial (step_pickT rfl h2 rfl rfl (step_r rfl rfl trivial ?_)))))))
  refine step_gs rfl (fun h4 => ?_) (fun h4 => ?_)
  ·have g4 : (p.X : Int) ≥ 0 := of_decide_eq_true h4
   refine step_g1 rfl h4 (step_r rfl rfl (by decide) (step_g1 rfl h4 (step_r rfl rfl trivial (step_g1 rfl h4 (step_r rfl rfl (by decide) (step_g1 rfl h4 (step_r rfl rfl trivial (step_g1 rfl h4 (step_bin rfl rfl rfl rfl rfl trivial (step_pickT rfl h4 rfl rfl (step_r rfl rfl trivial ?_)))))))))))
   refine step_gs rfl (fun h6 => ?_) (fun h6 => ?_)
   ·have g6 : (p.X : Int) < g.W := of_decide_eq_true h6
    refine step_g1 rfl h6 (step_r rfl rfl (by decide) (step_g1 rfl h6 (step_r rfl rfl trivial (step_g1 rfl h6 (step_bin rfl rfl rfl rfl rfl trivial (step_pickT rfl h6 rfl rfl (step_r rfl rfl trivial ?_)))))))
    refine step_gs rfl (fun h8 => ?_) (fun h8 => ?_)
    ·have g8 : (p.Y : Int) ≥ 0 := of_decide_eq_true h8
     refine step_g1 rfl h8 (step_r rfl rfl (by decide) (step_g1 rfl h8 (step_r rfl rfl trivial (step_g1 rfl h8 (step_r rfl rfl (by decide) (step_g1 rfl h8 (step_r rfl rfl trivial (step_g1 rfl h8 (step_bin rfl rfl rfl rfl rfl trivial (step_pickT rfl h8 rfl rfl (step_r rfl rfl trivial ?_)))))))))))
     refine step_nil (seqK_n (sem_ret ?_))
     have e10 : gridInR g p = (decide ((p.Y : Int) < g.H)) := by
      unfold gridInR
      try dsimp only
      rewrite [if_pos g2, if_pos g4, if_pos g6, if_pos g8]
      all_goals rfl
     rw [e10]
     exact answersR rfl ⟨trivial, trivial⟩ (rfl) rfl
    ·have g8 : ¬ ((p.Y : Int) ≥ 0) := of_decide_eq_false h8
     refine step_g0 rfl h8 rfl (step_g0 rfl h8 rfl (step_g0 rfl h8 rfl (step_g0 rfl h8 rfl (step_g0 rfl h8 rfl (step_pickF rfl h8 rfl rfl (step_r rfl rfl trivial (step_nil (seqK_n (sem_ret ?_)))))))))
     have e11 : gridInR g p = false := by
      unfold gridInR
      try dsimp only
      rewrite [if_pos g2, if_pos g4, if_pos g6, if_neg g8]
      all_goals rfl
     rw [e11]
     exact answersR rfl ⟨trivial, trivial⟩ (rfl) rfl
   ·have g6 : ¬ ((p.X : Int) < g.W) := of_decide_eq_false h6
    refine step_g0 rfl h6 rfl (step_g0 rfl h6 rfl (step_g0 rfl h6 rfl (step_pickF rfl h6 rfl rfl (step_r rfl rfl trivial (step_gf rfl rfl (step_gf rfl rfl (step_gf rfl rfl (step_gf rfl rfl (step_gf rfl rfl (step_r rfl rfl trivial (step_r rfl rfl trivial ?_)))))))))))
    refine step_nil (seqK_n (sem_ret ?_))
    have e12 : gridInR g p = false := by
     unfold gridInR
     try dsimp only
     rewrite [if_pos g2, if_pos g4, if_neg g6]
     all_goals rfl
    rw [e12]
    exact answersR rfl ⟨trivial, trivial⟩ (rfl) rfl
  ·have g4 : ¬ ((p.X : Int) ≥ 0) := of_decide_eq_false h4
   refine step_g0 rfl h4 rfl (step_g0 rfl h4 rfl (step_g0 rfl h4 rfl (step_g0 rfl h4 rfl (step_g0 rfl h4 rfl (step_pickF rfl h4 rfl rfl (step_r rfl rfl trivial (step_gf rfl rfl (step_gf rfl rfl (step_gf rfl rfl (step_r rfl rfl trivial (step_r rfl rfl trivial ?_)))))))))))
   refine step_gf rfl rfl (step_gf rfl rfl (step_gf rfl rfl (step_gf rfl rfl (step_gf rfl rfl (step_r rfl rfl trivial (step_r rfl rfl trivial (step_nil (seqK_n (sem_ret ?_)))))))))
   have e13 : gridInR g p = false := by
    unfold gridInR
    try dsimp only
    rewrite [if_pos g2, if_neg g4]
    all_goals rfl
   rw [e13]
   exact answersR rfl ⟨trivial, trivial⟩ (rfl) rfl
 ·have g2 : ¬ (gridRightR g = true) := boo_f h2
  refine step_g0 rfl h2 rfl (step_g0 rfl h2 rfl (step_g0 rfl h2 rfl (step_pickF rfl h2 rfl rfl (step_r rfl rfl trivial (step_gf rfl rfl (step_gf rfl rfl (step_gf rfl rfl (step_gf rfl rfl (step_gf rfl rfl (step_r rfl rfl trivial (step_r rfl rfl trivial ?_)))))))))))
  refine step_gf rfl rfl (step_gf rfl rfl (step_gf rfl rfl (step_r rfl rfl trivial (step_r rfl rfl trivial (step_gf rfl rfl (step_gf rfl rfl (step_gf rfl rfl (step_gf rfl rfl (step_gf rfl rfl (step_r rfl rfl trivial (step_r rfl rfl trivial ?_)))))))))))
  refine step_nil (seqK_n (sem_ret ?_))
  have e14 : gridInR g p = false := by
   unfold gridInR
   try dsimp only
   rewrite [if_neg g2]
   all_goals rfl
  rw [e14]
  exact answersR rfl ⟨trivial, trivial⟩ (rfl) rfl

theorem gridRightR_iff {g : GGrid} : gridRightR g = true ↔ (1 ≤ g.W ∧ g.W ≤ 256) ∧ (1 ≤ g.H ∧ g.H ≤ 256) ∧ (g.Wall.length : Int) = IntKind.i64.wrap (g.W * g.H) := by
  unfold gridRightR
  repeat' split
  all_goals (simp; try omega)
theorem gridRightR_eq (g : GGrid) : gridRightR g = gridRight g := by rw [Bool.eq_iff_iff, gridRightR_iff, gridRight_iff]
theorem gridInR_eq (g : GGrid) (p : GPos) : gridInR g p = gridIn g p := by
  unfold gridInR gridIn inside9
  rw [gridRightR_eq]
theorem wall_atR {g : GGrid} {p : GPos} (h : gridInR g p = true) : 0 ≤ IntKind.i64.wrap (IntKind.i64.wrap (p.Y * g.W) + p.X) ∧ IntKind.i64.wrap (IntKind.i64.wrap (p.Y * g.W) + p.X) < g.Wall.length := wall_at (gridInR_eq g p ▸ h)

def gridWallR (g : GGrid) (p : GPos) : Bool :=
  if gridInR g p = true then (g.Wall.getD ((IntKind.i64.wrap ((IntKind.i64.wrap (p.Y * g.W)) + p.X)).toNat) default) else true
theorem gridWallR_ok (g : GGrid) (p : GPos) : Ok Try.prog 81 [aGGrid g, aGPos p] [] (B (gridWallR g p)) [] [] := by
 refine Ok.len fun hlen => ?_
 have hl_g_Wall : g.Wall.length ≤ maxLen := hlen _ (by simp [lensL, lens, lensP])
 unfold maxLen at hl_g_Wall
 refine ok_of_sem Try.func81 rfl ?_
 show Walks Try.prog _ _ ⟨[(0, aGGrid g), (1, aGPos p)], [], 0, [], 25, 0⟩
 refine sem_seq (sem_region rfl (step_n (o := .box [_, _, _]) (nx' := 1) rfl rfl rfl trivial (step_n (o := .box [_, _]) (nx' := 2) rfl rfl rfl trivial (step_r rfl rfl trivial (step_nil (seqK_n (sem_seq (sem_region rfl (step_r (v := (.agg [_, _, _])) rfl rfl (Nat.le_of_ble_eq_true rfl) (step_r (v := (.agg [_, _])) rfl rfl (Nat.le_of_ble_eq_true rfl) (step_call rfl rfl rfl rfl (gridInR_ok g p) rfl rfl rfl ?_)))))))))))
 refine step_r rfl rfl trivial (step_nil (seqK_n (sem_seq (sem_region rfl (step_r rfl rfl trivial (step_r rfl rfl trivial (step_r rfl rfl trivial ?_)))))))
 refine step_gs rfl (fun h3 => ?_) (fun h3 => ?_)
 ·have g3 : ¬ (gridInR g p = true) := boo_f (not_t h3)
  refine step_g0 rfl h3 rfl (step_g0 rfl h3 rfl (step_g0 rfl h3 rfl (step_g0 rfl h3 rfl (step_g0 rfl h3 rfl (step_g0 rfl h3 rfl (step_g0 rfl h3 rfl (step_g0 rfl h3 rfl (step_g0 rfl h3 rfl (step_g0 rfl h3 rfl (step_g0 rfl h3 rfl (step_g0 rfl h3 rfl ?_)))))))))))
  refine step_pickT rfl h3 rfl rfl (step_r rfl rfl trivial (step_nil (seqK_n (sem_ret ?_))))
  have e4 : gridWallR g p = true := by
   unfold gridWallR
   try dsimp only
   rewrite [if_neg g3]
   all_goals rfl
  rw [e4]
  exact answersR rfl ⟨trivial, trivial⟩ (rfl) rfl
 ·have g3 : gridInR g p = true := (not_f h3)
  have qg3 := wall_atR g3
  refine step_g1 rfl h3 (step_r rfl rfl (by decide) (step_g1 rfl h3 (step_r rfl rfl trivial (step_g1 rfl h3 (step_r rfl rfl (by decide) (step_g1 rfl h3 (step_r rfl rfl trivial (step_g1 rfl h3 (step_r rfl rfl (by decide) (step_g1 rfl h3 (step_r rfl rfl trivial ?_)))))))))))
  refine step_g1 rfl h3 (step_bin rfl rfl rfl rfl rfl trivial (step_g1 rfl h3 (step_r rfl rfl (by decide) (step_g1 rfl h3 (step_r rfl rfl trivial (step_g1 rfl h3 (step_bin rfl rfl rfl rfl rfl trivial (step_g1 rfl h3 ?_))))))))
  have jk5 : (IntKind.i64.wrap ((IntKind.i64.wrap (p.Y * g.W)) + p.X)).toNat < g.Wall.length := by first | assumption | omega | (simp only [List.length_set, List.length_append]; omega) | (simp only [IntKind.wrap_i64] at *; omega) | (simp; omega) | simp_all
  refine step_idxS' (k := (IntKind.i64.wrap ((IntKind.i64.wrap (p.Y * g.W)) + p.X)).toNat) rfl rfl (Int.toNat_of_nonneg (by first | omega | (simp only [IntKind.wrap_i64]; omega) | (simp only [IntKind.wrap_i64] at *; omega) | (simp; omega))).symm rfl rfl jk5 (encB_ne jk5) rfl ?_
  refine step_g1 rfl h3 (step_load_one rfl rfl rfl (encB_get (get_getD jk5)) rfl (step_pickF rfl h3 rfl rfl (step_r rfl rfl trivial (step_nil (seqK_n (sem_ret ?_))))))
  have e7 : gridWallR g p = (g.Wall.getD ((IntKind.i64.wrap ((IntKind.i64.wrap (p.Y * g.W)) + p.X)).toNat) default) := by
   unfold gridWallR
   try dsimp only
   rewrite [if_pos g3]
   all_goals rfl
  rw [e7]
  exact answersR rfl ⟨trivial, trivial⟩ (rfl) rfl

def amountR (n : Int) (least : Int) : Bool :=
  if (n : Int) ≥ least then (decide ((n : Int) ≤ 1000000)) else false
theorem amountR_ok (n : Int) (least : Int) : Ok Try.prog 95 [I n, I least] [] (B (amountR n least)) [] [] := by
 refine ok_of_sem Try.func95 rfl ?_
 show Walks Try.prog _ _ ⟨[(0, I n), (1, I least)], [], 0, [], 12, 0⟩
 refine sem_seq (sem_region rfl (step_r rfl rfl trivial (step_nil (seqK_n (sem_seq (sem_region rfl (step_r rfl rfl trivial (step_r rfl rfl trivial (step_bin rfl rfl rfl rfl rfl trivial (step_r rfl rfl trivial ?_))))))))))
 refine step_gs rfl (fun h4 => ?_) (fun h4 => ?_)
 ·have g4 : (n : Int) ≥ least := of_decide_eq_true h4
  refine step_g1 rfl h4 (step_r rfl rfl trivial (step_g1 rfl h4 (step_bin rfl rfl rfl rfl rfl trivial (step_pickT rfl h4 rfl rfl (step_r rfl rfl trivial (step_nil (seqK_n (sem_ret ?_))))))))
  have e6 : amountR n least = (decide ((n : Int) ≤ 1000000)) := by
   unfold amountR
   try dsimp only
   rewrite [if_pos g4]
   all_goals rfl
  rw [e6]
  exact answersR rfl ⟨trivial, trivial⟩ (rfl) rfl
 ·have g4 : ¬ ((n : Int) ≥ least) := of_decide_eq_false h4
  refine step_g0 rfl h4 rfl (step_g0 rfl h4 rfl (step_pickF rfl h4 rfl rfl (step_r rfl rfl trivial (step_nil (seqK_n (sem_ret ?_))))))
  have e7 : amountR n least = false := by
   unfold amountR
   try dsimp only
   rewrite [if_neg g4]
   all_goals rfl
  rw [e7]
  exact answersR rfl ⟨trivial, trivial⟩ (rfl) rfl

def copyAR (a : GAbility) : GAbility :=
  a
theorem copyAR_ok (a : GAbility) (hE : a.Effects.length ≤ 16777216) : Ok Try.prog 112 [aGAbility a] [] (aGAbility (copyAR a)) [] [] := by
 refine Ok.len fun hlen => ?_
 have hl_a_Effects : a.Effects.length ≤ maxLen := hlen _ (by simp [lensL, lens, lensP])
 unfold maxLen at hl_a_Effects
 refine ok_of_sem Try.func112 rfl ?_
 show Walks Try.prog _ _ ⟨[(0, aGAbility a)], [], 0, [], 9, 0⟩
 refine sem_seq (sem_region rfl (step_n (o := .box [_, _, _, _, _, _, _, _]) (nx' := 1) rfl rfl rfl trivial (step_n (o := .box [_, _, _, _, _, _, _, _]) (nx' := 2) rfl rfl rfl trivial (step_nil (seqK_n (sem_seq (sem_region rfl (step_r rfl rfl ⟨by decide, rfl⟩ (step_r rfl rfl (by decide) (step_r rfl rfl trivial ?_))))))))))
 refine step_appendN (m := a.Effects.length) (new := a.Effects.flatMap encGEffect) (cs' := a.Effects.flatMap encGEffect) (n' := a.Effects.length) rfl rfl (rfl) rfl rfl rfl rfl rfl rfl (flat_len (s := 3) (enc := encGEffect) (fun _ => rfl) a.Effects) (by first | decide | (unfold maxGrow; omega) | (unfold maxGrow; simp; omega) | (unfold maxGrow; simp only [List.length_append, List.length_take, List.length_drop, List.length_cons, List.length_nil, IntKind.wrap_i64] at *; omega)) rfl rfl rfl rfl ?_
 refine step_r rfl rfl (by decide) (step_store (H' := [(2, .row _ _ _), (1, .box [_, _, _, _, _, _, _, _]), (0, .box [_, _, _, _, _, _, _, _])]) rfl rfl rfl rfl rfl rfl (Nat.le_of_ble_eq_true rfl) (.inl rfl) rfl (step_nil (seqK_n (sem_seq (sem_region rfl (step_r (v := (.agg [_, _, _, _, _, _, _, _])) rfl rfl (Nat.le_of_ble_eq_true rfl) (step_store (H' := [(2, .row _ _ _), (1, .box [_, _, _, _, _, _, _, _]), (0, .box [_, _, _, _, _, _, _, _])]) rfl rfl rfl rfl rfl rfl (Nat.le_of_ble_eq_true rfl) (.inl rfl) rfl (step_nil (seqK_n ?_)))))))))
 refine sem_trans (Trans.freezeJ (T' := [(2, .ptr 1 0)]) (H' := [(1, .box [I a.Id, I a.Cast, I a.Cool, I a.Charges, I a.Range, I a.Cost, B a.Sight, .pv (.slc a.Effects.length false (a.Effects.flatMap encGEffect))]), (0, .box [I a.Id, I a.Cast, I a.Cool, I a.Charges, I a.Range, I a.Cost, B a.Sight, .pv (.slc a.Effects.length false (a.Effects.flatMap encGEffect))])]) [2] (by decide) ⟨⟨_, _, rfl, rfl, (by (repeat' apply And.intro) <;> first | trivial | rfl | exact flat_len (s := 3) (enc := encGEffect) (fun _ => rfl) _ | exact flat_len (fun _ => rfl) _ | exact encI_len _ | exact encB_len _ | exact encY_len _ | exact Nat.le_of_ble_eq_true rfl | assumption)⟩, trivial⟩ ⟨⟨rfl, _, _, rfl, rfl, (by (repeat' apply And.intro) <;> first | trivial | rfl | exact flat_len (s := 3) (enc := encGEffect) (fun _ => rfl) _ | exact flat_len (fun _ => rfl) _ | exact encI_len _ | exact encB_len _ | exact encY_len _ | exact Nat.le_of_ble_eq_true rfl | assumption)⟩, ⟨rfl, _, _, rfl, rfl, (by (repeat' apply And.intro) <;> first | trivial | rfl | exact flat_len (s := 3) (enc := encGEffect) (fun _ => rfl) _ | exact flat_len (fun _ => rfl) _ | exact encI_len _ | exact encB_len _ | exact encY_len _ | exact Nat.le_of_ble_eq_true rfl | assumption)⟩, trivial⟩) ?_
 refine sem_ret ?_
 have e1 : copyAR a = a := by
  unfold copyAR
  try dsimp only
  all_goals rfl
 rw [e1]
 exact answersR rfl ⟨Nat.le_of_ble_eq_true rfl, trivial⟩ (rfl) rfl

def getAR_L0 (id : Int) : List GAbility → Nat → Sum (GAbility × Bool) Unit
  | [], k0 => .inr ()
  | x0 :: l_, k0 => if (x0.Id : Int) = id then .inl ((copyAR x0), true) else getAR_L0 id l_ (k0 + 1)
def getAR (c : GContent) (id : Int) : GAbility × Bool :=
  (match getAR_L0 id c.Abilities 0 with
    | .inl r_ => r_
    | .inr () => ((⟨0, 0, 0, 0, 0, 0, false, []⟩ : GAbility), false))
theorem getAR_ok (c : GContent) (id : Int) (hF : Few9 c) : Ok Try.prog 106 [aGContent c, I id] [] (.tup [aGAbility (getAR c id).1, B (getAR c id).2]) [] [] := by
 refine Ok.len fun hlen => ?_
 have hl_c_Abilities : c.Abilities.length ≤ maxLen := hlen _ (by simp [lensL, lens, lensP])
 have hl_c_Auras : c.Auras.length ≤ maxLen := hlen _ (by simp [lensL, lens, lensP])
 have hl_c_Foes : c.Foes.length ≤ maxLen := hlen _ (by simp [lensL, lens, lensP])
 have hl_c_Map_Wall : c.Map.Wall.length ≤ maxLen := hlen _ (by simp [lensL, lens, lensP])
 unfold maxLen at hl_c_Abilities hl_c_Auras hl_c_Foes hl_c_Map_Wall
 refine ok_of_sem Try.func106 rfl ?_
 show Walks Try.prog _ _ ⟨[(0, aGContent c), (1, I id)], [], 0, [], 29, 0⟩
 refine sem_seq (sem_region rfl (step_n (o := .box [_, _, _, _, _, _, _, _, _, _]) (nx' := 1) rfl rfl rfl trivial (step_n (o := .box [_, _, _, _, _, _, _, _]) (nx' := 2) rfl rfl rfl trivial (step_r rfl rfl trivial (step_nil (seqK_n (sem_seq (sem_seq (sem_region rfl (step_r rfl rfl trivial (step_nil ?_)))))))))))
 refine seqK_n ?_
 refine sem_cutW (fun w_ : Unit => match w_ with | () => (⟨[(4, .ptr 0 0)], [(0, .box [I 0, I 0, I 0, I 0, I 0, I 0, B false, .pv (.slc 0 true [])])], 1, [], 29, 0⟩ : St)) (fun w_ => getAR_L0 id c.Abilities 0 = .inr w_) ?_ ?_
 ·refine sem_block ?_
  refine sem_loopT (fun k0 : Nat => (⟨[(1, I id), (2, .ptr 0 0), (4, .ptr 1 0), (6, I k0)], [(0, .box [.pv (.slc c.Abilities.length false (c.Abilities.flatMap encGAbility)), .pv (.slc c.Auras.length false (c.Auras.flatMap encGAura)), .pv (.slc c.Foes.length false (c.Foes.flatMap encGFoe)), I c.Map.W, I c.Map.H, .pv (.slc c.Map.Wall.length false (encB c.Map.Wall)), I c.Door.X, I c.Door.Y, I c.Lair.X, I c.Lair.Y]), (1, .box [I 0, I 0, I 0, I 0, I 0, I 0, B false, .pv (.slc 0 true [])])], 2, [], 29, 0⟩ : St)) (fun k0 : Nat => getAR_L0 id (c.Abilities.drop k0) k0 = getAR_L0 id c.Abilities 0 ∧ k0 ≤ c.Abilities.length) (fun k0 : Nat => c.Abilities.length - k0) 0 (⟨rfl, Nat.zero_le _⟩) ?_ (fun k0 hh_ => ?_)
  ·exact (Trans.ren [] (by decide +kernel) (by decide +kernel) rfl ⟨⟨rfl, rfl⟩, ⟨rfl, rfl⟩, ⟨rfl, rfl⟩, ⟨rfl, rfl⟩, trivial⟩ ⟨⟨rfl, rfl, rfl⟩, ⟨rfl, rfl, rfl⟩, trivial⟩ (by decide))
  obtain ⟨hI0, hb0⟩ := hh_
  show Walks Try.prog _ _ (⟨[(1, I id), (2, .ptr 0 0), (4, .ptr 1 0), (6, I k0)], [(0, .box [.pv (.slc c.Abilities.length false (c.Abilities.flatMap encGAbility)), .pv (.slc c.Auras.length false (c.Auras.flatMap encGAura)), .pv (.slc c.Foes.length false (c.Foes.flatMap encGFoe)), I c.Map.W, I c.Map.H, .pv (.slc c.Map.Wall.length false (encB c.Map.Wall)), I c.Door.X, I c.Door.Y, I c.Lair.X, I c.Lair.Y]), (1, .box [I 0, I 0, I 0, I 0, I 0, I 0, B false, .pv (.slc 0 true [])])], 2, [], 29, 0⟩ : St)
  refine sem_seq (sem_seq (sem_region rfl (step_r rfl rfl trivial (step_r rfl rfl (by decide) (step_r rfl rfl trivial (step_r rfl rfl trivial (step_bin rfl rfl rfl rfl rfl trivial (step_nil (seqK_n ?_)))))))))
  refine sem_cond rfl (fun h3 => ?_) (fun h3 => ?_)
  ·have g3 : (k0 : Int) < c.Abilities.length := of_decide_eq_true h3
   have hk0 : k0 < c.Abilities.length := by omega
   obtain ⟨x0, hx0⟩ : ∃ z_, c.Abilities[k0]? = some z_ := ⟨_, List.getElem?_eq_getElem hk0⟩
   refine sem_skip (seqK_n (sem_seq (sem_block (sem_seq (sem_region rfl (step_r rfl rfl (by decide) (step_r rfl rfl trivial (step_r rfl rfl trivial (step_idxS (k := k0) rfl rfl rfl rfl hk0 (flat_ne (s := 8) (enc := encGAbility) (fun _ => rfl) (by decide) hk0) rfl (step_r rfl rfl (by decide) (step_load_one rfl rfl rfl (flat_get (s := 8) (enc := encGAbility) (fun _ => rfl) hx0 (o := 0) rfl (by decide)) rfl ?_)))))))))))
   refine step_r rfl rfl trivial (step_bin rfl rfl rfl rfl rfl trivial (step_nil (seqK_n ?_)))
   refine sem_cond rfl (fun h5 => ?_) (fun h5 => ?_)
   ·have g5 : (x0.Id : Int) = id := beq_t h5
    refine sem_seq (sem_region rfl (step_r rfl rfl (by decide) (step_r rfl rfl trivial (step_r rfl rfl trivial (step_idxS (k := k0) rfl rfl rfl rfl hk0 (flat_ne (s := 8) (enc := encGAbility) (fun _ => rfl) (by decide) hk0) rfl (step_load_row rfl rfl rfl (flat_lt (s := 8) (enc := encGAbility) (fun _ => rfl) hk0) (flat_take (s := 8) (enc := encGAbility) (fun _ => rfl) hx0) rfl ?_))))))
    refine step_call rfl rfl rfl rfl (copyAR_ok x0 (by first | assumption | exact Few9.eff (by assumption) _ (List.mem_of_getElem? (by assumption)) | omega | simp_all)) rfl rfl rfl ?_
    refine step_store (H' := [(0, .box [_, _, _, _, _, _, _, _, _, _]), (1, .box [_, _, _, _, _, _, _, _])]) rfl rfl rfl rfl rfl rfl (Nat.le_of_ble_eq_true rfl) (.inl rfl) rfl (step_r rfl rfl trivial (step_nil (seqK_n (sem_ret (blkK_r (seqK_r (lupK_r (blkK_r (cutW_r (seqK_r ?_))))))))))
    have e6 : getAR_L0 id c.Abilities 0 = .inl ((copyAR x0), true) := by
     rewrite [← hI0, drop_cons hx0]
     rewrite [getAR_L0]
     try dsimp only
     rewrite [if_pos g5]
     all_goals rfl
    have e7 : getAR c id = ((copyAR x0), true) := by
     unfold getAR
     try dsimp only
     rewrite [e6]
     try dsimp only
     all_goals rfl
    rw [e7]
    exact answersR rfl ⟨Nat.le_of_ble_eq_true rfl, trivial, trivial⟩ (rfl) rfl
   ·have g5 : ¬ ((x0.Id : Int) = id) := beq_f h5
    refine sem_skip (blkK_n (seqK_n (sem_region rfl (step_r rfl rfl trivial (step_bin rfl rfl rfl rfl rfl trivial (step_r rfl rfl trivial (step_nil ?_)))))))
    have e9 : getAR_L0 id (c.Abilities.drop k0) k0 = getAR_L0 id (c.Abilities.drop (k0 + 1)) (k0 + 1) := by
     rewrite [drop_cons hx0]
     rewrite [getAR_L0]
     try dsimp only
     rewrite [if_neg g5]
     all_goals rfl
    exact lup_againT (k0 + 1) ⟨e9.symm.trans hI0, hk0⟩ (by show c.Abilities.length - (k0 + 1) < c.Abilities.length - k0; omega) (Trans.ren [] (by decide +kernel) (by decide +kernel) rfl ⟨⟨rfl, rfl⟩, ⟨rfl, rfl⟩, ⟨rfl, rfl⟩, ⟨congrArg (fun n => some (I n)) (wrapI (k := k0) (by first | omega | (simp; omega))), rfl⟩, trivial⟩ ⟨⟨rfl, rfl, rfl⟩, ⟨rfl, rfl, rfl⟩, trivial⟩ (by decide))
  ·have g3 : ¬ ((k0 : Int) < c.Abilities.length) := of_decide_eq_false h3
   have hk0 : k0 = c.Abilities.length := by omega
   refine sem_exit (seqK_e (lupK_e (blkK_t rfl ?_)))
   have e10 : getAR_L0 id c.Abilities 0 = .inr () := by
    rewrite [← hI0, hk0, List.drop_length]
    rewrite [getAR_L0]
    try dsimp only
    all_goals rfl
   exact cutW_n () e10 (Trans.ren [(0, 1), (1, 0)] (by decide +kernel) (by decide +kernel) rfl ⟨⟨rfl, rfl⟩, trivial⟩ ⟨⟨rfl, rfl, rfl⟩, trivial⟩ (by decide))
 ·rintro ⟨⟩ (hJ1 : getAR_L0 id c.Abilities 0 = .inr ())
  show seqK _ _ _ .normal (⟨[(4, .ptr 0 0)], [(0, .box [I 0, I 0, I 0, I 0, I 0, I 0, B false, .pv (.slc 0 true [])])], 1, [], 29, 0⟩ : St)
  refine seqK_n (sem_seq (sem_region rfl (step_r (v := (.agg [_, _, _, _, _, _, _, _])) rfl rfl trivial (step_store (H' := [(0, .box [_, _, _, _, _, _, _, _])]) rfl rfl rfl rfl rfl rfl (Nat.le_of_ble_eq_true rfl) (.inl rfl) rfl (step_r rfl rfl trivial (step_nil (seqK_n ?_)))))))
  refine sem_trans (Trans.loose (T' := [(4, .ptr 0 0), (5, B false)]) (H' := [(0, .box [I 0, I 0, I 0, I 0, I 0, I 0, B false, .pv (.slc 0 false [])])]) ⟨⟨_, rfl, .inl rfl⟩, ⟨_, rfl, .inl rfl⟩, trivial⟩ ⟨⟨_, rfl, .inr rfl⟩, trivial⟩) ?_
  refine sem_ret ?_
  have e11 : getAR c id = ((⟨0, 0, 0, 0, 0, 0, false, []⟩ : GAbility), false) := by
   unfold getAR
   try dsimp only
   rewrite [hJ1]
   try dsimp only
   all_goals rfl
  rw [e11]
  exact answersR rfl ⟨Nat.le_of_ble_eq_true rfl, trivial, trivial⟩ (rfl) rfl

def getUR_L0 (id : Int) : List GAura → Nat → Sum (GAura × Bool) Unit
  | [], k0 => .inr ()
  | x0 :: l_, k0 => if (x0.Id : Int) = id then .inl (x0, true) else getUR_L0 id l_ (k0 + 1)
def getUR (c : GContent) (id : Int) : GAura × Bool :=
  (match getUR_L0 id c.Auras 0 with
    | .inl r_ => r_
    | .inr () => ((⟨0, 0, 0, 0, 0, 0, false⟩ : GAura), false))
theorem getUR_ok (c : GContent) (id : Int) : Ok Try.prog 33 [aGContent c, I id] [] (.tup [aGAura (getUR c id).1, B (getUR c id).2]) [] [] := by
 refine Ok.len fun hlen => ?_
 have hl_c_Abilities : c.Abilities.length ≤ maxLen := hlen _ (by simp [lensL, lens, lensP])
 have hl_c_Auras : c.Auras.length ≤ maxLen := hlen _ (by simp [lensL, lens, lensP])
 have hl_c_Foes : c.Foes.length ≤ maxLen := hlen _ (by simp [lensL, lens, lensP])
 have hl_c_Map_Wall : c.Map.Wall.length ≤ maxLen := hlen _ (by simp [lensL, lens, lensP])
 unfold maxLen at hl_c_Abilities hl_c_Auras hl_c_Foes hl_c_Map_Wall
 refine ok_of_sem Try.func33 rfl ?_
 show Walks Try.prog _ _ ⟨[(0, aGContent c), (1, I id)], [], 0, [], 28, 0⟩
 refine sem_seq (sem_region rfl (step_n (o := .box [_, _, _, _, _, _, _, _, _, _]) (nx' := 1) rfl rfl rfl trivial (step_n (o := .box [_, _, _, _, _, _, _]) (nx' := 2) rfl rfl rfl trivial (step_r rfl rfl trivial (step_nil (seqK_n (sem_seq (sem_seq (sem_region rfl (step_r rfl rfl trivial (step_nil ?_)))))))))))
 refine seqK_n ?_
 refine sem_cutW (fun w_ : Unit => match w_ with | () => (⟨[(4, .ptr 0 0)], [(0, .box [I 0, I 0, I 0, I 0, I 0, I 0, B false])], 1, [], 28, 0⟩ : St)) (fun w_ => getUR_L0 id c.Auras 0 = .inr w_) ?_ ?_
 ·refine sem_block ?_
  refine sem_loopT (fun k0 : Nat => (⟨[(1, I id), (2, .ptr 0 0), (4, .ptr 1 0), (6, I k0)], [(0, .box [.pv (.slc c.Abilities.length false (c.Abilities.flatMap encGAbility)), .pv (.slc c.Auras.length false (c.Auras.flatMap encGAura)), .pv (.slc c.Foes.length false (c.Foes.flatMap encGFoe)), I c.Map.W, I c.Map.H, .pv (.slc c.Map.Wall.length false (encB c.Map.Wall)), I c.Door.X, I c.Door.Y, I c.Lair.X, I c.Lair.Y]), (1, .box [I 0, I 0, I 0, I 0, I 0, I 0, B false])], 2, [], 28, 0⟩ : St)) (fun k0 : Nat => getUR_L0 id (c.Auras.drop k0) k0 = getUR_L0 id c.Auras 0 ∧ k0 ≤ c.Auras.length) (fun k0 : Nat => c.Auras.length - k0) 0 (⟨rfl, Nat.zero_le _⟩) ?_ (fun k0 hh_ => ?_)
  ·exact (Trans.ren [] (by decide +kernel) (by decide +kernel) rfl ⟨⟨rfl, rfl⟩, ⟨rfl, rfl⟩, ⟨rfl, rfl⟩, ⟨rfl, rfl⟩, trivial⟩ ⟨⟨rfl, rfl, rfl⟩, ⟨rfl, rfl, rfl⟩, trivial⟩ (by decide))
  obtain ⟨hI0, hb0⟩ := hh_
  show Walks Try.prog _ _ (⟨[(1, I id), (2, .ptr 0 0), (4, .ptr 1 0), (6, I k0)], [(0, .box [.pv (.slc c.Abilities.length false (c.Abilities.flatMap encGAbility)), .pv (.slc c.Auras.length false (c.Auras.flatMap encGAura)), .pv (.slc c.Foes.length false (c.Foes.flatMap encGFoe)), I c.Map.W, I c.Map.H, .pv (.slc c.Map.Wall.length false (encB c.Map.Wall)), I c.Door.X, I c.Door.Y, I c.Lair.X, I c.Lair.Y]), (1, .box [I 0, I 0, I 0, I 0, I 0, I 0, B false])], 2, [], 28, 0⟩ : St)
  refine sem_seq (sem_seq (sem_region rfl (step_r rfl rfl trivial (step_r rfl rfl (by decide) (step_r rfl rfl trivial (step_r rfl rfl trivial (step_bin rfl rfl rfl rfl rfl trivial (step_nil (seqK_n ?_)))))))))
  refine sem_cond rfl (fun h3 => ?_) (fun h3 => ?_)
  ·have g3 : (k0 : Int) < c.Auras.length := of_decide_eq_true h3
   have hk0 : k0 < c.Auras.length := by omega
   obtain ⟨x0, hx0⟩ : ∃ z_, c.Auras[k0]? = some z_ := ⟨_, List.getElem?_eq_getElem hk0⟩
   refine sem_skip (seqK_n (sem_seq (sem_block (sem_seq (sem_region rfl (step_r rfl rfl (by decide) (step_r rfl rfl trivial (step_r rfl rfl trivial (step_idxS (k := k0) rfl rfl rfl rfl hk0 (flat_ne (s := 7) (enc := encGAura) (fun _ => rfl) (by decide) hk0) rfl (step_r rfl rfl (by decide) (step_load_one rfl rfl rfl (flat_get (s := 7) (enc := encGAura) (fun _ => rfl) hx0 (o := 0) rfl (by decide)) rfl ?_)))))))))))
   refine step_r rfl rfl trivial (step_bin rfl rfl rfl rfl rfl trivial (step_nil (seqK_n ?_)))
   refine sem_cond rfl (fun h5 => ?_) (fun h5 => ?_)
   ·have g5 : (x0.Id : Int) = id := beq_t h5
    refine sem_seq (sem_region rfl (step_r rfl rfl (by decide) (step_r rfl rfl trivial (step_r rfl rfl trivial (step_idxS (k := k0) rfl rfl rfl rfl hk0 (flat_ne (s := 7) (enc := encGAura) (fun _ => rfl) (by decide) hk0) rfl (step_load_row rfl rfl rfl (flat_lt (s := 7) (enc := encGAura) (fun _ => rfl) hk0) (flat_take (s := 7) (enc := encGAura) (fun _ => rfl) hx0) rfl (step_store (H' := [(0, .box [_, _, _, _, _, _, _, _, _, _]), (1, .box [_, _, _, _, _, _, _])]) rfl rfl rfl rfl rfl rfl (Nat.le_of_ble_eq_true rfl) (.inl rfl) rfl (step_r rfl rfl trivial (step_nil (seqK_n (sem_ret ?_)))))))))))
    refine blkK_r (seqK_r (lupK_r (blkK_r (cutW_r (seqK_r ?_)))))
    have e6 : getUR_L0 id c.Auras 0 = .inl (x0, true) := by
     rewrite [← hI0, drop_cons hx0]
     rewrite [getUR_L0]
     try dsimp only
     rewrite [if_pos g5]
     all_goals rfl
    have e7 : getUR c id = (x0, true) := by
     unfold getUR
     try dsimp only
     rewrite [e6]
     try dsimp only
     all_goals rfl
    rw [e7]
    exact answersR rfl ⟨Nat.le_of_ble_eq_true rfl, trivial, trivial⟩ (rfl) rfl
   ·have g5 : ¬ ((x0.Id : Int) = id) := beq_f h5
    refine sem_skip (blkK_n (seqK_n (sem_region rfl (step_r rfl rfl trivial (step_bin rfl rfl rfl rfl rfl trivial (step_r rfl rfl trivial (step_nil ?_)))))))
    have e9 : getUR_L0 id (c.Auras.drop k0) k0 = getUR_L0 id (c.Auras.drop (k0 + 1)) (k0 + 1) := by
     rewrite [drop_cons hx0]
     rewrite [getUR_L0]
     try dsimp only
     rewrite [if_neg g5]
     all_goals rfl
    exact lup_againT (k0 + 1) ⟨e9.symm.trans hI0, hk0⟩ (by show c.Auras.length - (k0 + 1) < c.Auras.length - k0; omega) (Trans.ren [] (by decide +kernel) (by decide +kernel) rfl ⟨⟨rfl, rfl⟩, ⟨rfl, rfl⟩, ⟨rfl, rfl⟩, ⟨congrArg (fun n => some (I n)) (wrapI (k := k0) (by first | omega | (simp; omega))), rfl⟩, trivial⟩ ⟨⟨rfl, rfl, rfl⟩, ⟨rfl, rfl, rfl⟩, trivial⟩ (by decide))
  ·have g3 : ¬ ((k0 : Int) < c.Auras.length) := of_decide_eq_false h3
   have hk0 : k0 = c.Auras.length := by omega
   refine sem_exit (seqK_e (lupK_e (blkK_t rfl ?_)))
   have e10 : getUR_L0 id c.Auras 0 = .inr () := by
    rewrite [← hI0, hk0, List.drop_length]
    rewrite [getUR_L0]
    try dsimp only
    all_goals rfl
   exact cutW_n () e10 (Trans.ren [(0, 1), (1, 0)] (by decide +kernel) (by decide +kernel) rfl ⟨⟨rfl, rfl⟩, trivial⟩ ⟨⟨rfl, rfl, rfl⟩, trivial⟩ (by decide))
 ·rintro ⟨⟩ (hJ1 : getUR_L0 id c.Auras 0 = .inr ())
  show seqK _ _ _ .normal (⟨[(4, .ptr 0 0)], [(0, .box [I 0, I 0, I 0, I 0, I 0, I 0, B false])], 1, [], 28, 0⟩ : St)
  refine seqK_n (sem_seq (sem_region rfl (step_r (v := (.agg [_, _, _, _, _, _, _])) rfl rfl trivial (step_store (H' := [(0, .box [_, _, _, _, _, _, _])]) rfl rfl rfl rfl rfl rfl (Nat.le_of_ble_eq_true rfl) (.inl rfl) rfl (step_r rfl rfl trivial (step_nil (seqK_n (sem_ret ?_))))))))
  have e11 : getUR c id = ((⟨0, 0, 0, 0, 0, 0, false⟩ : GAura), false) := by
   unfold getUR
   try dsimp only
   rewrite [hJ1]
   try dsimp only
   all_goals rfl
  rw [e11]
  exact answersR rfl ⟨Nat.le_of_ble_eq_true rfl, trivial, trivial⟩ (rfl) rfl

def abilityR_J79 (x0 : GEffect) : Sum Bool Unit :=
  if (x0.Kind : Int) = 4 then .inr () else if (x0.Aura : Int) = 0 then .inr () else .inl false
def abilityR_L0 (c : GContent) : List GEffect → Nat → Sum Bool Unit
  | [], k0 => .inr ()
  | x0 :: l_, k0 => if (x0.Kind : Int) < 1 then .inl false else if (x0.Kind : Int) > 7 then .inl false else if amountR x0.Amount 0 = true then (match abilityR_J79 x0 with
    | .inl r_ => .inl r_
    | .inr () => if (x0.Kind : Int) = 4 then (if (getUR c x0.Aura).2 = true then (if (x0.Amount : Int) = 0 then abilityR_L0 c l_ (k0 + 1) else .inl false) else .inl false) else abilityR_L0 c l_ (k0 + 1)) else .inl false
def abilityR (c : GContent) (a : GAbility) : Bool :=
  if amountR a.Cast 0 = true then (if amountR a.Cool 0 = true then (if amountR a.Range 0 = true then (if amountR a.Cost 0 = true then (if (a.Charges : Int) < 1 then false else if (a.Charges : Int) > 100 then false else if (a.Effects.length : Int) < 1 then false else if (a.Effects.length : Int) > 16 then false else (match abilityR_L0 c a.Effects 0 with
    | .inl r_ => r_
    | .inr () => true)) else false) else false) else false) else false
theorem abilityR_ok (c : GContent) (a : GAbility) : Ok Try.prog 77 [aGContent c, aGAbility a] [] (B (abilityR c a)) [] [] := by
 refine Ok.len fun hlen => ?_
 have hl_c_Abilities : c.Abilities.length ≤ maxLen := hlen _ (by simp [lensL, lens, lensP])
 have hl_c_Auras : c.Auras.length ≤ maxLen := hlen _ (by simp [lensL, lens, lensP])
 have hl_c_Foes : c.Foes.length ≤ maxLen := hlen _ (by simp [lensL, lens, lensP])
 have hl_c_Map_Wall : c.Map.Wall.length ≤ maxLen := hlen _ (by simp [lensL, lens, lensP])
 have hl_a_Effects : a.Effects.length ≤ maxLen := hlen _ (by simp [lensL, lens, lensP])
 unfold maxLen at hl_c_Abilities hl_c_Auras hl_c_Foes hl_c_Map_Wall hl_a_Effects
 refine ok_of_sem Try.func77 rfl ?_
 show Walks Try.prog _ _ ⟨[(0, aGContent c), (1, aGAbility a)], [], 0, [], 104, 0⟩
 refine sem_seq (sem_region rfl (step_n (o := .box [_, _, _, _, _, _, _, _, _, _]) (nx' := 1) rfl rfl rfl trivial (step_n (o := .box [_, _, _, _, _, _, _, _]) (nx' := 2) rfl rfl rfl trivial (step_r rfl rfl trivial (step_nil (seqK_n (sem_seq (sem_seq (sem_region rfl (step_r rfl rfl (by decide) (step_r rfl rfl trivial ?_)))))))))))
 refine step_call rfl rfl rfl rfl (amountR_ok a.Cast 0) rfl rfl rfl (step_r rfl rfl trivial (step_r rfl rfl trivial ?_))
 refine step_gs rfl (fun h2 => ?_) (fun h2 => ?_)
 ·have g2 : ¬ (amountR a.Cast 0 = true) := boo_f (not_t h2)
  refine step_g0 rfl h2 rfl (step_g0 rfl h2 rfl (step_g0 rfl h2 rfl (step_g0 rfl h2 rfl (step_pickT rfl h2 rfl rfl (step_r rfl rfl trivial (step_gf rfl rfl (step_gf rfl rfl (step_gf rfl rfl (step_gf rfl rfl (step_r rfl rfl trivial (step_r rfl rfl trivial ?_)))))))))))
  refine step_gf rfl rfl (step_gf rfl rfl (step_gf rfl rfl (step_gf rfl rfl (step_r rfl rfl trivial (step_r rfl rfl trivial (step_gf rfl rfl (step_gf rfl rfl (step_gf rfl rfl (step_r rfl rfl trivial (step_r rfl rfl trivial (step_gf rfl rfl ?_)))))))))))
  refine step_gf rfl rfl (step_gf rfl rfl (step_r rfl rfl trivial (step_r rfl rfl trivial (step_gf rfl rfl (step_gf rfl rfl (step_gf rfl rfl (step_gf rfl rfl (step_r rfl rfl trivial (step_r rfl rfl trivial (step_gf rfl rfl (step_gf rfl rfl ?_)))))))))))
  refine step_gf rfl rfl (step_gf rfl rfl (step_r rfl rfl trivial (step_nil (seqK_n (sem_condT rfl (sem_seq (sem_region rfl (step_r rfl rfl trivial (step_nil (seqK_n (sem_ret ?_)))))))))))
  refine seqK_r ?_
  have e3 : abilityR c a = false := by
   unfold abilityR
   try dsimp only
   rewrite [if_neg g2]
   all_goals rfl
  rw [e3]
  exact answersR rfl ⟨trivial, trivial⟩ (rfl) rfl
 ·have g2 : amountR a.Cast 0 = true := (not_f h2)
  refine step_g1 rfl h2 (step_r rfl rfl (by decide) (step_g1 rfl h2 (step_r rfl rfl trivial (step_g1 rfl h2 (step_call rfl rfl rfl rfl (amountR_ok a.Cool 0) rfl rfl rfl (step_g1 rfl h2 (step_r rfl rfl trivial (step_pickF rfl h2 rfl rfl (step_r rfl rfl trivial ?_)))))))))
  refine step_gs rfl (fun h5 => ?_) (fun h5 => ?_)
  ·have g5 : ¬ (amountR a.Cool 0 = true) := boo_f (not_t h5)
   refine step_g0 rfl h5 rfl (step_g0 rfl h5 rfl (step_g0 rfl h5 rfl (step_g0 rfl h5 rfl (step_pickT rfl h5 rfl rfl (step_r rfl rfl trivial (step_gf rfl rfl (step_gf rfl rfl (step_gf rfl rfl (step_gf rfl rfl (step_r rfl rfl trivial (step_r rfl rfl trivial ?_)))))))))))
   refine step_gf rfl rfl (step_gf rfl rfl (step_gf rfl rfl (step_r rfl rfl trivial (step_r rfl rfl trivial (step_gf rfl rfl (step_gf rfl rfl (step_gf rfl rfl (step_r rfl rfl trivial (step_r rfl rfl trivial (step_gf rfl rfl (step_gf rfl rfl ?_)))))))))))
   refine step_gf rfl rfl (step_gf rfl rfl (step_r rfl rfl trivial (step_r rfl rfl trivial (step_gf rfl rfl (step_gf rfl rfl (step_gf rfl rfl (step_gf rfl rfl (step_r rfl rfl trivial (step_nil (seqK_n (sem_condT rfl ?_)))))))))))
   refine sem_seq (sem_region rfl (step_r rfl rfl trivial (step_nil (seqK_n (sem_ret (seqK_r ?_))))))
   have e6 : abilityR c a = false := by
    unfold abilityR
    try dsimp only
    rewrite [if_pos g2, if_neg g5]
    all_goals rfl
   rw [e6]
   exact answersR rfl ⟨trivial, trivial⟩ (rfl) rfl
  ·have g5 : amountR a.Cool 0 = true := (not_f h5)
   refine step_g1 rfl h5 (step_r rfl rfl (by decide) (step_g1 rfl h5 (step_r rfl rfl trivial (step_g1 rfl h5 (step_call rfl rfl rfl rfl (amountR_ok a.Range 0) rfl rfl rfl (step_g1 rfl h5 (step_r rfl rfl trivial (step_pickF rfl h5 rfl rfl (step_r rfl rfl trivial ?_)))))))))
   refine step_gs rfl (fun h8 => ?_) (fun h8 => ?_)
   ·have g8 : ¬ (amountR a.Range 0 = true) := boo_f (not_t h8)
    refine step_g0 rfl h8 rfl (step_g0 rfl h8 rfl (step_g0 rfl h8 rfl (step_g0 rfl h8 rfl (step_pickT rfl h8 rfl rfl (step_r rfl rfl trivial (step_gf rfl rfl (step_gf rfl rfl (step_gf rfl rfl (step_r rfl rfl trivial (step_r rfl rfl trivial (step_gf rfl rfl ?_)))))))))))
    refine step_gf rfl rfl (step_gf rfl rfl (step_r rfl rfl trivial (step_r rfl rfl trivial (step_gf rfl rfl (step_gf rfl rfl (step_gf rfl rfl (step_gf rfl rfl (step_r rfl rfl trivial (step_r rfl rfl trivial (step_gf rfl rfl (step_gf rfl rfl ?_)))))))))))
    refine step_gf rfl rfl (step_gf rfl rfl (step_r rfl rfl trivial (step_nil (seqK_n (sem_condT rfl (sem_seq (sem_region rfl (step_r rfl rfl trivial (step_nil (seqK_n (sem_ret ?_)))))))))))
    refine seqK_r ?_
    have e9 : abilityR c a = false := by
     unfold abilityR
     try dsimp only
     rewrite [if_pos g2, if_pos g5, if_neg g8]
     all_goals rfl
    rw [e9]
    exact answersR rfl ⟨trivial, trivial⟩ (rfl) rfl
   ·have g8 : amountR a.Range 0 = true := (not_f h8)
    refine step_g1 rfl h8 (step_r rfl rfl (by decide) (step_g1 rfl h8 (step_r rfl rfl trivial (step_g1 rfl h8 (step_call rfl rfl rfl rfl (amountR_ok a.Cost 0) rfl rfl rfl (step_g1 rfl h8 (step_r rfl rfl trivial (step_pickF rfl h8 rfl rfl (step_r rfl rfl trivial ?_)))))))))
    refine step_gs rfl (fun h11 => ?_) (fun h11 => ?_)
    ·have g11 : ¬ (amountR a.Cost 0 = true) := boo_f (not_t h11)
     refine step_g0 rfl h11 rfl (step_g0 rfl h11 rfl (step_g0 rfl h11 rfl (step_pickT rfl h11 rfl rfl (step_r rfl rfl trivial (step_gf rfl rfl (step_gf rfl rfl (step_gf rfl rfl (step_r rfl rfl trivial (step_r rfl rfl trivial (step_gf rfl rfl (step_gf rfl rfl ?_)))))))))))
     refine step_gf rfl rfl (step_gf rfl rfl (step_r rfl rfl trivial (step_r rfl rfl trivial (step_gf rfl rfl (step_gf rfl rfl (step_gf rfl rfl (step_gf rfl rfl (step_r rfl rfl trivial (step_nil (seqK_n (sem_condT rfl ?_)))))))))))
     refine sem_seq (sem_region rfl (step_r rfl rfl trivial (step_nil (seqK_n (sem_ret (seqK_r ?_))))))
     have e12 : abilityR c a = false := by
      unfold abilityR
      try dsimp only
      rewrite [if_pos g2, if_pos g5, if_pos g8, if_neg g11]
      all_goals rfl
     rw [e12]
     exact answersR rfl ⟨trivial, trivial⟩ (rfl) rfl
    ·have g11 : amountR a.Cost 0 = true := (not_f h11)
     refine step_g1 rfl h11 (step_r rfl rfl (by decide) (step_g1 rfl h11 (step_r rfl rfl trivial (step_g1 rfl h11 (step_bin rfl rfl rfl rfl rfl trivial (step_pickF rfl h11 rfl rfl (step_r rfl rfl trivial ?_)))))))
     refine step_gs rfl (fun h14 => ?_) (fun h14 => ?_)
     ·have g14 : (a.Charges : Int) < 1 := of_decide_eq_true h14
      refine step_g0 rfl h14 rfl (step_g0 rfl h14 rfl (step_g0 rfl h14 rfl (step_pickT rfl h14 rfl rfl (step_r rfl rfl trivial (step_gf rfl rfl (step_gf rfl rfl (step_gf rfl rfl (step_gf rfl rfl (step_r rfl rfl trivial (step_r rfl rfl trivial (step_gf rfl rfl ?_)))))))))))
      refine step_gf rfl rfl (step_gf rfl rfl (step_gf rfl rfl (step_r rfl rfl trivial (step_nil (seqK_n (sem_condT rfl (sem_seq (sem_region rfl (step_r rfl rfl trivial (step_nil (seqK_n ?_)))))))))))
      refine sem_ret (seqK_r ?_)
      have e15 : abilityR c a = false := by
       unfold abilityR
       try dsimp only
       rewrite [if_pos g2, if_pos g5, if_pos g8, if_pos g11, if_pos g14]
       all_goals rfl
      rw [e15]
      exact answersR rfl ⟨trivial, trivial⟩ (rfl) rfl
     ·have g14 : ¬ ((a.Charges : Int) < 1) := of_decide_eq_false h14
      refine step_g1 rfl h14 (step_r rfl rfl (by decide) (step_g1 rfl h14 (step_r rfl rfl trivial (step_g1 rfl h14 (step_bin rfl rfl rfl rfl rfl trivial (step_pickF rfl h14 rfl rfl (step_r rfl rfl trivial ?_)))))))
      refine step_gs rfl (fun h17 => ?_) (fun h17 => ?_)
      ·have g17 : (a.Charges : Int) > 100 := of_decide_eq_true h17
       refine step_g0 rfl h17 rfl (step_g0 rfl h17 rfl (step_g0 rfl h17 rfl (step_g0 rfl h17 rfl (step_pickT rfl h17 rfl rfl (step_r rfl rfl trivial (step_gf rfl rfl (step_gf rfl rfl (step_gf rfl rfl (step_gf rfl rfl (step_r rfl rfl trivial (step_nil ?_)))))))))))
       refine seqK_n (sem_condT rfl (sem_seq (sem_region rfl (step_r rfl rfl trivial (step_nil (seqK_n (sem_ret (seqK_r ?_))))))))
       have e18 : abilityR c a = false := by
        unfold abilityR
        try dsimp only
        rewrite [if_pos g2, if_pos g5, if_pos g8, if_pos g11, if_neg g14, if_pos g17]
        all_goals rfl
       rw [e18]
       exact answersR rfl ⟨trivial, trivial⟩ (rfl) rfl
      ·have g17 : ¬ ((a.Charges : Int) > 100) := of_decide_eq_false h17
       refine step_g1 rfl h17 (step_r rfl rfl (by decide) (step_g1 rfl h17 (step_r rfl rfl trivial (step_g1 rfl h17 (step_r rfl rfl trivial (step_g1 rfl h17 (step_bin rfl rfl rfl rfl rfl trivial (step_pickF rfl h17 rfl rfl (step_r rfl rfl trivial ?_)))))))))
       refine step_gs rfl (fun h20 => ?_) (fun h20 => ?_)
       ·have g20 : (a.Effects.length : Int) < 1 := of_decide_eq_true h20
        refine step_g0 rfl h20 rfl (step_g0 rfl h20 rfl (step_g0 rfl h20 rfl (step_g0 rfl h20 rfl (step_pickT rfl h20 rfl rfl (step_nil (seqK_n (sem_condT rfl (sem_seq (sem_region rfl (step_r rfl rfl trivial (step_nil ?_)))))))))))
        refine seqK_n (sem_ret (seqK_r ?_))
        have e21 : abilityR c a = false := by
         unfold abilityR
         try dsimp only
         rewrite [if_pos g2, if_pos g5, if_pos g8, if_pos g11, if_neg g14, if_neg g17, if_pos g20]
         all_goals rfl
        rw [e21]
        exact answersR rfl ⟨trivial, trivial⟩ (rfl) rfl
       ·have g20 : ¬ ((a.Effects.length : Int) < 1) := of_decide_eq_false h20
        refine step_g1 rfl h20 (step_r rfl rfl (by decide) (step_g1 rfl h20 (step_r rfl rfl trivial (step_g1 rfl h20 (step_r rfl rfl trivial (step_g1 rfl h20 (step_bin rfl rfl rfl rfl rfl trivial (step_pickF rfl h20 rfl rfl (step_nil (seqK_n ?_))))))))))
        refine sem_cond rfl (fun h23 => ?_) (fun h23 => ?_)
        ·have g23 : (a.Effects.length : Int) > 16 := of_decide_eq_true h23
         refine sem_seq (sem_region rfl (step_r rfl rfl trivial (step_nil (seqK_n (sem_ret (seqK_r ?_))))))
         have e24 : abilityR c a = false := by
          unfold abilityR
          try dsimp only
          rewrite [if_pos g2, if_pos g5, if_pos g8, if_pos g11, if_neg g14, if_neg g17, if_neg g20, if_pos g23]
          all_goals rfl
         rw [e24]
         exact answersR rfl ⟨trivial, trivial⟩ (rfl) rfl
        ·have g23 : ¬ ((a.Effects.length : Int) > 16) := of_decide_eq_false h23
         refine sem_skip (seqK_n (sem_seq (sem_seq (sem_region rfl (step_r rfl rfl trivial (step_nil (seqK_n ?_)))))))
         refine sem_cutW (fun w_ : Unit => match w_ with | () => (⟨[], [], 0, [], 104, 0⟩ : St)) (fun w_ => abilityR_L0 c a.Effects 0 = .inr w_) ?_ ?_
         ·refine sem_block ?_
          refine sem_loopT (fun k0 : Nat => (⟨[(2, .ptr 0 0), (3, .ptr 1 0), (5, I k0)], [(0, .box [.pv (.slc c.Abilities.length false (c.Abilities.flatMap encGAbility)), .pv (.slc c.Auras.length false (c.Auras.flatMap encGAura)), .pv (.slc c.Foes.length false (c.Foes.flatMap encGFoe)), I c.Map.W, I c.Map.H, .pv (.slc c.Map.Wall.length false (encB c.Map.Wall)), I c.Door.X, I c.Door.Y, I c.Lair.X, I c.Lair.Y]), (1, .box [I a.Id, I a.Cast, I a.Cool, I a.Charges, I a.Range, I a.Cost, B a.Sight, .pv (.slc a.Effects.length false (a.Effects.flatMap encGEffect))])], 2, [], 104, 0⟩ : St)) (fun k0 : Nat => abilityR_L0 c (a.Effects.drop k0) k0 = abilityR_L0 c a.Effects 0 ∧ k0 ≤ a.Effects.length) (fun k0 : Nat => a.Effects.length - k0) 0 (⟨rfl, Nat.zero_le _⟩) ?_ (fun k0 hh_ => ?_)
          ·exact (Trans.ren [] (by decide +kernel) (by decide +kernel) rfl ⟨⟨rfl, rfl⟩, ⟨rfl, rfl⟩, ⟨rfl, rfl⟩, trivial⟩ ⟨⟨rfl, rfl, rfl⟩, ⟨rfl, rfl, rfl⟩, trivial⟩ (by decide))
          obtain ⟨hI0, hb0⟩ := hh_
          show Walks Try.prog _ _ (⟨[(2, .ptr 0 0), (3, .ptr 1 0), (5, I k0)], [(0, .box [.pv (.slc c.Abilities.length false (c.Abilities.flatMap encGAbility)), .pv (.slc c.Auras.length false (c.Auras.flatMap encGAura)), .pv (.slc c.Foes.length false (c.Foes.flatMap encGFoe)), I c.Map.W, I c.Map.H, .pv (.slc c.Map.Wall.length false (encB c.Map.Wall)), I c.Door.X, I c.Door.Y, I c.Lair.X, I c.Lair.Y]), (1, .box [I a.Id, I a.Cast, I a.Cool, I a.Charges, I a.Range, I a.Cost, B a.Sight, .pv (.slc a.Effects.length false (a.Effects.flatMap encGEffect))])], 2, [], 104, 0⟩ : St)
          refine sem_seq (sem_seq (sem_region rfl (step_r rfl rfl trivial (step_r rfl rfl (by decide) (step_r rfl rfl trivial (step_r rfl rfl trivial (step_bin rfl rfl rfl rfl rfl trivial (step_nil (seqK_n ?_)))))))))
          refine sem_cond rfl (fun h27 => ?_) (fun h27 => ?_)
          ·have g27 : (k0 : Int) < a.Effects.length := of_decide_eq_true h27
           have hk0 : k0 < a.Effects.length := by omega
           obtain ⟨x0, hx0⟩ : ∃ z_, a.Effects[k0]? = some z_ := ⟨_, List.getElem?_eq_getElem hk0⟩
           refine sem_skip (seqK_n (sem_seq (sem_block (sem_seq (sem_region rfl (step_r rfl rfl (by decide) (step_r rfl rfl trivial (step_r rfl rfl trivial (step_idxS (k := k0) rfl rfl rfl rfl hk0 (flat_ne (s := 3) (enc := encGEffect) (fun _ => rfl) (by decide) hk0) rfl (step_load_row rfl rfl rfl (flat_lt (s := 3) (enc := encGEffect) (fun _ => rfl) hk0) (flat_take (s := 3) (enc := encGEffect) (fun _ => rfl) hx0) rfl (step_n (o := .box [_, _, _]) (nx' := 3) rfl rfl rfl trivial ?_)))))))))))
           refine step_store (H' := [(2, .box [_, _, _]), (0, .box [_, _, _, _, _, _, _, _, _, _]), (1, .box [_, _, _, _, _, _, _, _])]) rfl rfl rfl rfl rfl rfl (Nat.le_of_ble_eq_true rfl) (.inl rfl) rfl (step_nil (seqK_n (sem_seq (sem_seq (sem_region rfl (step_r rfl rfl (by decide) (step_r rfl rfl trivial (step_bin rfl rfl rfl rfl rfl trivial (step_r rfl rfl trivial ?_)))))))))
           refine step_gs rfl (fun h29 => ?_) (fun h29 => ?_)
           ·have g29 : (x0.Kind : Int) < 1 := of_decide_eq_true h29
            refine step_g0 rfl h29 rfl (step_g0 rfl h29 rfl (step_g0 rfl h29 rfl (step_pickT rfl h29 rfl rfl (step_r rfl rfl trivial (step_gf rfl rfl (step_gf rfl rfl (step_gf rfl rfl (step_gf rfl rfl (step_r rfl rfl trivial (step_nil (seqK_n ?_)))))))))))
            refine sem_condT rfl (sem_seq (sem_region rfl (step_r rfl rfl trivial (step_nil (seqK_n (sem_ret (seqK_r (blkK_r (seqK_r (lupK_r (blkK_r ?_)))))))))))
            refine cutW_r (seqK_r ?_)
            have e30 : abilityR_L0 c a.Effects 0 = .inl false := by
             rewrite [← hI0, drop_cons hx0]
             rewrite [abilityR_L0]
             try dsimp only
             rewrite [if_pos g29]
             all_goals rfl
            have e31 : abilityR c a = false := by
             unfold abilityR
             try dsimp only
             rewrite [if_pos g2, if_pos g5, if_pos g8, if_pos g11, if_neg g14, if_neg g17, if_neg g20, if_neg g23, e30]
             try dsimp only
             all_goals rfl
            rw [e31]
            exact answersR rfl ⟨trivial, trivial⟩ (rfl) rfl
           ·have g29 : ¬ ((x0.Kind : Int) < 1) := of_decide_eq_false h29
            refine step_g1 rfl h29 (step_r rfl rfl (by decide) (step_g1 rfl h29 (step_r rfl rfl trivial (step_g1 rfl h29 (step_bin rfl rfl rfl rfl rfl trivial (step_pickF rfl h29 rfl rfl (step_r rfl rfl trivial ?_)))))))
            refine step_gs rfl (fun h33 => ?_) (fun h33 => ?_)
            ·have g33 : (x0.Kind : Int) > 7 := of_decide_eq_true h33
             refine step_g0 rfl h33 rfl (step_g0 rfl h33 rfl (step_g0 rfl h33 rfl (step_g0 rfl h33 rfl (step_pickT rfl h33 rfl rfl (step_nil (seqK_n (sem_condT rfl (sem_seq (sem_region rfl (step_r rfl rfl trivial (step_nil ?_)))))))))))
             refine seqK_n (sem_ret (seqK_r (blkK_r (seqK_r (lupK_r (blkK_r (cutW_r (seqK_r ?_))))))))
             have e34 : abilityR_L0 c a.Effects 0 = .inl false := by
              rewrite [← hI0, drop_cons hx0]
              rewrite [abilityR_L0]
              try dsimp only
              rewrite [if_neg g29, if_pos g33]
              all_goals rfl
             have e35 : abilityR c a = false := by
              unfold abilityR
              try dsimp only
              rewrite [if_pos g2, if_pos g5, if_pos g8, if_pos g11, if_neg g14, if_neg g17, if_neg g20, if_neg g23, e34]
              try dsimp only
              all_goals rfl
             rw [e35]
             exact answersR rfl ⟨trivial, trivial⟩ (rfl) rfl
            ·have g33 : ¬ ((x0.Kind : Int) > 7) := of_decide_eq_false h33
             refine step_g1 rfl h33 (step_r rfl rfl (by decide) (step_g1 rfl h33 (step_r rfl rfl trivial (step_g1 rfl h33 (step_call rfl rfl rfl rfl (amountR_ok x0.Amount 0) rfl rfl rfl (step_g1 rfl h33 (step_r rfl rfl trivial (step_pickF rfl h33 rfl rfl (step_nil (seqK_n ?_))))))))))
             refine sem_cond rfl (fun h37 => ?_) (fun h37 => ?_)
             ·have g37 : ¬ (amountR x0.Amount 0 = true) := boo_f (not_t h37)
              refine sem_seq (sem_region rfl (step_r rfl rfl trivial (step_nil (seqK_n (sem_ret (seqK_r (blkK_r (seqK_r (lupK_r (blkK_r (cutW_r ?_)))))))))))
              refine seqK_r ?_
              have e38 : abilityR_L0 c a.Effects 0 = .inl false := by
               rewrite [← hI0, drop_cons hx0]
               rewrite [abilityR_L0]
               try dsimp only
               rewrite [if_neg g29, if_neg g33, if_neg g37]
               all_goals rfl
              have e39 : abilityR c a = false := by
               unfold abilityR
               try dsimp only
               rewrite [if_pos g2, if_pos g5, if_pos g8, if_pos g11, if_neg g14, if_neg g17, if_neg g20, if_neg g23, e38]
               try dsimp only
               all_goals rfl
              rw [e39]
              exact answersR rfl ⟨trivial, trivial⟩ (rfl) rfl
             ·have g37 : amountR x0.Amount 0 = true := (not_f h37)
              refine sem_skip (seqK_n (sem_seq ?_))
              refine sem_cutW (fun w_ : Unit => match w_ with | () => (⟨[(2, .ptr 0 0), (3, .ptr 1 0), (5, I k0), (6, .ptr 2 0)], [(0, .box [.pv (.slc c.Abilities.length false (c.Abilities.flatMap encGAbility)), .pv (.slc c.Auras.length false (c.Auras.flatMap encGAura)), .pv (.slc c.Foes.length false (c.Foes.flatMap encGFoe)), I c.Map.W, I c.Map.H, .pv (.slc c.Map.Wall.length false (encB c.Map.Wall)), I c.Door.X, I c.Door.Y, I c.Lair.X, I c.Lair.Y]), (1, .box [I a.Id, I a.Cast, I a.Cool, I a.Charges, I a.Range, I a.Cost, B a.Sight, .pv (.slc a.Effects.length false (a.Effects.flatMap encGEffect))]), (2, .box [I x0.Kind, I x0.Amount, I x0.Aura])], 3, [], 104, 0⟩ : St)) (fun w_ => abilityR_J79 x0 = .inr w_) ?_ ?_
              ·refine sem_seq (sem_region rfl (step_r rfl rfl (by decide) (step_r rfl rfl trivial (step_bin rfl rfl rfl rfl rfl trivial (step_r rfl rfl trivial ?_)))))
               refine step_gs rfl (fun h42 => ?_) (fun h42 => ?_)
               ·have g42 : ¬ ((x0.Kind : Int) = 4) := bne_t h42
                refine step_g1 rfl h42 (step_r rfl rfl (by decide) (step_g1 rfl h42 (step_r rfl rfl trivial (step_g1 rfl h42 (step_bin rfl rfl rfl rfl rfl trivial (step_pickT rfl h42 rfl rfl (step_nil (seqK_n ?_))))))))
                refine sem_cond rfl (fun h44 => ?_) (fun h44 => ?_)
                ·have g44 : ¬ ((x0.Aura : Int) = 0) := bne_t h44
                 refine sem_seq (sem_region rfl (step_r rfl rfl trivial (step_nil (seqK_n (sem_ret (cutW_r (seqK_r (blkK_r (seqK_r (lupK_r (blkK_r ?_)))))))))))
                 refine cutW_r (seqK_r ?_)
                 have e45 : abilityR_J79 x0 = .inl false := by
                  unfold abilityR_J79
                  try dsimp only
                  rewrite [if_neg g42, if_neg g44]
                  all_goals rfl
                 have e46 : abilityR_L0 c a.Effects 0 = .inl false := by
                  rewrite [← hI0, drop_cons hx0]
                  rewrite [abilityR_L0]
                  try dsimp only
                  rewrite [if_neg g29, if_neg g33, if_pos g37, e45]
                  try dsimp only
                  all_goals rfl
                 have e47 : abilityR c a = false := by
                  unfold abilityR
                  try dsimp only
                  rewrite [if_pos g2, if_pos g5, if_pos g8, if_pos g11, if_neg g14, if_neg g17, if_neg g20, if_neg g23, e46]
                  try dsimp only
                  all_goals rfl
                 rw [e47]
                 exact answersR rfl ⟨trivial, trivial⟩ (rfl) rfl
                ·have g44 : (x0.Aura : Int) = 0 := bne_f h44
                 refine sem_skip ?_
                 have e48 : abilityR_J79 x0 = .inr () := by
                  unfold abilityR_J79
                  try dsimp only
                  rewrite [if_neg g42, if_pos g44]
                  all_goals rfl
                 exact cutW_n () e48 (Trans.ren [] (by decide +kernel) (by decide +kernel) rfl ⟨⟨rfl, rfl⟩, ⟨rfl, rfl⟩, ⟨rfl, rfl⟩, ⟨rfl, rfl⟩, trivial⟩ ⟨⟨rfl, rfl, rfl⟩, ⟨rfl, rfl, rfl⟩, ⟨rfl, rfl, rfl⟩, trivial⟩ (by decide))
               ·have g42 : (x0.Kind : Int) = 4 := bne_f h42
                refine step_g0 rfl h42 rfl (step_g0 rfl h42 rfl (step_g0 rfl h42 rfl (step_pickF rfl h42 rfl rfl (step_nil (seqK_n (sem_condF rfl (sem_skip ?_)))))))
                have e49 : abilityR_J79 x0 = .inr () := by
                 unfold abilityR_J79
                 try dsimp only
                 rewrite [if_pos g42]
                 all_goals rfl
                exact cutW_n () e49 (Trans.ren [] (by decide +kernel) (by decide +kernel) rfl ⟨⟨rfl, rfl⟩, ⟨rfl, rfl⟩, ⟨rfl, rfl⟩, ⟨rfl, rfl⟩, trivial⟩ ⟨⟨rfl, rfl, rfl⟩, ⟨rfl, rfl, rfl⟩, ⟨rfl, rfl, rfl⟩, trivial⟩ (by decide))
              ·rintro ⟨⟩ (hJ40 : abilityR_J79 x0 = .inr ())
               show seqK _ _ _ .normal (⟨[(2, .ptr 0 0), (3, .ptr 1 0), (5, I k0), (6, .ptr 2 0)], [(0, .box [.pv (.slc c.Abilities.length false (c.Abilities.flatMap encGAbility)), .pv (.slc c.Auras.length false (c.Auras.flatMap encGAura)), .pv (.slc c.Foes.length false (c.Foes.flatMap encGFoe)), I c.Map.W, I c.Map.H, .pv (.slc c.Map.Wall.length false (encB c.Map.Wall)), I c.Door.X, I c.Door.Y, I c.Lair.X, I c.Lair.Y]), (1, .box [I a.Id, I a.Cast, I a.Cool, I a.Charges, I a.Range, I a.Cost, B a.Sight, .pv (.slc a.Effects.length false (a.Effects.flatMap encGEffect))]), (2, .box [I x0.Kind, I x0.Amount, I x0.Aura])], 3, [], 104, 0⟩ : St)
               refine seqK_n (sem_seq (sem_region rfl (step_r rfl rfl (by decide) (step_r rfl rfl trivial (step_bin rfl rfl rfl rfl rfl trivial (step_nil (seqK_n ?_)))))))
               refine sem_cond rfl (fun h50 => ?_) (fun h50 => ?_)
               ·have g50 : (x0.Kind : Int) = 4 := beq_t h50
                refine sem_seq (sem_region rfl (step_r (v := (.agg [_, _, _, _, _, _, _, _, _, _])) rfl rfl (Nat.le_of_ble_eq_true rfl) (step_r rfl rfl (by decide) (step_r rfl rfl trivial (step_call rfl rfl rfl rfl (getUR_ok c x0.Aura) rfl rfl rfl (step_r rfl rfl trivial (step_r rfl rfl trivial (step_r rfl rfl trivial (step_n (o := .box [_, _, _, _, _, _, _]) (nx' := 4) rfl rfl rfl trivial (step_store (H' := [(3, .box [_, _, _, _, _, _, _]), (0, .box [_, _, _, _, _, _, _, _, _, _]), (1, .box [_, _, _, _, _, _, _, _]), (2, .box [_, _, _])]) rfl rfl rfl rfl rfl rfl (Nat.le_of_ble_eq_true rfl) (.inl rfl) rfl (step_r rfl rfl trivial ?_)))))))))))
                refine step_nil (seqK_n (sem_seq (sem_region rfl (step_r rfl rfl trivial (step_r rfl rfl trivial (step_r rfl rfl trivial ?_))))))
                refine step_gs rfl (fun h53 => ?_) (fun h53 => ?_)
                ·have g53 : ¬ ((getUR c x0.Aura).2 = true) := boo_f (not_t h53)
                 refine step_g0 rfl h53 rfl (step_g0 rfl h53 rfl (step_g0 rfl h53 rfl (step_pickT rfl h53 rfl rfl (step_nil (seqK_n (sem_condT rfl (sem_seq (sem_region rfl (step_r rfl rfl trivial (step_nil (seqK_n ?_)))))))))))
                 refine sem_ret (blkK_r (seqK_r (lupK_r (blkK_r (cutW_r (seqK_r ?_))))))
                 have e54 : abilityR_L0 c a.Effects 0 = .inl false := by
                  rewrite [← hI0, drop_cons hx0]
                  rewrite [abilityR_L0]
                  try dsimp only
                  rewrite [if_neg g29, if_neg g33, if_pos g37, hJ40]
                  try dsimp only
                  rewrite [if_pos g50, if_neg g53]
                  all_goals rfl
                 have e55 : abilityR c a = false := by
                  unfold abilityR
                  try dsimp only
                  rewrite [if_pos g2, if_pos g5, if_pos g8, if_pos g11, if_neg g14, if_neg g17, if_neg g20, if_neg g23, e54]
                  try dsimp only
                  all_goals rfl
                 rw [e55]
                 exact answersR rfl ⟨trivial, trivial⟩ (rfl) rfl
                ·have g53 : (getUR c x0.Aura).2 = true := (not_f h53)
                 refine step_g1 rfl h53 (step_r rfl rfl (by decide) (step_g1 rfl h53 (step_r rfl rfl trivial (step_g1 rfl h53 (step_bin rfl rfl rfl rfl rfl trivial (step_pickF rfl h53 rfl rfl (step_nil (seqK_n ?_))))))))
                 refine sem_cond rfl (fun h57 => ?_) (fun h57 => ?_)
                 ·have g57 : ¬ ((x0.Amount : Int) = 0) := bne_t h57
                  refine sem_seq (sem_region rfl (step_r rfl rfl trivial (step_nil (seqK_n (sem_ret (blkK_r (seqK_r (lupK_r (blkK_r (cutW_r (seqK_r ?_)))))))))))
                  have e58 : abilityR_L0 c a.Effects 0 = .inl false := by
                   rewrite [← hI0, drop_cons hx0]
                   rewrite [abilityR_L0]
                   try dsimp only
                   rewrite [if_neg g29, if_neg g33, if_pos g37, hJ40]
                   try dsimp only
                   rewrite [if_pos g50, if_pos g53, if_neg g57]
                   all_goals rfl
                  have e59 : abilityR c a = false := by
                   unfold abilityR
                   try dsimp only
                   rewrite [if_pos g2, if_pos g5, if_pos g8, if_pos g11, if_neg g14, if_neg g17, if_neg g20, if_neg g23, e58]
                   try dsimp only
                   all_goals rfl
                  rw [e59]
                  exact answersR rfl ⟨trivial, trivial⟩ (rfl) rfl
                 ·have g57 : (x0.Amount : Int) = 0 := bne_f h57
                  refine sem_skip (blkK_n (seqK_n (sem_region rfl (step_r rfl rfl trivial (step_bin rfl rfl rfl rfl rfl trivial (step_r rfl rfl trivial (step_nil ?_)))))))
                  have e62 : abilityR_L0 c (a.Effects.drop k0) k0 = abilityR_L0 c (a.Effects.drop (k0 + 1)) (k0 + 1) := by
                   rewrite [drop_cons hx0]
                   rewrite [abilityR_L0]
                   try dsimp only
                   rewrite [if_neg g29, if_neg g33, if_pos g37, hJ40]
                   try dsimp only
                   rewrite [if_pos g50, if_pos g53, if_pos g57]
                   all_goals rfl
                  exact lup_againT (k0 + 1) ⟨e62.symm.trans hI0, hk0⟩ (by show a.Effects.length - (k0 + 1) < a.Effects.length - k0; omega) (Trans.ren [] (by decide +kernel) (by decide +kernel) rfl ⟨⟨rfl, rfl⟩, ⟨rfl, rfl⟩, ⟨congrArg (fun n => some (I n)) (wrapI (k := k0) (by first | omega | (simp; omega))), rfl⟩, trivial⟩ ⟨⟨rfl, rfl, rfl⟩, ⟨rfl, rfl, rfl⟩, trivial⟩ (by decide))
               ·have g50 : ¬ ((x0.Kind : Int) = 4) := beq_f h50
                refine sem_skip (blkK_n (seqK_n (sem_region rfl (step_r rfl rfl trivial (step_bin rfl rfl rfl rfl rfl trivial (step_r rfl rfl trivial (step_nil ?_)))))))
                have e65 : abilityR_L0 c (a.Effects.drop k0) k0 = abilityR_L0 c (a.Effects.drop (k0 + 1)) (k0 + 1) := by
                 rewrite [drop_cons hx0]
                 rewrite [abilityR_L0]
                 try dsimp only
                 rewrite [if_neg g29, if_neg g33, if_pos g37, hJ40]
                 try dsimp only
                 rewrite [if_neg g50]
                 all_goals rfl
                exact lup_againT (k0 + 1) ⟨e65.symm.trans hI0, hk0⟩ (by show a.Effects.length - (k0 + 1) < a.Effects.length - k0; omega) (Trans.ren [] (by decide +kernel) (by decide +kernel) rfl ⟨⟨rfl, rfl⟩, ⟨rfl, rfl⟩, ⟨congrArg (fun n => some (I n)) (wrapI (k := k0) (by first | omega | (simp; omega))), rfl⟩, trivial⟩ ⟨⟨rfl, rfl, rfl⟩, ⟨rfl, rfl, rfl⟩, trivial⟩ (by decide))
          ·have g27 : ¬ ((k0 : Int) < a.Effects.length) := of_decide_eq_false h27
           have hk0 : k0 = a.Effects.length := by omega
           refine sem_exit (seqK_e (lupK_e (blkK_t rfl ?_)))
           have e66 : abilityR_L0 c a.Effects 0 = .inr () := by
            rewrite [← hI0, hk0, List.drop_length]
            rewrite [abilityR_L0]
            try dsimp only
            all_goals rfl
           exact cutW_n () e66 (Trans.ren [] (by decide +kernel) (by decide +kernel) rfl trivial trivial (by decide))
         ·rintro ⟨⟩ (hJ25 : abilityR_L0 c a.Effects 0 = .inr ())
          show seqK _ _ _ .normal (⟨[], [], 0, [], 104, 0⟩ : St)
          refine seqK_n (sem_seq (sem_region rfl (step_r rfl rfl trivial (step_nil (seqK_n (sem_ret ?_))))))
          have e67 : abilityR c a = true := by
           unfold abilityR
           try dsimp only
           rewrite [if_pos g2, if_pos g5, if_pos g8, if_pos g11, if_neg g14, if_neg g17, if_neg g20, if_neg g23, hJ25]
           try dsimp only
           all_goals rfl
          rw [e67]
          exact answersR rfl ⟨trivial, trivial⟩ (rfl) rfl

def auraR_J5 (a : GAura) : Bool :=
  if (a.Kind : Int) = 1 then true else ((a.Kind : Int) == 2)
def auraR_J13 (a : GAura) : Bool :=
  if (a.Kind : Int) = 3 then true else ((a.Kind : Int) == 4)
def auraR_J45 (a : GAura) (ticks_5 : Bool) : Sum Bool Unit :=
  if ticks_5 = true then (if amountR a.Every 1 = true then (if ticks_5 = true then .inr () else if (a.Every : Int) = 0 then .inr () else .inl false) else .inl false) else if ticks_5 = true then .inr () else if (a.Every : Int) = 0 then .inr () else .inl false
def auraR (a : GAura) : Bool :=
  (let ticks_5 := auraR_J5 a; (let hundred_13 := auraR_J13 a; if (a.Kind : Int) < 1 then false else if (a.Kind : Int) > 6 then false else if amountR a.Ticks 1 = true then (if (a.Stacks : Int) < 1 then false else if (a.Stacks : Int) > 100 then false else (match auraR_J45 a ticks_5 with
    | .inl r_ => r_
    | .inr () => if hundred_13 = true then (if (a.Amount : Int) ≥ (-100) then (decide ((a.Amount : Int) ≤ 1000)) else false) else (amountR a.Amount 0))) else false))
theorem auraR_ok (a : GAura) : Ok Try.prog 79 [aGAura a] [] (B (auraR a)) [] [] := by
 refine ok_of_sem Try.func79 rfl ?_
 show Walks Try.prog _ _ ⟨[(0, aGAura a)], [], 0, [], 73, 0⟩
 refine sem_seq (sem_region rfl (step_n (o := .box [_, _, _, _, _, _, _]) (nx' := 1) rfl rfl rfl trivial (step_r rfl rfl trivial (step_nil (seqK_n (sem_seq ?_))))))
 refine sem_cutW (fun ticks_5 : Bool => (⟨[(1, .ptr 0 0), (3, B ticks_5)], [(0, .box [I a.Id, I a.Kind, I a.Ticks, I a.Every, I a.Stacks, I a.Amount, B a.Harm])], 1, [], 73, 0⟩ : St)) (fun w_ => auraR_J5 a = w_) ?_ ?_
 ·refine sem_region rfl (step_r rfl rfl (by decide) (step_r rfl rfl trivial (step_bin rfl rfl rfl rfl rfl trivial (step_r rfl rfl trivial ?_))))
  refine step_gs rfl (fun h3 => ?_) (fun h3 => ?_)
  ·have g3 : (a.Kind : Int) = 1 := beq_t h3
   refine step_g0 rfl h3 rfl (step_g0 rfl h3 rfl (step_g0 rfl h3 rfl (step_pickT rfl h3 rfl rfl (step_r rfl rfl trivial (step_nil ?_)))))
   have e4 : auraR_J5 a = true := by
    unfold auraR_J5
    try dsimp only
    rewrite [if_pos g3]
    all_goals rfl
   exact cutW_n true e4 (Trans.ren [] (by decide +kernel) (by decide +kernel) rfl ⟨⟨rfl, rfl⟩, ⟨rfl, rfl⟩, trivial⟩ ⟨⟨rfl, rfl, rfl⟩, trivial⟩ (by decide))
  ·have g3 : ¬ ((a.Kind : Int) = 1) := beq_f h3
   refine step_g1 rfl h3 (step_r rfl rfl (by decide) (step_g1 rfl h3 (step_r rfl rfl trivial (step_g1 rfl h3 (step_bin rfl rfl rfl rfl rfl trivial (step_pickF rfl h3 rfl rfl (step_r rfl rfl trivial (step_nil ?_))))))))
   have e6 : auraR_J5 a = ((a.Kind : Int) == 2) := by
    unfold auraR_J5
    try dsimp only
    rewrite [if_neg g3]
    all_goals rfl
   exact cutW_n ((a.Kind : Int) == 2) e6 (Trans.ren [] (by decide +kernel) (by decide +kernel) rfl ⟨⟨rfl, rfl⟩, ⟨rfl, rfl⟩, trivial⟩ ⟨⟨rfl, rfl, rfl⟩, trivial⟩ (by decide))
 ·rintro ticks_5 (hJ1 : auraR_J5 a = ticks_5)
  show seqK _ _ _ .normal (⟨[(1, .ptr 0 0), (3, B ticks_5)], [(0, .box [I a.Id, I a.Kind, I a.Ticks, I a.Every, I a.Stacks, I a.Amount, B a.Harm])], 1, [], 73, 0⟩ : St)
  refine seqK_n (sem_seq ?_)
  refine sem_cutW (fun hundred_13 : Bool => (⟨[(1, .ptr 0 0), (3, B ticks_5), (4, B hundred_13)], [(0, .box [I a.Id, I a.Kind, I a.Ticks, I a.Every, I a.Stacks, I a.Amount, B a.Harm])], 1, [], 73, 0⟩ : St)) (fun w_ => auraR_J13 a = w_) ?_ ?_
  ·refine sem_region rfl (step_r rfl rfl (by decide) (step_r rfl rfl trivial (step_bin rfl rfl rfl rfl rfl trivial (step_r rfl rfl trivial ?_))))
   refine step_gs rfl (fun h9 => ?_) (fun h9 => ?_)
   ·have g9 : (a.Kind : Int) = 3 := beq_t h9
    refine step_g0 rfl h9 rfl (step_g0 rfl h9 rfl (step_g0 rfl h9 rfl (step_pickT rfl h9 rfl rfl (step_r rfl rfl trivial (step_nil ?_)))))
    have e10 : auraR_J13 a = true := by
     unfold auraR_J13
     try dsimp only
     rewrite [if_pos g9]
     all_goals rfl
    exact cutW_n true e10 (Trans.ren [] (by decide +kernel) (by decide +kernel) rfl ⟨⟨rfl, rfl⟩, ⟨rfl, rfl⟩, ⟨rfl, rfl⟩, trivial⟩ ⟨⟨rfl, rfl, rfl⟩, trivial⟩ (by decide))
   ·have g9 : ¬ ((a.Kind : Int) = 3) := beq_f h9
    refine step_g1 rfl h9 (step_r rfl rfl (by decide) (step_g1 rfl h9 (step_r rfl rfl trivial (step_g1 rfl h9 (step_bin rfl rfl rfl rfl rfl trivial (step_pickF rfl h9 rfl rfl (step_r rfl rfl trivial (step_nil ?_))))))))
    have e12 : auraR_J13 a = ((a.Kind : Int) == 4) := by
     unfold auraR_J13
     try dsimp only
     rewrite [if_neg g9]
     all_goals rfl
    exact cutW_n ((a.Kind : Int) == 4) e12 (Trans.ren [] (by decide +kernel) (by decide +kernel) rfl ⟨⟨rfl, rfl⟩, ⟨rfl, rfl⟩, ⟨rfl, rfl⟩, trivial⟩ ⟨⟨rfl, rfl, rfl⟩, trivial⟩ (by decide))
  ·rintro hundred_13 (hJ7 : auraR_J13 a = hundred_13)
   show seqK _ _ _ .normal (⟨[(1, .ptr 0 0), (3, B ticks_5), (4, B hundred_13)], [(0, .box [I a.Id, I a.Kind, I a.Ticks, I a.Every, I a.Stacks, I a.Amount, B a.Harm])], 1, [], 73, 0⟩ : St)
   refine seqK_n (sem_seq (sem_seq (sem_region rfl (step_r rfl rfl (by decide) (step_r rfl rfl trivial (step_bin rfl rfl rfl rfl rfl trivial (step_r rfl rfl trivial ?_)))))))
   refine step_gs rfl (fun h14 => ?_) (fun h14 => ?_)
   ·have g14 : (a.Kind : Int) < 1 := of_decide_eq_true h14
    refine step_g0 rfl h14 rfl (step_g0 rfl h14 rfl (step_g0 rfl h14 rfl (step_pickT rfl h14 rfl rfl (step_r rfl rfl trivial (step_gf rfl rfl (step_gf rfl rfl (step_gf rfl rfl (step_gf rfl rfl (step_r rfl rfl trivial (step_r rfl rfl trivial (step_gf rfl rfl ?_)))))))))))
    refine step_gf rfl rfl (step_gf rfl rfl (step_r rfl rfl trivial (step_r rfl rfl trivial (step_gf rfl rfl (step_gf rfl rfl (step_gf rfl rfl (step_r rfl rfl trivial (step_nil (seqK_n (sem_condT rfl (sem_seq ?_)))))))))))
    refine sem_region rfl (step_r rfl rfl trivial (step_nil (seqK_n (sem_ret (seqK_r ?_)))))
    have e15 : auraR a = false := by
     unfold auraR
     try dsimp only
     rewrite [hJ1]
     try dsimp only
     rewrite [hJ7]
     try dsimp only
     rewrite [if_pos g14]
     all_goals rfl
    rw [e15]
    exact answersR rfl ⟨trivial, trivial⟩ (rfl) rfl
   ·have g14 : ¬ ((a.Kind : Int) < 1) := of_decide_eq_false h14
    refine step_g1 rfl h14 (step_r rfl rfl (by decide) (step_g1 rfl h14 (step_r rfl rfl trivial (step_g1 rfl h14 (step_bin rfl rfl rfl rfl rfl trivial (step_pickF rfl h14 rfl rfl (step_r rfl rfl trivial ?_)))))))
    refine step_gs rfl (fun h17 => ?_) (fun h17 => ?_)
    ·have g17 : (a.Kind : Int) > 6 := of_decide_eq_true h17
     refine step_g0 rfl h17 rfl (step_g0 rfl h17 rfl (step_g0 rfl h17 rfl (step_g0 rfl h17 rfl (step_pickT rfl h17 rfl rfl (step_r rfl rfl trivial (step_gf rfl rfl (step_gf rfl rfl (step_gf rfl rfl (step_r rfl rfl trivial (step_r rfl rfl trivial (step_gf rfl rfl ?_)))))))))))
     refine step_gf rfl rfl (step_gf rfl rfl (step_r rfl rfl trivial (step_nil (seqK_n (sem_condT rfl (sem_seq (sem_region rfl (step_r rfl rfl trivial (step_nil (seqK_n (sem_ret ?_)))))))))))
     refine seqK_r ?_
     have e18 : auraR a = false := by
      unfold auraR
      try dsimp only
      rewrite [hJ1]
      try dsimp only
      rewrite [hJ7]
      try dsimp only
      rewrite [if_neg g14, if_pos g17]
      all_goals rfl
     rw [e18]
     exact answersR rfl ⟨trivial, trivial⟩ (rfl) rfl
    ·have g17 : ¬ ((a.Kind : Int) > 6) := of_decide_eq_false h17
     refine step_g1 rfl h17 (step_r rfl rfl (by decide) (step_g1 rfl h17 (step_r rfl rfl trivial (step_g1 rfl h17 (step_call rfl rfl rfl rfl (amountR_ok a.Ticks 1) rfl rfl rfl (step_g1 rfl h17 (step_r rfl rfl trivial (step_pickF rfl h17 rfl rfl (step_r rfl rfl trivial ?_)))))))))
     refine step_gs rfl (fun h20 => ?_) (fun h20 => ?_)
     ·have g20 : ¬ (amountR a.Ticks 1 = true) := boo_f (not_t h20)
      refine step_g0 rfl h20 rfl (step_g0 rfl h20 rfl (step_g0 rfl h20 rfl (step_pickT rfl h20 rfl rfl (step_r rfl rfl trivial (step_gf rfl rfl (step_gf rfl rfl (step_gf rfl rfl (step_r rfl rfl trivial (step_nil (seqK_n (sem_condT rfl ?_)))))))))))
      refine sem_seq (sem_region rfl (step_r rfl rfl trivial (step_nil (seqK_n (sem_ret (seqK_r ?_))))))
      have e21 : auraR a = false := by
       unfold auraR
       try dsimp only
       rewrite [hJ1]
       try dsimp only
       rewrite [hJ7]
       try dsimp only
       rewrite [if_neg g14, if_neg g17, if_neg g20]
       all_goals rfl
      rw [e21]
      exact answersR rfl ⟨trivial, trivial⟩ (rfl) rfl
     ·have g20 : amountR a.Ticks 1 = true := (not_f h20)
      refine step_g1 rfl h20 (step_r rfl rfl (by decide) (step_g1 rfl h20 (step_r rfl rfl trivial (step_g1 rfl h20 (step_bin rfl rfl rfl rfl rfl trivial (step_pickF rfl h20 rfl rfl (step_r rfl rfl trivial ?_)))))))
      refine step_gs rfl (fun h23 => ?_) (fun h23 => ?_)
      ·have g23 : (a.Stacks : Int) < 1 := of_decide_eq_true h23
       refine step_g0 rfl h23 rfl (step_g0 rfl h23 rfl (step_g0 rfl h23 rfl (step_pickT rfl h23 rfl rfl (step_nil (seqK_n (sem_condT rfl (sem_seq (sem_region rfl (step_r rfl rfl trivial (step_nil (seqK_n ?_)))))))))))
       refine sem_ret (seqK_r ?_)
       have e24 : auraR a = false := by
        unfold auraR
        try dsimp only
        rewrite [hJ1]
        try dsimp only
        rewrite [hJ7]
        try dsimp only
        rewrite [if_neg g14, if_neg g17, if_pos g20, if_pos g23]
        all_goals rfl
       rw [e24]
       exact answersR rfl ⟨trivial, trivial⟩ (rfl) rfl
      ·have g23 : ¬ ((a.Stacks : Int) < 1) := of_decide_eq_false h23
       refine step_g1 rfl h23 (step_r rfl rfl (by decide) (step_g1 rfl h23 (step_r rfl rfl trivial (step_g1 rfl h23 (step_bin rfl rfl rfl rfl rfl trivial (step_pickF rfl h23 rfl rfl (step_nil (seqK_n ?_))))))))
       refine sem_cond rfl (fun h26 => ?_) (fun h26 => ?_)
       ·have g26 : (a.Stacks : Int) > 100 := of_decide_eq_true h26
        refine sem_seq (sem_region rfl (step_r rfl rfl trivial (step_nil (seqK_n (sem_ret (seqK_r ?_))))))
        have e27 : auraR a = false := by
         unfold auraR
         try dsimp only
         rewrite [hJ1]
         try dsimp only
         rewrite [hJ7]
         try dsimp only
         rewrite [if_neg g14, if_neg g17, if_pos g20, if_neg g23, if_pos g26]
         all_goals rfl
        rw [e27]
        exact answersR rfl ⟨trivial, trivial⟩ (rfl) rfl
       ·have g26 : ¬ ((a.Stacks : Int) > 100) := of_decide_eq_false h26
        refine sem_skip (seqK_n (sem_seq ?_))
        refine sem_cutW (fun w_ : Unit => match w_ with | () => (⟨[(1, .ptr 0 0), (4, B hundred_13)], [(0, .box [I a.Id, I a.Kind, I a.Ticks, I a.Every, I a.Stacks, I a.Amount, B a.Harm])], 1, [], 73, 0⟩ : St)) (fun w_ => auraR_J45 a ticks_5 = .inr w_) ?_ ?_
        ·refine sem_seq (sem_region rfl (step_r rfl rfl trivial (step_r rfl rfl trivial ?_)))
         refine step_gs rfl (fun h30 => ?_) (fun h30 => ?_)
         ·have g30 : ticks_5 = true := h30
          refine step_g1 rfl h30 (step_r rfl rfl (by decide) (step_g1 rfl h30 (step_r rfl rfl trivial (step_g1 rfl h30 (step_call rfl rfl rfl rfl (amountR_ok a.Every 1) rfl rfl rfl (step_g1 rfl h30 (step_r rfl rfl trivial (step_pickT rfl h30 rfl rfl (step_r rfl rfl trivial ?_)))))))))
          refine step_gs rfl (fun h32 => ?_) (fun h32 => ?_)
          ·have g32 : ¬ (amountR a.Every 1 = true) := boo_f (not_t h32)
           refine step_g0 rfl h32 rfl (step_g0 rfl h32 rfl (step_g0 rfl h32 rfl (step_gf rfl rfl (step_gf rfl rfl (step_gf rfl rfl (step_g0 rfl h32 rfl (step_pickT rfl h32 rfl rfl (step_nil (seqK_n (sem_condT rfl (sem_seq ?_)))))))))))
           refine sem_region rfl (step_r rfl rfl trivial (step_nil (seqK_n (sem_ret (cutW_r (seqK_r ?_))))))
           have e33 : auraR_J45 a ticks_5 = .inl false := by
            unfold auraR_J45
            try dsimp only
            rewrite [if_pos g30, if_neg g32]
            all_goals rfl
           have e34 : auraR a = false := by
            unfold auraR
            try dsimp only
            rewrite [hJ1]
            try dsimp only
            rewrite [hJ7]
            try dsimp only
            rewrite [if_neg g14, if_neg g17, if_pos g20, if_neg g23, if_neg g26, e33]
            try dsimp only
            all_goals rfl
           rw [e34]
           exact answersR rfl ⟨trivial, trivial⟩ (rfl) rfl
          ·have g32 : amountR a.Every 1 = true := (not_f h32)
           refine step_g1 rfl h32 (step_r rfl rfl trivial (step_g1 rfl h32 (step_r rfl rfl trivial (step_g1 rfl h32 (step_r rfl rfl trivial ?_)))))
           refine step_gs rfl (fun h36 => ?_) (fun h36 => ?_)
           ·have g36 : ¬ (ticks_5 = true) := boo_f (not_t h36)
            refine step_g1 rfl h36 (step_r rfl rfl (by decide) (step_g1 rfl h36 (step_r rfl rfl trivial (step_g1 rfl h36 (step_bin rfl rfl rfl rfl rfl trivial (step_g1 rfl h32 (step_pickT rfl h36 rfl rfl (step_pickF rfl h32 rfl rfl (step_nil (seqK_n ?_))))))))))
            refine sem_cond rfl (fun h38 => ?_) (fun h38 => ?_)
            ·have g38 : ¬ ((a.Every : Int) = 0) := bne_t h38
             refine sem_seq (sem_region rfl (step_r rfl rfl trivial (step_nil (seqK_n (sem_ret (cutW_r (seqK_r ?_)))))))
             have e39 : auraR_J45 a ticks_5 = .inl false := by
              unfold auraR_J45
              try dsimp only
              rewrite [if_pos g30, if_pos g32, if_neg g36, if_neg g38]
              all_goals rfl
             have e40 : auraR a = false := by
              unfold auraR
              try dsimp only
              rewrite [hJ1]
              try dsimp only
              rewrite [hJ7]
              try dsimp only
              rewrite [if_neg g14, if_neg g17, if_pos g20, if_neg g23, if_neg g26, e39]
              try dsimp only
              all_goals rfl
             rw [e40]
             exact answersR rfl ⟨trivial, trivial⟩ (rfl) rfl
            ·have g38 : (a.Every : Int) = 0 := bne_f h38
             refine sem_skip ?_
             have e41 : auraR_J45 a ticks_5 = .inr () := by
              unfold auraR_J45
              try dsimp only
              rewrite [if_pos g30, if_pos g32, if_neg g36, if_pos g38]
              all_goals rfl
             exact cutW_n () e41 (Trans.ren [] (by decide +kernel) (by decide +kernel) rfl ⟨⟨rfl, rfl⟩, ⟨rfl, rfl⟩, trivial⟩ ⟨⟨rfl, rfl, rfl⟩, trivial⟩ (by decide))
           ·have g36 : ticks_5 = true := (not_f h36)
            refine step_g0 rfl h36 rfl (step_g0 rfl h36 rfl (step_g0 rfl h36 rfl (step_g1 rfl h32 (step_pickF rfl h36 rfl rfl (step_pickF rfl h32 rfl rfl (step_nil (seqK_n (sem_condF rfl (sem_skip ?_)))))))))
            have e42 : auraR_J45 a ticks_5 = .inr () := by
             unfold auraR_J45
             try dsimp only
             rewrite [if_pos g30, if_pos g32, if_pos g36]
             all_goals rfl
            exact cutW_n () e42 (Trans.ren [] (by decide +kernel) (by decide +kernel) rfl ⟨⟨rfl, rfl⟩, ⟨rfl, rfl⟩, trivial⟩ ⟨⟨rfl, rfl, rfl⟩, trivial⟩ (by decide))
         ·have g30 : ¬ (ticks_5 = true) := boo_f h30
          refine step_g0 rfl h30 rfl (step_g0 rfl h30 rfl (step_g0 rfl h30 rfl (step_g0 rfl h30 rfl (step_pickF rfl h30 rfl rfl (step_r rfl rfl trivial (step_gt rfl (step_r rfl rfl trivial (step_gt rfl (step_r rfl rfl trivial (step_gt rfl (step_r rfl rfl trivial ?_)))))))))))
          refine step_gs rfl (fun h44 => ?_) (fun h44 => ?_)
          ·have g44 : ¬ (ticks_5 = true) := boo_f (not_t h44)
           refine step_g1 rfl h44 (step_r rfl rfl (by decide) (step_g1 rfl h44 (step_r rfl rfl trivial (step_g1 rfl h44 (step_bin rfl rfl rfl rfl rfl trivial (step_gt rfl (step_pickT rfl h44 rfl rfl (step_r rfl rfl trivial (step_nil (seqK_n ?_))))))))))
           refine sem_cond rfl (fun h46 => ?_) (fun h46 => ?_)
           ·have g46 : ¬ ((a.Every : Int) = 0) := bne_t h46
            refine sem_seq (sem_region rfl (step_r rfl rfl trivial (step_nil (seqK_n (sem_ret (cutW_r (seqK_r ?_)))))))
            have e47 : auraR_J45 a ticks_5 = .inl false := by
             unfold auraR_J45
             try dsimp only
             rewrite [if_neg g30, if_neg g44, if_neg g46]
             all_goals rfl
            have e48 : auraR a = false := by
             unfold auraR
             try dsimp only
             rewrite [hJ1]
             try dsimp only
             rewrite [hJ7]
             try dsimp only
             rewrite [if_neg g14, if_neg g17, if_pos g20, if_neg g23, if_neg g26, e47]
             try dsimp only
             all_goals rfl
            rw [e48]
            exact answersR rfl ⟨trivial, trivial⟩ (rfl) rfl
           ·have g46 : (a.Every : Int) = 0 := bne_f h46
            refine sem_skip ?_
            have e49 : auraR_J45 a ticks_5 = .inr () := by
             unfold auraR_J45
             try dsimp only
             rewrite [if_neg g30, if_neg g44, if_pos g46]
             all_goals rfl
            exact cutW_n () e49 (Trans.ren [] (by decide +kernel) (by decide +kernel) rfl ⟨⟨rfl, rfl⟩, ⟨rfl, rfl⟩, trivial⟩ ⟨⟨rfl, rfl, rfl⟩, trivial⟩ (by decide))
          ·have g44 : ticks_5 = true := (not_f h44)
           refine step_g0 rfl h44 rfl (step_g0 rfl h44 rfl (step_g0 rfl h44 rfl (step_gt rfl (step_pickF rfl h44 rfl rfl (step_r rfl rfl trivial (step_nil (seqK_n (sem_condF rfl (sem_skip ?_)))))))))
           have e50 : auraR_J45 a ticks_5 = .inr () := by
            unfold auraR_J45
            try dsimp only
            rewrite [if_neg g30, if_pos g44]
            all_goals rfl
           exact cutW_n () e50 (Trans.ren [] (by decide +kernel) (by decide +kernel) rfl ⟨⟨rfl, rfl⟩, ⟨rfl, rfl⟩, trivial⟩ ⟨⟨rfl, rfl, rfl⟩, trivial⟩ (by decide))
        ·rintro ⟨⟩ (hJ28 : auraR_J45 a ticks_5 = .inr ())
         show seqK _ _ _ .normal (⟨[(1, .ptr 0 0), (4, B hundred_13)], [(0, .box [I a.Id, I a.Kind, I a.Ticks, I a.Every, I a.Stacks, I a.Amount, B a.Harm])], 1, [], 73, 0⟩ : St)
         refine seqK_n (sem_seq (sem_seq (sem_region rfl (step_r rfl rfl trivial (step_nil (seqK_n ?_))))))
         refine sem_cond rfl (fun h52 => ?_) (fun h52 => ?_)
         ·have g52 : hundred_13 = true := h52
          refine sem_seq (sem_region rfl (step_r rfl rfl (by decide) (step_r rfl rfl trivial (step_bin rfl rfl rfl rfl rfl trivial (step_r rfl rfl trivial ?_)))))
          refine step_gs rfl (fun h54 => ?_) (fun h54 => ?_)
          ·have g54 : (a.Amount : Int) ≥ (-100) := of_decide_eq_true h54
           refine step_g1 rfl h54 (step_r rfl rfl (by decide) (step_g1 rfl h54 (step_r rfl rfl trivial (step_g1 rfl h54 (step_bin rfl rfl rfl rfl rfl trivial (step_pickT rfl h54 rfl rfl (step_r rfl rfl trivial (step_nil (seqK_n (sem_ret (seqK_r ?_)))))))))))
           have e56 : auraR a = (decide ((a.Amount : Int) ≤ 1000)) := by
            unfold auraR
            try dsimp only
            rewrite [hJ1]
            try dsimp only
            rewrite [hJ7]
            try dsimp only
            rewrite [if_neg g14, if_neg g17, if_pos g20, if_neg g23, if_neg g26, hJ28]
            try dsimp only
            rewrite [if_pos g52, if_pos g54]
            all_goals rfl
           rw [e56]
           exact answersR rfl ⟨trivial, trivial⟩ (rfl) rfl
          ·have g54 : ¬ ((a.Amount : Int) ≥ (-100)) := of_decide_eq_false h54
           refine step_g0 rfl h54 rfl (step_g0 rfl h54 rfl (step_g0 rfl h54 rfl (step_pickF rfl h54 rfl rfl (step_r rfl rfl trivial (step_nil (seqK_n (sem_ret (seqK_r ?_))))))))
           have e57 : auraR a = false := by
            unfold auraR
            try dsimp only
            rewrite [hJ1]
            try dsimp only
            rewrite [hJ7]
            try dsimp only
            rewrite [if_neg g14, if_neg g17, if_pos g20, if_neg g23, if_neg g26, hJ28]
            try dsimp only
            rewrite [if_pos g52, if_neg g54]
            all_goals rfl
           rw [e57]
           exact answersR rfl ⟨trivial, trivial⟩ (rfl) rfl
         ·have g52 : ¬ (hundred_13 = true) := boo_f h52
          refine sem_skip (seqK_n (sem_seq (sem_region rfl (step_r rfl rfl (by decide) (step_r rfl rfl trivial (step_call rfl rfl rfl rfl (amountR_ok a.Amount 0) rfl rfl rfl (step_r rfl rfl trivial (step_nil (seqK_n (sem_ret ?_))))))))))
          have e59 : auraR a = (amountR a.Amount 0) := by
           unfold auraR
           try dsimp only
           rewrite [hJ1]
           try dsimp only
           rewrite [hJ7]
           try dsimp only
           rewrite [if_neg g14, if_neg g17, if_pos g20, if_neg g23, if_neg g26, hJ28]
           try dsimp only
           rewrite [if_neg g52]
           all_goals rfl
          rw [e59]
          exact answersR rfl ⟨trivial, trivial⟩ (rfl) rfl

def lineR_J7 (l : GLine) : Sum Bool Unit :=
  if (l.Phase : Int) < 1 then .inl false else if (l.Phase : Int) > 100 then .inl false else if (l.When : Int) < 1 then .inl false else if (l.When : Int) > 3 then .inl false else if (l.Do : Int) < 1 then .inl false else if (l.Do : Int) > 4 then .inl false else if amountR l.Arg 1 = true then (if (l.When : Int) = 1 then (if (l.Arg : Int) > 100 then .inl false else if amountR l.Value 0 = true then .inr () else .inl false) else if amountR l.Value 0 = true then .inr () else .inl false) else .inl false
def lineR_J60 (l : GLine) : Bool :=
  if (l.Value : Int) ≥ 1 then (decide ((l.Value : Int) ≤ 100)) else false
def lineR (c : GContent) (l : GLine) : Bool :=
  (match lineR_J7 l with
    | .inl r_ => r_
    | .inr () => if (l.Do : Int) = 1 then (let t4_60 := lineR_J60 l; t4_60) else if (l.Do : Int) = 2 then (getAR c l.Value).2 else true)
theorem lineR_ok (c : GContent) (l : GLine) (hF : Few9 c) : Ok Try.prog 96 [aGContent c, aGLine l] [] (B (lineR c l)) [] [] := by
 refine Ok.len fun hlen => ?_
 have hl_c_Abilities : c.Abilities.length ≤ maxLen := hlen _ (by simp [lensL, lens, lensP])
 have hl_c_Auras : c.Auras.length ≤ maxLen := hlen _ (by simp [lensL, lens, lensP])
 have hl_c_Foes : c.Foes.length ≤ maxLen := hlen _ (by simp [lensL, lens, lensP])
 have hl_c_Map_Wall : c.Map.Wall.length ≤ maxLen := hlen _ (by simp [lensL, lens, lensP])
 unfold maxLen at hl_c_Abilities hl_c_Auras hl_c_Foes hl_c_Map_Wall
 refine ok_of_sem Try.func96 rfl ?_
 show Walks Try.prog _ _ ⟨[(0, aGContent c), (1, aGLine l)], [], 0, [], 79, 0⟩
 refine sem_seq (sem_region rfl (step_n (o := .box [_, _, _, _, _, _, _, _, _, _]) (nx' := 1) rfl rfl rfl trivial (step_n (o := .box [_, _, _, _, _]) (nx' := 2) rfl rfl rfl trivial (step_r rfl rfl trivial (step_nil (seqK_n (sem_seq ?_)))))))
 refine sem_cutW (fun w_ : Unit => match w_ with | () => (⟨[(2, .ptr 0 0), (3, .ptr 1 0)], [(0, .box [.pv (.slc c.Abilities.length false (c.Abilities.flatMap encGAbility)), .pv (.slc c.Auras.length false (c.Auras.flatMap encGAura)), .pv (.slc c.Foes.length false (c.Foes.flatMap encGFoe)), I c.Map.W, I c.Map.H, .pv (.slc c.Map.Wall.length false (encB c.Map.Wall)), I c.Door.X, I c.Door.Y, I c.Lair.X, I c.Lair.Y]), (1, .box [I l.Phase, I l.When, I l.Arg, I l.Do, I l.Value])], 2, [], 79, 0⟩ : St)) (fun w_ => lineR_J7 l = .inr w_) ?_ ?_
 ·refine sem_seq (sem_region rfl (step_r rfl rfl (by decide) (step_r rfl rfl trivial (step_bin rfl rfl rfl rfl rfl trivial (step_r rfl rfl trivial ?_)))))
  refine step_gs rfl (fun h3 => ?_) (fun h3 => ?_)
  ·have g3 : (l.Phase : Int) < 1 := of_decide_eq_true h3
   refine step_g0 rfl h3 rfl (step_g0 rfl h3 rfl (step_g0 rfl h3 rfl (step_pickT rfl h3 rfl rfl (step_r rfl rfl trivial (step_gf rfl rfl (step_gf rfl rfl (step_gf rfl rfl (step_r rfl rfl trivial (step_r rfl rfl trivial (step_gf rfl rfl (step_gf rfl rfl ?_)))))))))))
   refine step_gf rfl rfl (step_r rfl rfl trivial (step_r rfl rfl trivial (step_gf rfl rfl (step_gf rfl rfl (step_gf rfl rfl (step_r rfl rfl trivial (step_r rfl rfl trivial (step_gf rfl rfl (step_gf rfl rfl (step_gf rfl rfl (step_r rfl rfl trivial ?_)))))))))))
   refine step_r rfl rfl trivial (step_gf rfl rfl (step_gf rfl rfl (step_gf rfl rfl (step_gf rfl rfl (step_r rfl rfl trivial (step_r rfl rfl trivial (step_gf rfl rfl (step_gf rfl rfl (step_gf rfl rfl (step_gf rfl rfl (step_gf rfl rfl ?_)))))))))))
   refine step_gf rfl rfl (step_gf rfl rfl (step_gf rfl rfl (step_r rfl rfl trivial (step_r rfl rfl trivial (step_gf rfl rfl (step_gf rfl rfl (step_gf rfl rfl (step_gf rfl rfl (step_r rfl rfl trivial (step_nil (seqK_n ?_)))))))))))
   refine sem_condT rfl (sem_seq (sem_region rfl (step_r rfl rfl trivial (step_nil (seqK_n (sem_ret (cutW_r (seqK_r ?_))))))))
   have e4 : lineR_J7 l = .inl false := by
    unfold lineR_J7
    try dsimp only
    rewrite [if_pos g3]
    all_goals rfl
   have e5 : lineR c l = false := by
    unfold lineR
    try dsimp only
    rewrite [e4]
    try dsimp only
    all_goals rfl
   rw [e5]
   exact answersR rfl ⟨trivial, trivial⟩ (rfl) rfl
  ·have g3 : ¬ ((l.Phase : Int) < 1) := of_decide_eq_false h3
   refine step_g1 rfl h3 (step_r rfl rfl (by decide) (step_g1 rfl h3 (step_r rfl rfl trivial (step_g1 rfl h3 (step_bin rfl rfl rfl rfl rfl trivial (step_pickF rfl h3 rfl rfl (step_r rfl rfl trivial ?_)))))))
   refine step_gs rfl (fun h7 => ?_) (fun h7 => ?_)
   ·have g7 : (l.Phase : Int) > 100 := of_decide_eq_true h7
    refine step_g0 rfl h7 rfl (step_g0 rfl h7 rfl (step_g0 rfl h7 rfl (step_pickT rfl h7 rfl rfl (step_r rfl rfl trivial (step_gf rfl rfl (step_gf rfl rfl (step_gf rfl rfl (step_r rfl rfl trivial (step_r rfl rfl trivial (step_gf rfl rfl (step_gf rfl rfl ?_)))))))))))
    refine step_gf rfl rfl (step_r rfl rfl trivial (step_r rfl rfl trivial (step_gf rfl rfl (step_gf rfl rfl (step_gf rfl rfl (step_r rfl rfl trivial (step_r rfl rfl trivial (step_gf rfl rfl (step_gf rfl rfl (step_gf rfl rfl (step_gf rfl rfl ?_)))))))))))
    refine step_r rfl rfl trivial (step_r rfl rfl trivial (step_gf rfl rfl (step_gf rfl rfl (step_gf rfl rfl (step_gf rfl rfl (step_gf rfl rfl (step_gf rfl rfl (step_gf rfl rfl (step_gf rfl rfl (step_r rfl rfl trivial (step_r rfl rfl trivial ?_)))))))))))
    refine step_gf rfl rfl (step_gf rfl rfl (step_gf rfl rfl (step_gf rfl rfl (step_r rfl rfl trivial (step_nil (seqK_n (sem_condT rfl (sem_seq (sem_region rfl (step_r rfl rfl trivial (step_nil ?_)))))))))))
    refine seqK_n (sem_ret (cutW_r (seqK_r ?_)))
    have e8 : lineR_J7 l = .inl false := by
     unfold lineR_J7
     try dsimp only
     rewrite [if_neg g3, if_pos g7]
     all_goals rfl
    have e9 : lineR c l = false := by
     unfold lineR
     try dsimp only
     rewrite [e8]
     try dsimp only
     all_goals rfl
    rw [e9]
    exact answersR rfl ⟨trivial, trivial⟩ (rfl) rfl
   ·have g7 : ¬ ((l.Phase : Int) > 100) := of_decide_eq_false h7
    refine step_g1 rfl h7 (step_r rfl rfl (by decide) (step_g1 rfl h7 (step_r rfl rfl trivial (step_g1 rfl h7 (step_bin rfl rfl rfl rfl rfl trivial (step_pickF rfl h7 rfl rfl (step_r rfl rfl trivial ?_)))))))
    refine step_gs rfl (fun h11 => ?_) (fun h11 => ?_)
    ·have g11 : (l.When : Int) < 1 := of_decide_eq_true h11
     refine step_g0 rfl h11 rfl (step_g0 rfl h11 rfl (step_g0 rfl h11 rfl (step_pickT rfl h11 rfl rfl (step_r rfl rfl trivial (step_gf rfl rfl (step_gf rfl rfl (step_gf rfl rfl (step_r rfl rfl trivial (step_r rfl rfl trivial (step_gf rfl rfl (step_gf rfl rfl ?_)))))))))))
     refine step_gf rfl rfl (step_r rfl rfl trivial (step_r rfl rfl trivial (step_gf rfl rfl (step_gf rfl rfl (step_gf rfl rfl (step_gf rfl rfl (step_r rfl rfl trivial (step_r rfl rfl trivial (step_gf rfl rfl (step_gf rfl rfl (step_gf rfl rfl ?_)))))))))))
     refine step_gf rfl rfl (step_gf rfl rfl (step_gf rfl rfl (step_gf rfl rfl (step_gf rfl rfl (step_r rfl rfl trivial (step_r rfl rfl trivial (step_gf rfl rfl (step_gf rfl rfl (step_gf rfl rfl (step_gf rfl rfl (step_r rfl rfl trivial ?_)))))))))))
     refine step_nil (seqK_n (sem_condT rfl (sem_seq (sem_region rfl (step_r rfl rfl trivial (step_nil (seqK_n (sem_ret (cutW_r (seqK_r ?_))))))))))
     have e12 : lineR_J7 l = .inl false := by
      unfold lineR_J7
      try dsimp only
      rewrite [if_neg g3, if_neg g7, if_pos g11]
      all_goals rfl
     have e13 : lineR c l = false := by
      unfold lineR
      try dsimp only
      rewrite [e12]
      try dsimp only
      all_goals rfl
     rw [e13]
     exact answersR rfl ⟨trivial, trivial⟩ (rfl) rfl
    ·have g11 : ¬ ((l.When : Int) < 1) := of_decide_eq_false h11
     refine step_g1 rfl h11 (step_r rfl rfl (by decide) (step_g1 rfl h11 (step_r rfl rfl trivial (step_g1 rfl h11 (step_bin rfl rfl rfl rfl rfl trivial (step_pickF rfl h11 rfl rfl (step_r rfl rfl trivial ?_)))))))
     refine step_gs rfl (fun h15 => ?_) (fun h15 => ?_)
     ·have g15 : (l.When : Int) > 3 := of_decide_eq_true h15
      refine step_g0 rfl h15 rfl (step_g0 rfl h15 rfl (step_g0 rfl h15 rfl (step_pickT rfl h15 rfl rfl (step_r rfl rfl trivial (step_gf rfl rfl (step_gf rfl rfl (step_gf rfl rfl (step_r rfl rfl trivial (step_r rfl rfl trivial (step_gf rfl rfl (step_gf rfl rfl ?_)))))))))))
      refine step_gf rfl rfl (step_gf rfl rfl (step_r rfl rfl trivial (step_r rfl rfl trivial (step_gf rfl rfl (step_gf rfl rfl (step_gf rfl rfl (step_gf rfl rfl (step_gf rfl rfl (step_gf rfl rfl (step_gf rfl rfl (step_gf rfl rfl ?_)))))))))))
      refine step_r rfl rfl trivial (step_r rfl rfl trivial (step_gf rfl rfl (step_gf rfl rfl (step_gf rfl rfl (step_gf rfl rfl (step_r rfl rfl trivial (step_nil (seqK_n (sem_condT rfl (sem_seq (sem_region rfl ?_)))))))))))
      refine step_r rfl rfl trivial (step_nil (seqK_n (sem_ret (cutW_r (seqK_r ?_)))))
      have e16 : lineR_J7 l = .inl false := by
       unfold lineR_J7
       try dsimp only
       rewrite [if_neg g3, if_neg g7, if_neg g11, if_pos g15]
       all_goals rfl
      have e17 : lineR c l = false := by
       unfold lineR
       try dsimp only
       rewrite [e16]
       try dsimp only
       all_goals rfl
      rw [e17]
      exact answersR rfl ⟨trivial, trivial⟩ (rfl) rfl
     ·have g15 : ¬ ((l.When : Int) > 3) := of_decide_eq_false h15
      refine step_g1 rfl h15 (step_r rfl rfl (by decide) (step_g1 rfl h15 (step_r rfl rfl trivial (step_g1 rfl h15 (step_bin rfl rfl rfl rfl rfl trivial (step_pickF rfl h15 rfl rfl (step_r rfl rfl trivial ?_)))))))
      refine step_gs rfl (fun h19 => ?_) (fun h19 => ?_)
      ·have g19 : (l.Do : Int) < 1 := of_decide_eq_true h19
       refine step_g0 rfl h19 rfl (step_g0 rfl h19 rfl (step_g0 rfl h19 rfl (step_pickT rfl h19 rfl rfl (step_r rfl rfl trivial (step_gf rfl rfl (step_gf rfl rfl (step_gf rfl rfl (step_gf rfl rfl (step_r rfl rfl trivial (step_r rfl rfl trivial (step_gf rfl rfl ?_)))))))))))
       refine step_gf rfl rfl (step_gf rfl rfl (step_gf rfl rfl (step_gf rfl rfl (step_gf rfl rfl (step_gf rfl rfl (step_gf rfl rfl (step_r rfl rfl trivial (step_r rfl rfl trivial (step_gf rfl rfl (step_gf rfl rfl (step_gf rfl rfl ?_)))))))))))
       refine step_gf rfl rfl (step_r rfl rfl trivial (step_nil (seqK_n (sem_condT rfl (sem_seq (sem_region rfl (step_r rfl rfl trivial (step_nil (seqK_n (sem_ret (cutW_r ?_)))))))))))
       refine seqK_r ?_
       have e20 : lineR_J7 l = .inl false := by
        unfold lineR_J7
        try dsimp only
        rewrite [if_neg g3, if_neg g7, if_neg g11, if_neg g15, if_pos g19]
        all_goals rfl
       have e21 : lineR c l = false := by
        unfold lineR
        try dsimp only
        rewrite [e20]
        try dsimp only
        all_goals rfl
       rw [e21]
       exact answersR rfl ⟨trivial, trivial⟩ (rfl) rfl
      ·have g19 : ¬ ((l.Do : Int) < 1) := of_decide_eq_false h19
       refine step_g1 rfl h19 (step_r rfl rfl (by decide) (step_g1 rfl h19 (step_r rfl rfl trivial (step_g1 rfl h19 (step_bin rfl rfl rfl rfl rfl trivial (step_pickF rfl h19 rfl rfl (step_r rfl rfl trivial ?_)))))))
       refine step_gs rfl (fun h23 => ?_) (fun h23 => ?_)
       ·have g23 : (l.Do : Int) > 4 := of_decide_eq_true h23
        refine step_g0 rfl h23 rfl (step_g0 rfl h23 rfl (step_g0 rfl h23 rfl (step_g0 rfl h23 rfl (step_pickT rfl h23 rfl rfl (step_r rfl rfl trivial (step_gf rfl rfl (step_gf rfl rfl (step_gf rfl rfl (step_gf rfl rfl (step_gf rfl rfl (step_gf rfl rfl ?_)))))))))))
        refine step_gf rfl rfl (step_gf rfl rfl (step_r rfl rfl trivial (step_r rfl rfl trivial (step_gf rfl rfl (step_gf rfl rfl (step_gf rfl rfl (step_gf rfl rfl (step_r rfl rfl trivial (step_nil (seqK_n (sem_condT rfl ?_)))))))))))
        refine sem_seq (sem_region rfl (step_r rfl rfl trivial (step_nil (seqK_n (sem_ret (cutW_r (seqK_r ?_)))))))
        have e24 : lineR_J7 l = .inl false := by
         unfold lineR_J7
         try dsimp only
         rewrite [if_neg g3, if_neg g7, if_neg g11, if_neg g15, if_neg g19, if_pos g23]
         all_goals rfl
        have e25 : lineR c l = false := by
         unfold lineR
         try dsimp only
         rewrite [e24]
         try dsimp only
         all_goals rfl
        rw [e25]
        exact answersR rfl ⟨trivial, trivial⟩ (rfl) rfl
       ·have g23 : ¬ ((l.Do : Int) > 4) := of_decide_eq_false h23
        refine step_g1 rfl h23 (step_r rfl rfl (by decide) (step_g1 rfl h23 (step_r rfl rfl trivial (step_g1 rfl h23 (step_call rfl rfl rfl rfl (amountR_ok l.Arg 1) rfl rfl rfl (step_g1 rfl h23 (step_r rfl rfl trivial (step_pickF rfl h23 rfl rfl (step_r rfl rfl trivial ?_)))))))))
        refine step_gs rfl (fun h27 => ?_) (fun h27 => ?_)
        ·have g27 : ¬ (amountR l.Arg 1 = true) := boo_f (not_t h27)
         refine step_g0 rfl h27 rfl (step_g0 rfl h27 rfl (step_g0 rfl h27 rfl (step_g0 rfl h27 rfl (step_gf rfl rfl (step_gf rfl rfl (step_gf rfl rfl (step_g0 rfl h27 rfl (step_pickT rfl h27 rfl rfl (step_r rfl rfl trivial (step_gf rfl rfl (step_gf rfl rfl ?_)))))))))))
         refine step_gf rfl rfl (step_gf rfl rfl (step_r rfl rfl trivial (step_nil (seqK_n (sem_condT rfl (sem_seq (sem_region rfl (step_r rfl rfl trivial (step_nil (seqK_n (sem_ret ?_)))))))))))
         refine cutW_r (seqK_r ?_)
         have e28 : lineR_J7 l = .inl false := by
          unfold lineR_J7
          try dsimp only
          rewrite [if_neg g3, if_neg g7, if_neg g11, if_neg g15, if_neg g19, if_neg g23, if_neg g27]
          all_goals rfl
         have e29 : lineR c l = false := by
          unfold lineR
          try dsimp only
          rewrite [e28]
          try dsimp only
          all_goals rfl
         rw [e29]
         exact answersR rfl ⟨trivial, trivial⟩ (rfl) rfl
        ·have g27 : amountR l.Arg 1 = true := (not_f h27)
         refine step_g1 rfl h27 (step_r rfl rfl (by decide) (step_g1 rfl h27 (step_r rfl rfl trivial (step_g1 rfl h27 (step_bin rfl rfl rfl rfl rfl trivial (step_g1 rfl h27 (step_r rfl rfl trivial ?_)))))))
         refine step_gs rfl (fun h31 => ?_) (fun h31 => ?_)
         ·have g31 : (l.When : Int) = 1 := beq_t h31
          refine step_g1 rfl h31 (step_r rfl rfl (by decide) (step_g1 rfl h31 (step_r rfl rfl trivial (step_g1 rfl h31 (step_bin rfl rfl rfl rfl rfl trivial (step_g1 rfl h27 (step_pickT rfl h31 rfl rfl (step_pickF rfl h27 rfl rfl (step_r rfl rfl trivial ?_)))))))))
          refine step_gs rfl (fun h33 => ?_) (fun h33 => ?_)
          ·have g33 : (l.Arg : Int) > 100 := of_decide_eq_true h33
           refine step_g0 rfl h33 rfl (step_g0 rfl h33 rfl (step_g0 rfl h33 rfl (step_g0 rfl h33 rfl (step_pickT rfl h33 rfl rfl (step_nil (seqK_n (sem_condT rfl (sem_seq (sem_region rfl (step_r rfl rfl trivial (step_nil ?_)))))))))))
           refine seqK_n (sem_ret (cutW_r (seqK_r ?_)))
           have e34 : lineR_J7 l = .inl false := by
            unfold lineR_J7
            try dsimp only
            rewrite [if_neg g3, if_neg g7, if_neg g11, if_neg g15, if_neg g19, if_neg g23, if_pos g27, if_pos g31, if_pos g33]
            all_goals rfl
           have e35 : lineR c l = false := by
            unfold lineR
            try dsimp only
            rewrite [e34]
            try dsimp only
            all_goals rfl
           rw [e35]
           exact answersR rfl ⟨trivial, trivial⟩ (rfl) rfl
          ·have g33 : ¬ ((l.Arg : Int) > 100) := of_decide_eq_false h33
           refine step_g1 rfl h33 (step_r rfl rfl (by decide) (step_g1 rfl h33 (step_r rfl rfl trivial (step_g1 rfl h33 (step_call rfl rfl rfl rfl (amountR_ok l.Value 0) rfl rfl rfl (step_g1 rfl h33 (step_r rfl rfl trivial (step_pickF rfl h33 rfl rfl (step_nil (seqK_n ?_))))))))))
           refine sem_cond rfl (fun h37 => ?_) (fun h37 => ?_)
           ·have g37 : ¬ (amountR l.Value 0 = true) := boo_f (not_t h37)
            refine sem_seq (sem_region rfl (step_r rfl rfl trivial (step_nil (seqK_n (sem_ret (cutW_r (seqK_r ?_)))))))
            have e38 : lineR_J7 l = .inl false := by
             unfold lineR_J7
             try dsimp only
             rewrite [if_neg g3, if_neg g7, if_neg g11, if_neg g15, if_neg g19, if_neg g23, if_pos g27, if_pos g31, if_neg g33, if_neg g37]
             all_goals rfl
            have e39 : lineR c l = false := by
             unfold lineR
             try dsimp only
             rewrite [e38]
             try dsimp only
             all_goals rfl
            rw [e39]
            exact answersR rfl ⟨trivial, trivial⟩ (rfl) rfl
           ·have g37 : amountR l.Value 0 = true := (not_f h37)
            refine sem_skip ?_
            have e40 : lineR_J7 l = .inr () := by
             unfold lineR_J7
             try dsimp only
             rewrite [if_neg g3, if_neg g7, if_neg g11, if_neg g15, if_neg g19, if_neg g23, if_pos g27, if_pos g31, if_neg g33, if_pos g37]
             all_goals rfl
            exact cutW_n () e40 (Trans.ren [] (by decide +kernel) (by decide +kernel) rfl ⟨⟨rfl, rfl⟩, ⟨rfl, rfl⟩, trivial⟩ ⟨⟨rfl, rfl, rfl⟩, ⟨rfl, rfl, rfl⟩, trivial⟩ (by decide))
         ·have g31 : ¬ ((l.When : Int) = 1) := beq_f h31
          refine step_g0 rfl h31 rfl (step_g0 rfl h31 rfl (step_g0 rfl h31 rfl (step_g1 rfl h27 (step_pickF rfl h31 rfl rfl (step_pickF rfl h27 rfl rfl (step_r rfl rfl trivial (step_gt rfl (step_r rfl rfl (by decide) (step_gt rfl (step_r rfl rfl trivial (step_gt rfl ?_)))))))))))
          refine step_call rfl rfl rfl rfl (amountR_ok l.Value 0) rfl rfl rfl (step_gt rfl (step_r rfl rfl trivial (step_r rfl rfl trivial (step_nil (seqK_n ?_)))))
          refine sem_cond rfl (fun h42 => ?_) (fun h42 => ?_)
          ·have g42 : ¬ (amountR l.Value 0 = true) := boo_f (not_t h42)
           refine sem_seq (sem_region rfl (step_r rfl rfl trivial (step_nil (seqK_n (sem_ret (cutW_r (seqK_r ?_)))))))
           have e43 : lineR_J7 l = .inl false := by
            unfold lineR_J7
            try dsimp only
            rewrite [if_neg g3, if_neg g7, if_neg g11, if_neg g15, if_neg g19, if_neg g23, if_pos g27, if_neg g31, if_neg g42]
            all_goals rfl
           have e44 : lineR c l = false := by
            unfold lineR
            try dsimp only
            rewrite [e43]
            try dsimp only
            all_goals rfl
           rw [e44]
           exact answersR rfl ⟨trivial, trivial⟩ (rfl) rfl
          ·have g42 : amountR l.Value 0 = true := (not_f h42)
           refine sem_skip ?_
           have e45 : lineR_J7 l = .inr () := by
            unfold lineR_J7
            try dsimp only
            rewrite [if_neg g3, if_neg g7, if_neg g11, if_neg g15, if_neg g19, if_neg g23, if_pos g27, if_neg g31, if_pos g42]
            all_goals rfl
           exact cutW_n () e45 (Trans.ren [] (by decide +kernel) (by decide +kernel) rfl ⟨⟨rfl, rfl⟩, ⟨rfl, rfl⟩, trivial⟩ ⟨⟨rfl, rfl, rfl⟩, ⟨rfl, rfl, rfl⟩, trivial⟩ (by decide))
 ·rintro ⟨⟩ (hJ1 : lineR_J7 l = .inr ())
  show seqK _ _ _ .normal (⟨[(2, .ptr 0 0), (3, .ptr 1 0)], [(0, .box [.pv (.slc c.Abilities.length false (c.Abilities.flatMap encGAbility)), .pv (.slc c.Auras.length false (c.Auras.flatMap encGAura)), .pv (.slc c.Foes.length false (c.Foes.flatMap encGFoe)), I c.Map.W, I c.Map.H, .pv (.slc c.Map.Wall.length false (encB c.Map.Wall)), I c.Door.X, I c.Door.Y, I c.Lair.X, I c.Lair.Y]), (1, .box [I l.Phase, I l.When, I l.Arg, I l.Do, I l.Value])], 2, [], 79, 0⟩ : St)
  refine seqK_n (sem_seq (sem_seq (sem_region rfl (step_r rfl rfl (by decide) (step_r rfl rfl trivial (step_bin rfl rfl rfl rfl rfl trivial (step_nil (seqK_n ?_))))))))
  refine sem_cond rfl (fun h46 => ?_) (fun h46 => ?_)
  ·have g46 : (l.Do : Int) = 1 := beq_t h46
   refine sem_seq ?_
   refine sem_cutW (fun t4_60 : Bool => (⟨[(4, B t4_60)], [], 0, [], 79, 0⟩ : St)) (fun w_ => lineR_J60 l = w_) ?_ ?_
   ·refine sem_region rfl (step_r rfl rfl (by decide) (step_r rfl rfl trivial (step_bin rfl rfl rfl rfl rfl trivial (step_r rfl rfl trivial ?_))))
    refine step_gs rfl (fun h49 => ?_) (fun h49 => ?_)
    ·have g49 : (l.Value : Int) ≥ 1 := of_decide_eq_true h49
     refine step_g1 rfl h49 (step_r rfl rfl (by decide) (step_g1 rfl h49 (step_r rfl rfl trivial (step_g1 rfl h49 (step_bin rfl rfl rfl rfl rfl trivial (step_pickT rfl h49 rfl rfl (step_r rfl rfl trivial (step_nil ?_))))))))
     have e51 : lineR_J60 l = (decide ((l.Value : Int) ≤ 100)) := by
      unfold lineR_J60
      try dsimp only
      rewrite [if_pos g49]
      all_goals rfl
     exact cutW_n (decide ((l.Value : Int) ≤ 100)) e51 (Trans.ren [] (by decide +kernel) (by decide +kernel) rfl ⟨⟨rfl, rfl⟩, trivial⟩ trivial (by decide))
    ·have g49 : ¬ ((l.Value : Int) ≥ 1) := of_decide_eq_false h49
     refine step_g0 rfl h49 rfl (step_g0 rfl h49 rfl (step_g0 rfl h49 rfl (step_pickF rfl h49 rfl rfl (step_r rfl rfl trivial (step_nil ?_)))))
     have e52 : lineR_J60 l = false := by
      unfold lineR_J60
      try dsimp only
      rewrite [if_neg g49]
      all_goals rfl
     exact cutW_n false e52 (Trans.ren [] (by decide +kernel) (by decide +kernel) rfl ⟨⟨rfl, rfl⟩, trivial⟩ trivial (by decide))
   ·rintro t4_60 (hJ47 : lineR_J60 l = t4_60)
    show seqK _ _ _ .normal (⟨[(4, B t4_60)], [], 0, [], 79, 0⟩ : St)
    refine seqK_n (sem_ret (seqK_r ?_))
    have e53 : lineR c l = t4_60 := by
     unfold lineR
     try dsimp only
     rewrite [hJ1]
     try dsimp only
     rewrite [if_pos g46, hJ47]
     try dsimp only
     all_goals rfl
    rw [e53]
    exact answersR rfl ⟨trivial, trivial⟩ (rfl) rfl
  ·have g46 : ¬ ((l.Do : Int) = 1) := beq_f h46
   refine sem_skip (seqK_n (sem_seq (sem_seq (sem_region rfl (step_r rfl rfl (by decide) (step_r rfl rfl trivial (step_bin rfl rfl rfl rfl rfl trivial (step_nil (seqK_n ?_)))))))))
   refine sem_cond rfl (fun h54 => ?_) (fun h54 => ?_)
   ·have g54 : (l.Do : Int) = 2 := beq_t h54
    refine sem_seq (sem_region rfl (step_r (v := (.agg [_, _, _, _, _, _, _, _, _, _])) rfl rfl (Nat.le_of_ble_eq_true rfl) (step_r rfl rfl (by decide) (step_r rfl rfl trivial (step_call rfl rfl rfl rfl (getAR_ok c l.Value (by first | assumption | grind)) rfl rfl rfl (step_r rfl rfl trivial (step_r rfl rfl trivial (step_r rfl rfl trivial (step_n (o := .box [_, _, _, _, _, _, _, _]) (nx' := 3) rfl rfl rfl trivial (step_store (H' := [(2, .box [_, _, _, _, _, _, _, _]), (0, .box [_, _, _, _, _, _, _, _, _, _]), (1, .box [_, _, _, _, _])]) rfl rfl rfl rfl rfl rfl (Nat.le_of_ble_eq_true rfl) (.inl rfl) rfl (step_r rfl rfl trivial ?_)))))))))))
    refine step_nil (seqK_n (sem_seq (sem_region rfl (step_r rfl rfl trivial (step_r rfl rfl trivial (step_nil (seqK_n (sem_ret (seqK_r ?_)))))))))
    have e56 : lineR c l = (getAR c l.Value).2 := by
     unfold lineR
     try dsimp only
     rewrite [hJ1]
     try dsimp only
     rewrite [if_neg g46, if_pos g54]
     all_goals rfl
    rw [e56]
    exact answersR rfl ⟨trivial, trivial⟩ (rfl) rfl
   ·have g54 : ¬ ((l.Do : Int) = 2) := beq_f h54
    refine sem_skip (seqK_n (sem_seq (sem_region rfl (step_r rfl rfl trivial (step_nil (seqK_n (sem_ret ?_)))))))
    have e57 : lineR c l = true := by
     unfold lineR
     try dsimp only
     rewrite [hJ1]
     try dsimp only
     rewrite [if_neg g46, if_neg g54]
     all_goals rfl
    rw [e57]
    exact answersR rfl ⟨trivial, trivial⟩ (rfl) rfl

def foeR_J8 (f : GFoe) : Sum Bool Unit :=
  if amountR f.Health 1 = true then (if amountR f.Hit 0 = true then (if amountR f.Reach 0 = true then (if amountR f.Every 1 = true then (if (f.Drops : Int) < 0 then .inl false else if (f.Drops : Int) > 16 then .inl false else if (f.Script.length : Int) > 16 then .inl false else if (f.Hoard.length : Int) > 16 then .inl false else if (f.Drops : Int) > 0 then (if (f.Hoard.length : Int) = 0 then .inl false else .inr ()) else .inr ()) else .inl false) else .inl false) else .inl false) else .inl false
def foeR_L0 (c : GContent) : List GLine → Nat → Sum Bool Unit
  | [], k0 => .inr ()
  | x0 :: l_, k0 => if lineR c x0 = true then foeR_L0 c l_ (k0 + 1) else .inl false
def foeR_L1 : List GPrize → Nat → Sum Bool Unit
  | [], k1 => .inr ()
  | x1 :: l_, k1 => if amountR x1.Item 1 = true then (if amountR x1.Weight 1 = true then foeR_L1 l_ (k1 + 1) else .inl false) else .inl false
def foeR (c : GContent) (f : GFoe) : Bool :=
  (match foeR_J8 f with
    | .inl r_ => r_
    | .inr () => (match foeR_L0 c f.Script 0 with
    | .inl r_ => r_
    | .inr () => (match foeR_L1 f.Hoard 0 with
    | .inl r_ => r_
    | .inr () => true)))
theorem foeR_ok (c : GContent) (f : GFoe) (hF : Few9 c) : Ok Try.prog 80 [aGContent c, aGFoe f] [] (B (foeR c f)) [] [] := by
 refine Ok.len fun hlen => ?_
 have hl_c_Abilities : c.Abilities.length ≤ maxLen := hlen _ (by simp [lensL, lens, lensP])
 have hl_c_Auras : c.Auras.length ≤ maxLen := hlen _ (by simp [lensL, lens, lensP])
 have hl_c_Foes : c.Foes.length ≤ maxLen := hlen _ (by simp [lensL, lens, lensP])
 have hl_c_Map_Wall : c.Map.Wall.length ≤ maxLen := hlen _ (by simp [lensL, lens, lensP])
 have hl_f_Script : f.Script.length ≤ maxLen := hlen _ (by simp [lensL, lens, lensP])
 have hl_f_Hoard : f.Hoard.length ≤ maxLen := hlen _ (by simp [lensL, lens, lensP])
 unfold maxLen at hl_c_Abilities hl_c_Auras hl_c_Foes hl_c_Map_Wall hl_f_Script hl_f_Hoard
 refine ok_of_sem Try.func80 rfl ?_
 show Walks Try.prog _ _ ⟨[(0, aGContent c), (1, aGFoe f)], [], 0, [], 104, 0⟩
 refine sem_seq (sem_region rfl (step_n (o := .box [_, _, _, _, _, _, _, _, _, _]) (nx' := 1) rfl rfl rfl trivial (step_n (o := .box [_, _, _, _, _, _, _, _]) (nx' := 2) rfl rfl rfl trivial (step_r rfl rfl trivial (step_nil (seqK_n (sem_seq ?_)))))))
 refine sem_cutW (fun w_ : Unit => match w_ with | () => (⟨[(2, .ptr 0 0), (3, .ptr 1 0)], [(0, .box [.pv (.slc c.Abilities.length false (c.Abilities.flatMap encGAbility)), .pv (.slc c.Auras.length false (c.Auras.flatMap encGAura)), .pv (.slc c.Foes.length false (c.Foes.flatMap encGFoe)), I c.Map.W, I c.Map.H, .pv (.slc c.Map.Wall.length false (encB c.Map.Wall)), I c.Door.X, I c.Door.Y, I c.Lair.X, I c.Lair.Y]), (1, .box [I f.Id, I f.Health, I f.Hit, I f.Every, I f.Reach, .pv (.slc f.Script.length false (f.Script.flatMap encGLine)), .pv (.slc f.Hoard.length false (f.Hoard.flatMap encGPrize)), I f.Drops])], 2, [], 104, 0⟩ : St)) (fun w_ => foeR_J8 f = .inr w_) ?_ ?_
 ·refine sem_seq (sem_region rfl (step_r rfl rfl (by decide) (step_r rfl rfl trivial (step_call rfl rfl rfl rfl (amountR_ok f.Health 1) rfl rfl rfl (step_r rfl rfl trivial (step_r rfl rfl trivial ?_))))))
  refine step_gs rfl (fun h3 => ?_) (fun h3 => ?_)
  ·have g3 : ¬ (amountR f.Health 1 = true) := boo_f (not_t h3)
   refine step_g0 rfl h3 rfl (step_g0 rfl h3 rfl (step_g0 rfl h3 rfl (step_g0 rfl h3 rfl (step_pickT rfl h3 rfl rfl (step_r rfl rfl trivial (step_gf rfl rfl (step_gf rfl rfl (step_gf rfl rfl (step_gf rfl rfl (step_r rfl rfl trivial (step_r rfl rfl trivial ?_)))))))))))
   refine step_gf rfl rfl (step_gf rfl rfl (step_gf rfl rfl (step_gf rfl rfl (step_r rfl rfl trivial (step_r rfl rfl trivial (step_gf rfl rfl (step_gf rfl rfl (step_gf rfl rfl (step_r rfl rfl trivial (step_r rfl rfl trivial (step_gf rfl rfl ?_)))))))))))
   refine step_gf rfl rfl (step_gf rfl rfl (step_r rfl rfl trivial (step_r rfl rfl trivial (step_gf rfl rfl (step_gf rfl rfl (step_gf rfl rfl (step_gf rfl rfl (step_r rfl rfl trivial (step_r rfl rfl trivial (step_gf rfl rfl (step_gf rfl rfl ?_)))))))))))
   refine step_gf rfl rfl (step_gf rfl rfl (step_r rfl rfl trivial (step_r rfl rfl trivial (step_gf rfl rfl (step_gf rfl rfl (step_gf rfl rfl (step_gf rfl rfl (step_gf rfl rfl (step_gf rfl rfl (step_gf rfl rfl (step_gf rfl rfl ?_)))))))))))
   refine step_gf rfl rfl (step_r rfl rfl trivial (step_nil (seqK_n (sem_condT rfl (sem_seq (sem_region rfl (step_r rfl rfl trivial (step_nil (seqK_n (sem_ret (cutW_r ?_)))))))))))
   refine seqK_r ?_
   have e4 : foeR_J8 f = .inl false := by
    unfold foeR_J8
    try dsimp only
    rewrite [if_neg g3]
    all_goals rfl
   have e5 : foeR c f = false := by
    unfold foeR
    try dsimp only
    rewrite [e4]
    try dsimp only
    all_goals rfl
   rw [e5]
   exact answersR rfl ⟨trivial, trivial⟩ (rfl) rfl
  ·have g3 : amountR f.Health 1 = true := (not_f h3)
   refine step_g1 rfl h3 (step_r rfl rfl (by decide) (step_g1 rfl h3 (step_r rfl rfl trivial (step_g1 rfl h3 (step_call rfl rfl rfl rfl (amountR_ok f.Hit 0) rfl rfl rfl (step_g1 rfl h3 (step_r rfl rfl trivial (step_pickF rfl h3 rfl rfl (step_r rfl rfl trivial ?_)))))))))
   refine step_gs rfl (fun h7 => ?_) (fun h7 => ?_)
   ·have g7 : ¬ (amountR f.Hit 0 = true) := boo_f (not_t h7)
    refine step_g0 rfl h7 rfl (step_g0 rfl h7 rfl (step_g0 rfl h7 rfl (step_g0 rfl h7 rfl (step_pickT rfl h7 rfl rfl (step_r rfl rfl trivial (step_gf rfl rfl (step_gf rfl rfl (step_gf rfl rfl (step_gf rfl rfl (step_r rfl rfl trivial (step_r rfl rfl trivial ?_)))))))))))
    refine step_gf rfl rfl (step_gf rfl rfl (step_gf rfl rfl (step_r rfl rfl trivial (step_r rfl rfl trivial (step_gf rfl rfl (step_gf rfl rfl (step_gf rfl rfl (step_r rfl rfl trivial (step_r rfl rfl trivial (step_gf rfl rfl (step_gf rfl rfl ?_)))))))))))
    refine step_gf rfl rfl (step_gf rfl rfl (step_r rfl rfl trivial (step_r rfl rfl trivial (step_gf rfl rfl (step_gf rfl rfl (step_gf rfl rfl (step_gf rfl rfl (step_r rfl rfl trivial (step_r rfl rfl trivial (step_gf rfl rfl (step_gf rfl rfl ?_)))))))))))
    refine step_gf rfl rfl (step_gf rfl rfl (step_gf rfl rfl (step_gf rfl rfl (step_gf rfl rfl (step_gf rfl rfl (step_gf rfl rfl (step_r rfl rfl trivial (step_nil (seqK_n (sem_condT rfl (sem_seq ?_)))))))))))
    refine sem_region rfl (step_r rfl rfl trivial (step_nil (seqK_n (sem_ret (cutW_r (seqK_r ?_))))))
    have e8 : foeR_J8 f = .inl false := by
     unfold foeR_J8
     try dsimp only
     rewrite [if_pos g3, if_neg g7]
     all_goals rfl
    have e9 : foeR c f = false := by
     unfold foeR
     try dsimp only
     rewrite [e8]
     try dsimp only
     all_goals rfl
    rw [e9]
    exact answersR rfl ⟨trivial, trivial⟩ (rfl) rfl
   ·have g7 : amountR f.Hit 0 = true := (not_f h7)
    refine step_g1 rfl h7 (step_r rfl rfl (by decide) (step_g1 rfl h7 (step_r rfl rfl trivial (step_g1 rfl h7 (step_call rfl rfl rfl rfl (amountR_ok f.Reach 0) rfl rfl rfl (step_g1 rfl h7 (step_r rfl rfl trivial (step_pickF rfl h7 rfl rfl (step_r rfl rfl trivial ?_)))))))))
    refine step_gs rfl (fun h11 => ?_) (fun h11 => ?_)
    ·have g11 : ¬ (amountR f.Reach 0 = true) := boo_f (not_t h11)
     refine step_g0 rfl h11 rfl (step_g0 rfl h11 rfl (step_g0 rfl h11 rfl (step_g0 rfl h11 rfl (step_pickT rfl h11 rfl rfl (step_r rfl rfl trivial (step_gf rfl rfl (step_gf rfl rfl (step_gf rfl rfl (step_r rfl rfl trivial (step_r rfl rfl trivial (step_gf rfl rfl ?_)))))))))))
     refine step_gf rfl rfl (step_gf rfl rfl (step_r rfl rfl trivial (step_r rfl rfl trivial (step_gf rfl rfl (step_gf rfl rfl (step_gf rfl rfl (step_gf rfl rfl (step_r rfl rfl trivial (step_r rfl rfl trivial (step_gf rfl rfl (step_gf rfl rfl ?_)))))))))))
     refine step_gf rfl rfl (step_gf rfl rfl (step_r rfl rfl trivial (step_r rfl rfl trivial (step_gf rfl rfl (step_gf rfl rfl (step_gf rfl rfl (step_gf rfl rfl (step_gf rfl rfl (step_gf rfl rfl (step_gf rfl rfl (step_gf rfl rfl ?_)))))))))))
     refine step_gf rfl rfl (step_r rfl rfl trivial (step_nil (seqK_n (sem_condT rfl (sem_seq (sem_region rfl (step_r rfl rfl trivial (step_nil (seqK_n (sem_ret (cutW_r ?_)))))))))))
     refine seqK_r ?_
     have e12 : foeR_J8 f = .inl false := by
      unfold foeR_J8
      try dsimp only
      rewrite [if_pos g3, if_pos g7, if_neg g11]
      all_goals rfl
     have e13 : foeR c f = false := by
      unfold foeR
      try dsimp only
      rewrite [e12]
      try dsimp only
      all_goals rfl
     rw [e13]
     exact answersR rfl ⟨trivial, trivial⟩ (rfl) rfl
    ·have g11 : amountR f.Reach 0 = true := (not_f h11)
     refine step_g1 rfl h11 (step_r rfl rfl (by decide) (step_g1 rfl h11 (step_r rfl rfl trivial (step_g1 rfl h11 (step_call rfl rfl rfl rfl (amountR_ok f.Every 1) rfl rfl rfl (step_g1 rfl h11 (step_r rfl rfl trivial (step_pickF rfl h11 rfl rfl (step_r rfl rfl trivial ?_)))))))))
     refine step_gs rfl (fun h15 => ?_) (fun h15 => ?_)
     ·have g15 : ¬ (amountR f.Every 1 = true) := boo_f (not_t h15)
      refine step_g0 rfl h15 rfl (step_g0 rfl h15 rfl (step_g0 rfl h15 rfl (step_pickT rfl h15 rfl rfl (step_r rfl rfl trivial (step_gf rfl rfl (step_gf rfl rfl (step_gf rfl rfl (step_r rfl rfl trivial (step_r rfl rfl trivial (step_gf rfl rfl (step_gf rfl rfl ?_)))))))))))
      refine step_gf rfl rfl (step_gf rfl rfl (step_r rfl rfl trivial (step_r rfl rfl trivial (step_gf rfl rfl (step_gf rfl rfl (step_gf rfl rfl (step_gf rfl rfl (step_r rfl rfl trivial (step_r rfl rfl trivial (step_gf rfl rfl (step_gf rfl rfl ?_)))))))))))
      refine step_gf rfl rfl (step_gf rfl rfl (step_gf rfl rfl (step_gf rfl rfl (step_gf rfl rfl (step_gf rfl rfl (step_gf rfl rfl (step_r rfl rfl trivial (step_nil (seqK_n (sem_condT rfl (sem_seq ?_)))))))))))
      refine sem_region rfl (step_r rfl rfl trivial (step_nil (seqK_n (sem_ret (cutW_r (seqK_r ?_))))))
      have e16 : foeR_J8 f = .inl false := by
       unfold foeR_J8
       try dsimp only
       rewrite [if_pos g3, if_pos g7, if_pos g11, if_neg g15]
       all_goals rfl
      have e17 : foeR c f = false := by
       unfold foeR
       try dsimp only
       rewrite [e16]
       try dsimp only
       all_goals rfl
      rw [e17]
      exact answersR rfl ⟨trivial, trivial⟩ (rfl) rfl
     ·have g15 : amountR f.Every 1 = true := (not_f h15)
      refine step_g1 rfl h15 (step_r rfl rfl (by decide) (step_g1 rfl h15 (step_r rfl rfl trivial (step_g1 rfl h15 (step_bin rfl rfl rfl rfl rfl trivial (step_pickF rfl h15 rfl rfl (step_r rfl rfl trivial ?_)))))))
      refine step_gs rfl (fun h19 => ?_) (fun h19 => ?_)
      ·have g19 : (f.Drops : Int) < 0 := of_decide_eq_true h19
       refine step_g0 rfl h19 rfl (step_g0 rfl h19 rfl (step_g0 rfl h19 rfl (step_pickT rfl h19 rfl rfl (step_r rfl rfl trivial (step_gf rfl rfl (step_gf rfl rfl (step_gf rfl rfl (step_gf rfl rfl (step_r rfl rfl trivial (step_r rfl rfl trivial (step_gf rfl rfl ?_)))))))))))
       refine step_gf rfl rfl (step_gf rfl rfl (step_gf rfl rfl (step_r rfl rfl trivial (step_r rfl rfl trivial (step_gf rfl rfl (step_gf rfl rfl (step_gf rfl rfl (step_gf rfl rfl (step_gf rfl rfl (step_gf rfl rfl (step_gf rfl rfl ?_)))))))))))
       refine step_gf rfl rfl (step_gf rfl rfl (step_r rfl rfl trivial (step_nil (seqK_n (sem_condT rfl (sem_seq (sem_region rfl (step_r rfl rfl trivial (step_nil (seqK_n (sem_ret ?_)))))))))))
       refine cutW_r (seqK_r ?_)
       have e20 : foeR_J8 f = .inl false := by
        unfold foeR_J8
        try dsimp only
        rewrite [if_pos g3, if_pos g7, if_pos g11, if_pos g15, if_pos g19]
        all_goals rfl
       have e21 : foeR c f = false := by
        unfold foeR
        try dsimp only
        rewrite [e20]
        try dsimp only
        all_goals rfl
       rw [e21]
       exact answersR rfl ⟨trivial, trivial⟩ (rfl) rfl
      ·have g19 : ¬ ((f.Drops : Int) < 0) := of_decide_eq_false h19
       refine step_g1 rfl h19 (step_r rfl rfl (by decide) (step_g1 rfl h19 (step_r rfl rfl trivial (step_g1 rfl h19 (step_bin rfl rfl rfl rfl rfl trivial (step_pickF rfl h19 rfl rfl (step_r rfl rfl trivial ?_)))))))
       refine step_gs rfl (fun h23 => ?_) (fun h23 => ?_)
       ·have g23 : (f.Drops : Int) > 16 := of_decide_eq_true h23
        refine step_g0 rfl h23 rfl (step_g0 rfl h23 rfl (step_g0 rfl h23 rfl (step_g0 rfl h23 rfl (step_pickT rfl h23 rfl rfl (step_r rfl rfl trivial (step_gf rfl rfl (step_gf rfl rfl (step_gf rfl rfl (step_gf rfl rfl (step_r rfl rfl trivial (step_r rfl rfl trivial ?_)))))))))))
        refine step_gf rfl rfl (step_gf rfl rfl (step_gf rfl rfl (step_gf rfl rfl (step_gf rfl rfl (step_gf rfl rfl (step_gf rfl rfl (step_gf rfl rfl (step_gf rfl rfl (step_r rfl rfl trivial (step_nil (seqK_n ?_)))))))))))
        refine sem_condT rfl (sem_seq (sem_region rfl (step_r rfl rfl trivial (step_nil (seqK_n (sem_ret (cutW_r (seqK_r ?_))))))))
        have e24 : foeR_J8 f = .inl false := by
         unfold foeR_J8
         try dsimp only
         rewrite [if_pos g3, if_pos g7, if_pos g11, if_pos g15, if_neg g19, if_pos g23]
         all_goals rfl
        have e25 : foeR c f = false := by
         unfold foeR
         try dsimp only
         rewrite [e24]
         try dsimp only
         all_goals rfl
        rw [e25]
        exact answersR rfl ⟨trivial, trivial⟩ (rfl) rfl
       ·have g23 : ¬ ((f.Drops : Int) > 16) := of_decide_eq_false h23
        refine step_g1 rfl h23 (step_r rfl rfl (by decide) (step_g1 rfl h23 (step_r rfl rfl trivial (step_g1 rfl h23 (step_r rfl rfl trivial (step_g1 rfl h23 (step_bin rfl rfl rfl rfl rfl trivial (step_pickF rfl h23 rfl rfl (step_r rfl rfl trivial ?_)))))))))
        refine step_gs rfl (fun h27 => ?_) (fun h27 => ?_)
        ·have g27 : (f.Script.length : Int) > 16 := of_decide_eq_true h27
         refine step_g0 rfl h27 rfl (step_g0 rfl h27 rfl (step_g0 rfl h27 rfl (step_g0 rfl h27 rfl (step_pickT rfl h27 rfl rfl (step_r rfl rfl trivial (step_gf rfl rfl (step_gf rfl rfl (step_gf rfl rfl (step_gf rfl rfl (step_gf rfl rfl (step_gf rfl rfl ?_)))))))))))
         refine step_gf rfl rfl (step_gf rfl rfl (step_gf rfl rfl (step_r rfl rfl trivial (step_nil (seqK_n (sem_condT rfl (sem_seq (sem_region rfl (step_r rfl rfl trivial (step_nil (seqK_n ?_)))))))))))
         refine sem_ret (cutW_r (seqK_r ?_))
         have e28 : foeR_J8 f = .inl false := by
          unfold foeR_J8
          try dsimp only
          rewrite [if_pos g3, if_pos g7, if_pos g11, if_pos g15, if_neg g19, if_neg g23, if_pos g27]
          all_goals rfl
         have e29 : foeR c f = false := by
          unfold foeR
          try dsimp only
          rewrite [e28]
          try dsimp only
          all_goals rfl
         rw [e29]
         exact answersR rfl ⟨trivial, trivial⟩ (rfl) rfl
        ·have g27 : ¬ ((f.Script.length : Int) > 16) := of_decide_eq_false h27
         refine step_g1 rfl h27 (step_r rfl rfl (by decide) (step_g1 rfl h27 (step_r rfl rfl trivial (step_g1 rfl h27 (step_r rfl rfl trivial (step_g1 rfl h27 (step_bin rfl rfl rfl rfl rfl trivial (step_pickF rfl h27 rfl rfl (step_r rfl rfl trivial ?_)))))))))
         refine step_gs rfl (fun h31 => ?_) (fun h31 => ?_)
         ·have g31 : (f.Hoard.length : Int) > 16 := of_decide_eq_true h31
          refine step_g0 rfl h31 rfl (step_g0 rfl h31 rfl (step_g0 rfl h31 rfl (step_g0 rfl h31 rfl (step_gf rfl rfl (step_gf rfl rfl (step_gf rfl rfl (step_gf rfl rfl (step_g0 rfl h31 rfl (step_pickT rfl h31 rfl rfl (step_nil (seqK_n ?_)))))))))))
          refine sem_condT rfl (sem_seq (sem_region rfl (step_r rfl rfl trivial (step_nil (seqK_n (sem_ret (cutW_r (seqK_r ?_))))))))
          have e32 : foeR_J8 f = .inl false := by
           unfold foeR_J8
           try dsimp only
           rewrite [if_pos g3, if_pos g7, if_pos g11, if_pos g15, if_neg g19, if_neg g23, if_neg g27, if_pos g31]
           all_goals rfl
          have e33 : foeR c f = false := by
           unfold foeR
           try dsimp only
           rewrite [e32]
           try dsimp only
           all_goals rfl
          rw [e33]
          exact answersR rfl ⟨trivial, trivial⟩ (rfl) rfl
         ·have g31 : ¬ ((f.Hoard.length : Int) > 16) := of_decide_eq_false h31
          refine step_g1 rfl h31 (step_r rfl rfl (by decide) (step_g1 rfl h31 (step_r rfl rfl trivial (step_g1 rfl h31 (step_bin rfl rfl rfl rfl rfl trivial (step_g1 rfl h31 (step_r rfl rfl trivial ?_)))))))
          refine step_gs rfl (fun h35 => ?_) (fun h35 => ?_)
          ·have g35 : (f.Drops : Int) > 0 := of_decide_eq_true h35
           refine step_g1 rfl h35 (step_r rfl rfl (by decide) (step_g1 rfl h35 (step_r rfl rfl trivial (step_g1 rfl h35 (step_r rfl rfl trivial (step_g1 rfl h35 (step_bin rfl rfl rfl rfl rfl trivial (step_g1 rfl h31 (step_pickT rfl h35 rfl rfl (step_pickF rfl h31 rfl rfl (step_nil ?_)))))))))))
           refine seqK_n ?_
           refine sem_cond rfl (fun h37 => ?_) (fun h37 => ?_)
           ·have g37 : (f.Hoard.length : Int) = 0 := beq_t h37
            refine sem_seq (sem_region rfl (step_r rfl rfl trivial (step_nil (seqK_n (sem_ret (cutW_r (seqK_r ?_)))))))
            have e38 : foeR_J8 f = .inl false := by
             unfold foeR_J8
             try dsimp only
             rewrite [if_pos g3, if_pos g7, if_pos g11, if_pos g15, if_neg g19, if_neg g23, if_neg g27, if_neg g31, if_pos g35, if_pos g37]
             all_goals rfl
            have e39 : foeR c f = false := by
             unfold foeR
             try dsimp only
             rewrite [e38]
             try dsimp only
             all_goals rfl
            rw [e39]
            exact answersR rfl ⟨trivial, trivial⟩ (rfl) rfl
           ·have g37 : ¬ ((f.Hoard.length : Int) = 0) := beq_f h37
            refine sem_skip ?_
            have e40 : foeR_J8 f = .inr () := by
             unfold foeR_J8
             try dsimp only
             rewrite [if_pos g3, if_pos g7, if_pos g11, if_pos g15, if_neg g19, if_neg g23, if_neg g27, if_neg g31, if_pos g35, if_neg g37]
             all_goals rfl
            exact cutW_n () e40 (Trans.ren [] (by decide +kernel) (by decide +kernel) rfl ⟨⟨rfl, rfl⟩, ⟨rfl, rfl⟩, trivial⟩ ⟨⟨rfl, rfl, rfl⟩, ⟨rfl, rfl, rfl⟩, trivial⟩ (by decide))
          ·have g35 : ¬ ((f.Drops : Int) > 0) := of_decide_eq_false h35
           refine step_g0 rfl h35 rfl (step_g0 rfl h35 rfl (step_g0 rfl h35 rfl (step_g0 rfl h35 rfl (step_g1 rfl h31 (step_pickF rfl h35 rfl rfl (step_pickF rfl h31 rfl rfl (step_nil (seqK_n (sem_condF rfl (sem_skip ?_))))))))))
           have e41 : foeR_J8 f = .inr () := by
            unfold foeR_J8
            try dsimp only
            rewrite [if_pos g3, if_pos g7, if_pos g11, if_pos g15, if_neg g19, if_neg g23, if_neg g27, if_neg g31, if_neg g35]
            all_goals rfl
           exact cutW_n () e41 (Trans.ren [] (by decide +kernel) (by decide +kernel) rfl ⟨⟨rfl, rfl⟩, ⟨rfl, rfl⟩, trivial⟩ ⟨⟨rfl, rfl, rfl⟩, ⟨rfl, rfl, rfl⟩, trivial⟩ (by decide))
 ·rintro ⟨⟩ (hJ1 : foeR_J8 f = .inr ())
  show seqK _ _ _ .normal (⟨[(2, .ptr 0 0), (3, .ptr 1 0)], [(0, .box [.pv (.slc c.Abilities.length false (c.Abilities.flatMap encGAbility)), .pv (.slc c.Auras.length false (c.Auras.flatMap encGAura)), .pv (.slc c.Foes.length false (c.Foes.flatMap encGFoe)), I c.Map.W, I c.Map.H, .pv (.slc c.Map.Wall.length false (encB c.Map.Wall)), I c.Door.X, I c.Door.Y, I c.Lair.X, I c.Lair.Y]), (1, .box [I f.Id, I f.Health, I f.Hit, I f.Every, I f.Reach, .pv (.slc f.Script.length false (f.Script.flatMap encGLine)), .pv (.slc f.Hoard.length false (f.Hoard.flatMap encGPrize)), I f.Drops])], 2, [], 104, 0⟩ : St)
  refine seqK_n (sem_seq (sem_seq (sem_region rfl (step_r rfl rfl trivial (step_nil (seqK_n ?_))))))
  refine sem_cutW (fun w_ : Unit => match w_ with | () => (⟨[(3, .ptr 0 0)], [(0, .box [I f.Id, I f.Health, I f.Hit, I f.Every, I f.Reach, .pv (.slc f.Script.length false (f.Script.flatMap encGLine)), .pv (.slc f.Hoard.length false (f.Hoard.flatMap encGPrize)), I f.Drops])], 1, [], 104, 0⟩ : St)) (fun w_ => foeR_L0 c f.Script 0 = .inr w_) ?_ ?_
  ·refine sem_block ?_
   refine sem_loopT (fun k0 : Nat => (⟨[(2, .ptr 0 0), (3, .ptr 1 0), (5, I k0)], [(0, .box [.pv (.slc c.Abilities.length false (c.Abilities.flatMap encGAbility)), .pv (.slc c.Auras.length false (c.Auras.flatMap encGAura)), .pv (.slc c.Foes.length false (c.Foes.flatMap encGFoe)), I c.Map.W, I c.Map.H, .pv (.slc c.Map.Wall.length false (encB c.Map.Wall)), I c.Door.X, I c.Door.Y, I c.Lair.X, I c.Lair.Y]), (1, .box [I f.Id, I f.Health, I f.Hit, I f.Every, I f.Reach, .pv (.slc f.Script.length false (f.Script.flatMap encGLine)), .pv (.slc f.Hoard.length false (f.Hoard.flatMap encGPrize)), I f.Drops])], 2, [], 104, 0⟩ : St)) (fun k0 : Nat => foeR_L0 c (f.Script.drop k0) k0 = foeR_L0 c f.Script 0 ∧ k0 ≤ f.Script.length) (fun k0 : Nat => f.Script.length - k0) 0 (⟨rfl, Nat.zero_le _⟩) ?_ (fun k0 hh_ => ?_)
   ·exact (Trans.ren [] (by decide +kernel) (by decide +kernel) rfl ⟨⟨rfl, rfl⟩, ⟨rfl, rfl⟩, ⟨rfl, rfl⟩, trivial⟩ ⟨⟨rfl, rfl, rfl⟩, ⟨rfl, rfl, rfl⟩, trivial⟩ (by decide))
   obtain ⟨hI0, hb0⟩ := hh_
   show Walks Try.prog _ _ (⟨[(2, .ptr 0 0), (3, .ptr 1 0), (5, I k0)], [(0, .box [.pv (.slc c.Abilities.length false (c.Abilities.flatMap encGAbility)), .pv (.slc c.Auras.length false (c.Auras.flatMap encGAura)), .pv (.slc c.Foes.length false (c.Foes.flatMap encGFoe)), I c.Map.W, I c.Map.H, .pv (.slc c.Map.Wall.length false (encB c.Map.Wall)), I c.Door.X, I c.Door.Y, I c.Lair.X, I c.Lair.Y]), (1, .box [I f.Id, I f.Health, I f.Hit, I f.Every, I f.Reach, .pv (.slc f.Script.length false (f.Script.flatMap encGLine)), .pv (.slc f.Hoard.length false (f.Hoard.flatMap encGPrize)), I f.Drops])], 2, [], 104, 0⟩ : St)
   refine sem_seq (sem_seq (sem_region rfl (step_r rfl rfl trivial (step_r rfl rfl (by decide) (step_r rfl rfl trivial (step_r rfl rfl trivial (step_bin rfl rfl rfl rfl rfl trivial (step_nil (seqK_n ?_)))))))))
   refine sem_cond rfl (fun h44 => ?_) (fun h44 => ?_)
   ·have g44 : (k0 : Int) < f.Script.length := of_decide_eq_true h44
    have hk0 : k0 < f.Script.length := by omega
    obtain ⟨x0, hx0⟩ : ∃ z_, f.Script[k0]? = some z_ := ⟨_, List.getElem?_eq_getElem hk0⟩
    refine sem_skip (seqK_n (sem_seq (sem_block (sem_seq ?_))))
    refine sem_drawn rfl (by decide +kernel) rfl ?_
    refine step_r (v := (.agg [_, _, _, _, _, _, _, _, _, _])) rfl rfl (Nat.le_of_ble_eq_true rfl) (step_r rfl rfl (by decide) (step_r rfl rfl trivial (step_r rfl rfl trivial (step_idxS (k := k0) rfl rfl rfl rfl hk0 (flat_ne (s := 5) (enc := encGLine) (fun _ => rfl) (by decide) hk0) rfl (step_load_row rfl rfl rfl (flat_lt (s := 5) (enc := encGLine) (fun _ => rfl) hk0) (flat_take (s := 5) (enc := encGLine) (fun _ => rfl) hx0) rfl (step_call rfl rfl rfl rfl (lineR_ok c x0 (by first | assumption | grind)) rfl rfl rfl (step_r rfl rfl trivial (step_nil (seqK_n (sem_seq (sem_region rfl ?_)))))))))))
    refine step_r rfl rfl trivial (step_r rfl rfl trivial (step_nil (seqK_n ?_)))
    refine sem_cond rfl (fun h46 => ?_) (fun h46 => ?_)
    ·have g46 : ¬ (lineR c x0 = true) := boo_f (not_t h46)
     refine sem_seq (sem_region rfl (step_r rfl rfl trivial (step_nil (seqK_n (sem_ret (blkK_r (seqK_r (lupK_r (blkK_r (cutW_r (seqK_r ?_)))))))))))
     have e47 : foeR_L0 c f.Script 0 = .inl false := by
      rewrite [← hI0, drop_cons hx0]
      rewrite [foeR_L0]
      try dsimp only
      rewrite [if_neg g46]
      all_goals rfl
     have e48 : foeR c f = false := by
      unfold foeR
      try dsimp only
      rewrite [hJ1]
      try dsimp only
      rewrite [e47]
      try dsimp only
      all_goals rfl
     rw [e48]
     exact answersR rfl ⟨trivial, trivial⟩ (rfl) rfl
    ·have g46 : lineR c x0 = true := (not_f h46)
     refine sem_skip (blkK_n (seqK_n (sem_region rfl (step_r rfl rfl trivial (step_bin rfl rfl rfl rfl rfl trivial (step_r rfl rfl trivial (step_nil ?_)))))))
     have e50 : foeR_L0 c (f.Script.drop k0) k0 = foeR_L0 c (f.Script.drop (k0 + 1)) (k0 + 1) := by
      rewrite [drop_cons hx0]
      rewrite [foeR_L0]
      try dsimp only
      rewrite [if_pos g46]
      all_goals rfl
     exact lup_againT (k0 + 1) ⟨e50.symm.trans hI0, hk0⟩ (by show f.Script.length - (k0 + 1) < f.Script.length - k0; omega) (Trans.ren [] (by decide +kernel) (by decide +kernel) rfl ⟨⟨rfl, rfl⟩, ⟨rfl, rfl⟩, ⟨congrArg (fun n => some (I n)) (wrapI (k := k0) (by first | omega | (simp; omega))), rfl⟩, trivial⟩ ⟨⟨rfl, rfl, rfl⟩, ⟨rfl, rfl, rfl⟩, trivial⟩ (by decide))
   ·have g44 : ¬ ((k0 : Int) < f.Script.length) := of_decide_eq_false h44
    have hk0 : k0 = f.Script.length := by omega
    refine sem_exit (seqK_e (lupK_e (blkK_t rfl ?_)))
    have e51 : foeR_L0 c f.Script 0 = .inr () := by
     rewrite [← hI0, hk0, List.drop_length]
     rewrite [foeR_L0]
     try dsimp only
     all_goals rfl
    exact cutW_n () e51 (Trans.ren [(0, 1), (1, 0)] (by decide +kernel) (by decide +kernel) rfl ⟨⟨rfl, rfl⟩, trivial⟩ ⟨⟨rfl, rfl, rfl⟩, trivial⟩ (by decide))
  ·rintro ⟨⟩ (hJ42 : foeR_L0 c f.Script 0 = .inr ())
   show seqK _ _ _ .normal (⟨[(3, .ptr 0 0)], [(0, .box [I f.Id, I f.Health, I f.Hit, I f.Every, I f.Reach, .pv (.slc f.Script.length false (f.Script.flatMap encGLine)), .pv (.slc f.Hoard.length false (f.Hoard.flatMap encGPrize)), I f.Drops])], 1, [], 104, 0⟩ : St)
   refine seqK_n (sem_seq (sem_seq (sem_region rfl (step_r rfl rfl trivial (step_nil (seqK_n ?_))))))
   refine sem_cutW (fun w_ : Unit => match w_ with | () => (⟨[], [], 0, [], 104, 0⟩ : St)) (fun w_ => foeR_L1 f.Hoard 0 = .inr w_) ?_ ?_
   ·refine sem_block ?_
    refine sem_loopT (fun k1 : Nat => (⟨[(3, .ptr 0 0), (7, I k1)], [(0, .box [I f.Id, I f.Health, I f.Hit, I f.Every, I f.Reach, .pv (.slc f.Script.length false (f.Script.flatMap encGLine)), .pv (.slc f.Hoard.length false (f.Hoard.flatMap encGPrize)), I f.Drops])], 1, [], 104, 0⟩ : St)) (fun k1 : Nat => foeR_L1 (f.Hoard.drop k1) k1 = foeR_L1 f.Hoard 0 ∧ k1 ≤ f.Hoard.length) (fun k1 : Nat => f.Hoard.length - k1) 0 (⟨rfl, Nat.zero_le _⟩) ?_ (fun k1 hh_ => ?_)
    ·exact (Trans.ren [] (by decide +kernel) (by decide +kernel) rfl ⟨⟨rfl, rfl⟩, ⟨rfl, rfl⟩, trivial⟩ ⟨⟨rfl, rfl, rfl⟩, trivial⟩ (by decide))
    obtain ⟨hI1, hb1⟩ := hh_
    show Walks Try.prog _ _ (⟨[(3, .ptr 0 0), (7, I k1)], [(0, .box [I f.Id, I f.Health, I f.Hit, I f.Every, I f.Reach, .pv (.slc f.Script.length false (f.Script.flatMap encGLine)), .pv (.slc f.Hoard.length false (f.Hoard.flatMap encGPrize)), I f.Drops])], 1, [], 104, 0⟩ : St)
    refine sem_seq (sem_seq (sem_region rfl (step_r rfl rfl trivial (step_r rfl rfl (by decide) (step_r rfl rfl trivial (step_r rfl rfl trivial (step_bin rfl rfl rfl rfl rfl trivial (step_nil (seqK_n ?_)))))))))
    refine sem_cond rfl (fun h54 => ?_) (fun h54 => ?_)
    ·have g54 : (k1 : Int) < f.Hoard.length := of_decide_eq_true h54
     have hk1 : k1 < f.Hoard.length := by omega
     obtain ⟨x1, hx1⟩ : ∃ z_, f.Hoard[k1]? = some z_ := ⟨_, List.getElem?_eq_getElem hk1⟩
     refine sem_skip (seqK_n (sem_seq (sem_block (sem_seq (sem_region rfl (step_r rfl rfl (by decide) (step_r rfl rfl trivial (step_r rfl rfl trivial (step_idxS (k := k1) rfl rfl rfl rfl hk1 (flat_ne (s := 2) (enc := encGPrize) (fun _ => rfl) (by decide) hk1) rfl (step_r rfl rfl (by decide) (step_load_one rfl rfl rfl (flat_get (s := 2) (enc := encGPrize) (fun _ => rfl) hx1 (o := 0) rfl (by decide)) rfl ?_)))))))))))
     refine step_call rfl rfl rfl rfl (amountR_ok x1.Item 1) rfl rfl rfl (step_r rfl rfl trivial (step_r rfl rfl trivial ?_))
     refine step_gs rfl (fun h56 => ?_) (fun h56 => ?_)
     ·have g56 : ¬ (amountR x1.Item 1 = true) := boo_f (not_t h56)
      refine step_g0 rfl h56 rfl (step_g0 rfl h56 rfl (step_g0 rfl h56 rfl (step_g0 rfl h56 rfl (step_g0 rfl h56 rfl (step_g0 rfl h56 rfl (step_g0 rfl h56 rfl (step_g0 rfl h56 rfl (step_pickT rfl h56 rfl rfl (step_nil (seqK_n (sem_condT rfl ?_)))))))))))
      refine sem_seq (sem_region rfl (step_r rfl rfl trivial (step_nil (seqK_n (sem_ret (blkK_r (seqK_r (lupK_r (blkK_r (cutW_r (seqK_r ?_)))))))))))
      have e57 : foeR_L1 f.Hoard 0 = .inl false := by
       rewrite [← hI1, drop_cons hx1]
       rewrite [foeR_L1]
       try dsimp only
       rewrite [if_neg g56]
       all_goals rfl
      have e58 : foeR c f = false := by
       unfold foeR
       try dsimp only
       rewrite [hJ1]
       try dsimp only
       rewrite [hJ42]
       try dsimp only
       rewrite [e57]
       try dsimp only
       all_goals rfl
      rw [e58]
      exact answersR rfl ⟨trivial, trivial⟩ (rfl) rfl
     ·have g56 : amountR x1.Item 1 = true := (not_f h56)
      refine step_g1 rfl h56 (step_r rfl rfl (by decide) (step_g1 rfl h56 (step_r rfl rfl trivial (step_g1 rfl h56 (step_r rfl rfl trivial (step_g1 rfl h56 (step_idxS (k := k1) rfl rfl rfl rfl hk1 (flat_ne (s := 2) (enc := encGPrize) (fun _ => rfl) (by decide) hk1) rfl (step_g1 rfl h56 (step_r rfl rfl (by decide) (step_g1 rfl h56 (step_load_one rfl rfl rfl (flat_get (s := 2) (enc := encGPrize) (fun _ => rfl) hx1 (o := 1) rfl (by decide)) rfl ?_)))))))))))
      refine step_g1 rfl h56 (step_call rfl rfl rfl rfl (amountR_ok x1.Weight 1) rfl rfl rfl (step_g1 rfl h56 (step_r rfl rfl trivial (step_pickF rfl h56 rfl rfl (step_nil (seqK_n ?_))))))
      refine sem_cond rfl (fun h60 => ?_) (fun h60 => ?_)
      ·have g60 : ¬ (amountR x1.Weight 1 = true) := boo_f (not_t h60)
       refine sem_seq (sem_region rfl (step_r rfl rfl trivial (step_nil (seqK_n (sem_ret (blkK_r (seqK_r (lupK_r (blkK_r (cutW_r (seqK_r ?_)))))))))))
       have e61 : foeR_L1 f.Hoard 0 = .inl false := by
        rewrite [← hI1, drop_cons hx1]
        rewrite [foeR_L1]
        try dsimp only
        rewrite [if_pos g56, if_neg g60]
        all_goals rfl
       have e62 : foeR c f = false := by
        unfold foeR
        try dsimp only
        rewrite [hJ1]
        try dsimp only
        rewrite [hJ42]
        try dsimp only
        rewrite [e61]
        try dsimp only
        all_goals rfl
       rw [e62]
       exact answersR rfl ⟨trivial, trivial⟩ (rfl) rfl
      ·have g60 : amountR x1.Weight 1 = true := (not_f h60)
       refine sem_skip (blkK_n (seqK_n (sem_region rfl (step_r rfl rfl trivial (step_bin rfl rfl rfl rfl rfl trivial (step_r rfl rfl trivial (step_nil ?_)))))))
       have e64 : foeR_L1 (f.Hoard.drop k1) k1 = foeR_L1 (f.Hoard.drop (k1 + 1)) (k1 + 1) := by
        rewrite [drop_cons hx1]
        rewrite [foeR_L1]
        try dsimp only
        rewrite [if_pos g56, if_pos g60]
        all_goals rfl
       exact lup_againT (k1 + 1) ⟨e64.symm.trans hI1, hk1⟩ (by show f.Hoard.length - (k1 + 1) < f.Hoard.length - k1; omega) (Trans.ren [] (by decide +kernel) (by decide +kernel) rfl ⟨⟨rfl, rfl⟩, ⟨congrArg (fun n => some (I n)) (wrapI (k := k1) (by first | omega | (simp; omega))), rfl⟩, trivial⟩ ⟨⟨rfl, rfl, rfl⟩, trivial⟩ (by decide))
    ·have g54 : ¬ ((k1 : Int) < f.Hoard.length) := of_decide_eq_false h54
     have hk1 : k1 = f.Hoard.length := by omega
     refine sem_exit (seqK_e (lupK_e (blkK_t rfl ?_)))
     have e65 : foeR_L1 f.Hoard 0 = .inr () := by
      rewrite [← hI1, hk1, List.drop_length]
      rewrite [foeR_L1]
      try dsimp only
      all_goals rfl
     exact cutW_n () e65 (Trans.ren [] (by decide +kernel) (by decide +kernel) rfl trivial trivial (by decide))
   ·rintro ⟨⟩ (hJ52 : foeR_L1 f.Hoard 0 = .inr ())
    show seqK _ _ _ .normal (⟨[], [], 0, [], 104, 0⟩ : St)
    refine seqK_n (sem_seq (sem_region rfl (step_r rfl rfl trivial (step_nil (seqK_n (sem_ret ?_))))))
    have e66 : foeR c f = true := by
     unfold foeR
     try dsimp only
     rewrite [hJ1]
     try dsimp only
     rewrite [hJ42]
     try dsimp only
     rewrite [hJ52]
     try dsimp only
     all_goals rfl
    rw [e66]
    exact answersR rfl ⟨trivial, trivial⟩ (rfl) rfl

def firstR_L0 (bad : List Bool) (ids : List Int) : Nat → Nat → Sum Int Unit
  | 0, k0 => .inr ()
  | n_ + 1, k0 => if bad.getD k0 default = true then .inl (k0 : Int) else if (ids.getD k0 default : Int) < 1 then .inl (k0 : Int) else if (k0 : Int) > 0 then (if (ids.getD k0 default : Int) ≤ (ids.getD ((IntKind.i64.wrap (k0 - 1)).toNat) default) then .inl (k0 : Int) else firstR_L0 bad ids n_ (k0 + 1)) else firstR_L0 bad ids n_ (k0 + 1)
def firstR (bad : List Bool) (ids : List Int) : Int :=
  (match firstR_L0 bad ids ((min bad.length 64) - 0) 0 with
    | .inl r_ => r_
    | .inr () => if (bad.length : Int) > 64 then 64 else (-1))
theorem firstR_ok (bad : List Bool) (bad_f : Bool) (ids : List Int) (ids_f : Bool) (hb : bad.length = ids.length) : Ok Try.prog 78 [.pv (.slc bad.length bad_f (encB bad)), .pv (.slc ids.length ids_f (encI ids))] [] (I (firstR bad ids)) [] [] := by
 refine Ok.len fun hlen => ?_
 have hl_bad : bad.length ≤ maxLen := hlen _ (by simp [lensL, lens, lensP])
 have hl_ids : ids.length ≤ maxLen := hlen _ (by simp [lensL, lens, lensP])
 unfold maxLen at hl_bad hl_ids
 refine ok_of_sem Try.func78 rfl ?_
 show Walks Try.prog _ _ ⟨[(0, .pv (.slc bad.length bad_f (encB bad))), (1, .pv (.slc ids.length ids_f (encI ids)))], [], 0, [], 47, 0⟩
 refine sem_seq (sem_region rfl (step_r rfl rfl trivial (step_nil (seqK_n (sem_seq (sem_seq (sem_region rfl (step_r rfl rfl trivial (step_nil (seqK_n ?_))))))))))
 refine sem_cutW (fun w_ : Unit => match w_ with | () => (⟨[(0, .pv (.slc bad.length bad_f (encB bad)))], [], 0, [], 47, 0⟩ : St)) (fun w_ => firstR_L0 bad ids ((min bad.length 64) - 0) 0 = .inr w_) ?_ ?_
 ·refine sem_block ?_
  refine sem_loopT (fun k0 : Nat => (⟨[(0, .pv (.slc bad.length bad_f (encB bad))), (1, .pv (.slc ids.length ids_f (encI ids))), (5, I k0)], [], 0, [], 47, 0⟩ : St)) (fun k0 : Nat => firstR_L0 bad ids ((min bad.length 64) - k0) k0 = firstR_L0 bad ids ((min bad.length 64) - 0) 0 ∧ k0 ≤ min bad.length 64) (fun k0 : Nat => min bad.length 64 - k0) 0 (⟨rfl, (by first | omega | (simp; omega))⟩) ?_ (fun k0 hh_ => ?_)
  ·exact (Trans.ren [] (by decide +kernel) (by decide +kernel) rfl ⟨⟨rfl, rfl⟩, ⟨rfl, rfl⟩, ⟨rfl, rfl⟩, trivial⟩ trivial (by decide))
  obtain ⟨hI0, hb0⟩ := hh_
  show Walks Try.prog _ _ (⟨[(0, .pv (.slc bad.length bad_f (encB bad))), (1, .pv (.slc ids.length ids_f (encI ids))), (5, I k0)], [], 0, [], 47, 0⟩ : St)
  refine sem_seq (sem_seq (sem_region rfl (step_r rfl rfl trivial (step_r rfl rfl trivial (step_r rfl rfl trivial (step_bin rfl rfl rfl rfl rfl trivial (step_r rfl rfl trivial ?_)))))))
  refine step_gs rfl (fun h4 => ?_) (fun h4 => ?_)
  ·have g4 : (k0 : Int) < bad.length := of_decide_eq_true h4
   refine step_g1 rfl h4 (step_r rfl rfl trivial (step_g1 rfl h4 (step_bin rfl rfl rfl rfl rfl trivial (step_pickT rfl h4 rfl rfl (step_nil (seqK_n ?_))))))
   refine sem_cond rfl (fun h6 => ?_) (fun h6 => ?_)
   ·have g6 : (k0 : Int) < 64 := of_decide_eq_true h6
    have hm0 : min bad.length 64 - k0 = (min bad.length 64 - (k0 + 1)) + 1 := by omega
    refine sem_skip (seqK_n (sem_seq (sem_block (sem_seq ?_))))
    refine sem_drawn rfl (by decide +kernel) rfl ?_
    refine step_r rfl rfl trivial (step_r rfl rfl trivial ?_)
    have jk7 : k0 < bad.length := by first | assumption | omega | (simp only [List.length_set, List.length_append]; omega) | (simp only [IntKind.wrap_i64] at *; omega) | (simp; omega) | simp_all
    refine step_idxS (k := k0) rfl rfl rfl rfl jk7 (encB_ne jk7) rfl (step_load_one rfl rfl rfl (encB_get (get_getD jk7)) rfl (step_r rfl rfl trivial ?_))
    refine step_gs rfl (fun h9 => ?_) (fun h9 => ?_)
    ·have g9 : bad.getD k0 default = true := h9
     refine step_g0 rfl h9 rfl (step_g0 rfl h9 rfl (step_g0 rfl h9 rfl (step_g0 rfl h9 rfl (step_g0 rfl h9 rfl (step_pickT rfl h9 rfl rfl (step_r rfl rfl trivial (step_gf rfl rfl (step_gf rfl rfl (step_gf rfl rfl (step_gf rfl rfl (step_gf rfl rfl ?_)))))))))))
     refine step_gf rfl rfl (step_gf rfl rfl (step_gf rfl rfl (step_gf rfl rfl (step_gf rfl rfl (step_gf rfl rfl (step_gf rfl rfl (step_gf rfl rfl (step_gf rfl rfl (step_r rfl rfl trivial (step_nil (seqK_n ?_)))))))))))
     refine sem_condT rfl (sem_seq (sem_region rfl (step_r rfl rfl trivial (step_r rfl rfl trivial (step_nil (seqK_n (sem_ret (blkK_r (seqK_r (lupK_r (blkK_r ?_)))))))))))
     refine cutW_r (seqK_r ?_)
     have e10 : firstR_L0 bad ids ((min bad.length 64) - 0) 0 = .inl (k0 : Int) := by
      rewrite [← hI0, hm0]
      rewrite [firstR_L0]
      try dsimp only
      rewrite [if_pos g9]
      all_goals rfl
     have e11 : firstR bad ids = (k0 : Int) := by
      unfold firstR
      try dsimp only
      rewrite [e10]
      try dsimp only
      all_goals rfl
     rw [e11]
     exact answersR rfl ⟨trivial, trivial⟩ (rfl) rfl
    ·have g9 : ¬ (bad.getD k0 default = true) := boo_f h9
     refine step_g1 rfl h9 (step_r rfl rfl trivial (step_g1 rfl h9 (step_r rfl rfl trivial (step_g1 rfl h9 ?_))))
     have jk12 : k0 < ids.length := by first | assumption | omega | (simp only [List.length_set, List.length_append]; omega) | (simp only [IntKind.wrap_i64] at *; omega) | (simp; omega) | simp_all
     refine step_idxS (k := k0) rfl rfl rfl rfl jk12 (encI_ne jk12) rfl (step_g1 rfl h9 (step_load_one rfl rfl rfl (encI_get (get_getD jk12)) rfl (step_g1 rfl h9 (step_bin rfl rfl rfl rfl rfl trivial (step_pickF rfl h9 rfl rfl (step_r rfl rfl trivial ?_))))))
     refine step_gs rfl (fun h14 => ?_) (fun h14 => ?_)
     ·have g14 : (ids.getD k0 default : Int) < 1 := of_decide_eq_true h14
      refine step_g0 rfl h14 rfl (step_g0 rfl h14 rfl (step_g0 rfl h14 rfl (step_gf rfl rfl (step_gf rfl rfl (step_gf rfl rfl (step_gf rfl rfl (step_gf rfl rfl (step_gf rfl rfl (step_gf rfl rfl (step_gf rfl rfl (step_gf rfl rfl ?_)))))))))))
      refine step_gf rfl rfl (step_g0 rfl h14 rfl (step_pickT rfl h14 rfl rfl (step_nil (seqK_n (sem_condT rfl (sem_seq (sem_region rfl (step_r rfl rfl trivial (step_r rfl rfl trivial (step_nil (seqK_n ?_)))))))))))
      refine sem_ret (blkK_r (seqK_r (lupK_r (blkK_r (cutW_r (seqK_r ?_))))))
      have e15 : firstR_L0 bad ids ((min bad.length 64) - 0) 0 = .inl (k0 : Int) := by
       rewrite [← hI0, hm0]
       rewrite [firstR_L0]
       try dsimp only
       rewrite [if_neg g9, if_pos g14]
       all_goals rfl
      have e16 : firstR bad ids = (k0 : Int) := by
       unfold firstR
       try dsimp only
       rewrite [e15]
       try dsimp only
       all_goals rfl
      rw [e16]
      exact answersR rfl ⟨trivial, trivial⟩ (rfl) rfl
     ·have g14 : ¬ ((ids.getD k0 default : Int) < 1) := of_decide_eq_false h14
      refine step_g1 rfl h14 (step_r rfl rfl trivial (step_g1 rfl h14 (step_bin rfl rfl rfl rfl rfl trivial (step_g1 rfl h14 (step_r rfl rfl trivial ?_)))))
      refine step_gs rfl (fun h18 => ?_) (fun h18 => ?_)
      ·have g18 : (k0 : Int) > 0 := of_decide_eq_true h18
       refine step_g1 rfl h18 (step_r rfl rfl trivial (step_g1 rfl h18 (step_r rfl rfl trivial (step_g1 rfl h18 (step_idxS (k := k0) rfl rfl rfl rfl jk12 (encI_ne jk12) rfl (step_g1 rfl h18 (step_load_one rfl rfl rfl (encI_get (get_getD jk12)) rfl (step_g1 rfl h18 (step_r rfl rfl trivial (step_g1 rfl h18 (step_r rfl rfl trivial ?_)))))))))))
       refine step_g1 rfl h18 (step_bin rfl rfl rfl rfl rfl trivial (step_g1 rfl h18 ?_))
       have jk19 : (IntKind.i64.wrap (k0 - 1)).toNat < ids.length := by first | assumption | omega | (simp only [List.length_set, List.length_append]; omega) | (simp only [IntKind.wrap_i64] at *; omega) | (simp; omega) | simp_all
       refine step_idxS' (k := (IntKind.i64.wrap (k0 - 1)).toNat) rfl rfl (Int.toNat_of_nonneg (by first | omega | (simp only [IntKind.wrap_i64]; omega) | (simp only [IntKind.wrap_i64] at *; omega) | (simp; omega))).symm rfl rfl jk19 (encI_ne jk19) rfl ?_
       refine step_g1 rfl h18 (step_load_one rfl rfl rfl (encI_get (get_getD jk19)) rfl (step_g1 rfl h18 (step_bin rfl rfl rfl rfl rfl trivial (step_g1 rfl h14 (step_pickT rfl h18 rfl rfl (step_pickF rfl h14 rfl rfl (step_nil (seqK_n ?_))))))))
       refine sem_cond rfl (fun h21 => ?_) (fun h21 => ?_)
       ·have g21 : (ids.getD k0 default : Int) ≤ (ids.getD ((IntKind.i64.wrap (k0 - 1)).toNat) default) := of_decide_eq_true h21
        refine sem_seq (sem_region rfl (step_r rfl rfl trivial (step_r rfl rfl trivial (step_nil (seqK_n (sem_ret (blkK_r (seqK_r (lupK_r (blkK_r (cutW_r ?_)))))))))))
        refine seqK_r ?_
        have e22 : firstR_L0 bad ids ((min bad.length 64) - 0) 0 = .inl (k0 : Int) := by
         rewrite [← hI0, hm0]
         rewrite [firstR_L0]
         try dsimp only
         rewrite [if_neg g9, if_neg g14, if_pos g18, if_pos g21]
         all_goals rfl
        have e23 : firstR bad ids = (k0 : Int) := by
         unfold firstR
         try dsimp only
         rewrite [e22]
         try dsimp only
         all_goals rfl
        rw [e23]
        exact answersR rfl ⟨trivial, trivial⟩ (rfl) rfl
       ·have g21 : ¬ ((ids.getD k0 default : Int) ≤ (ids.getD ((IntKind.i64.wrap (k0 - 1)).toNat) default)) := of_decide_eq_false h21
        refine sem_skip (blkK_n (seqK_n (sem_region rfl (step_r rfl rfl trivial (step_bin rfl rfl rfl rfl rfl trivial (step_r rfl rfl trivial (step_nil ?_)))))))
        have e25 : firstR_L0 bad ids ((min bad.length 64) - k0) k0 = firstR_L0 bad ids ((min bad.length 64) - (k0 + 1)) (k0 + 1) := by
         rewrite [hm0]
         rewrite [firstR_L0]
         try dsimp only
         rewrite [if_neg g9, if_neg g14, if_pos g18, if_neg g21]
         all_goals rfl
        exact lup_againT (k0 + 1) ⟨e25.symm.trans hI0, (by omega)⟩ (by show min bad.length 64 - (k0 + 1) < min bad.length 64 - k0; omega) (Trans.ren [] (by decide +kernel) (by decide +kernel) rfl ⟨⟨rfl, rfl⟩, ⟨rfl, rfl⟩, ⟨congrArg (fun n => some (I n)) (wrapI (k := k0) (by first | omega | (simp; omega))), rfl⟩, trivial⟩ trivial (by decide))
      ·have g18 : ¬ ((k0 : Int) > 0) := of_decide_eq_false h18
       refine step_g0 rfl h18 rfl (step_g0 rfl h18 rfl (step_g0 rfl h18 rfl (step_g0 rfl h18 rfl (step_g0 rfl h18 rfl (step_g0 rfl h18 rfl (step_g0 rfl h18 rfl (step_g0 rfl h18 rfl (step_g0 rfl h18 rfl (step_g0 rfl h18 rfl (step_g1 rfl h14 (step_pickF rfl h18 rfl rfl ?_)))))))))))
       refine step_pickF rfl h14 rfl rfl (step_nil (seqK_n (sem_condF rfl (sem_skip (blkK_n (seqK_n (sem_region rfl (step_r rfl rfl trivial (step_bin rfl rfl rfl rfl rfl trivial (step_r rfl rfl trivial (step_nil ?_)))))))))))
       have e27 : firstR_L0 bad ids ((min bad.length 64) - k0) k0 = firstR_L0 bad ids ((min bad.length 64) - (k0 + 1)) (k0 + 1) := by
        rewrite [hm0]
        rewrite [firstR_L0]
        try dsimp only
        rewrite [if_neg g9, if_neg g14, if_neg g18]
        all_goals rfl
       exact lup_againT (k0 + 1) ⟨e27.symm.trans hI0, (by omega)⟩ (by show min bad.length 64 - (k0 + 1) < min bad.length 64 - k0; omega) (Trans.ren [] (by decide +kernel) (by decide +kernel) rfl ⟨⟨rfl, rfl⟩, ⟨rfl, rfl⟩, ⟨congrArg (fun n => some (I n)) (wrapI (k := k0) (by first | omega | (simp; omega))), rfl⟩, trivial⟩ trivial (by decide))
   ·have g6 : ¬ ((k0 : Int) < 64) := of_decide_eq_false h6
    have hm0 : min bad.length 64 - k0 = 0 := by omega
    refine sem_exit (seqK_e (lupK_e (blkK_t rfl ?_)))
    have e28 : firstR_L0 bad ids ((min bad.length 64) - 0) 0 = .inr () := by
     rewrite [← hI0, hm0]
     rewrite [firstR_L0]
     try dsimp only
     all_goals rfl
    exact cutW_n () e28 (Trans.ren [] (by decide +kernel) (by decide +kernel) rfl ⟨⟨rfl, rfl⟩, trivial⟩ trivial (by decide))
  ·have g4 : ¬ ((k0 : Int) < bad.length) := of_decide_eq_false h4
   refine step_g0 rfl h4 rfl (step_g0 rfl h4 rfl (step_pickF rfl h4 rfl rfl (step_nil (seqK_n (sem_condF rfl ?_)))))
   have hm0 : min bad.length 64 - k0 = 0 := by omega
   refine sem_exit (seqK_e (lupK_e (blkK_t rfl ?_)))
   have e29 : firstR_L0 bad ids ((min bad.length 64) - 0) 0 = .inr () := by
    rewrite [← hI0, hm0]
    rewrite [firstR_L0]
    try dsimp only
    all_goals rfl
   exact cutW_n () e29 (Trans.ren [] (by decide +kernel) (by decide +kernel) rfl ⟨⟨rfl, rfl⟩, trivial⟩ trivial (by decide))
 ·rintro ⟨⟩ (hJ1 : firstR_L0 bad ids ((min bad.length 64) - 0) 0 = .inr ())
  show seqK _ _ _ .normal (⟨[(0, .pv (.slc bad.length bad_f (encB bad)))], [], 0, [], 47, 0⟩ : St)
  refine seqK_n (sem_seq (sem_seq (sem_region rfl (step_r rfl rfl trivial (step_r rfl rfl trivial (step_bin rfl rfl rfl rfl rfl trivial (step_nil (seqK_n ?_))))))))
  refine sem_cond rfl (fun h30 => ?_) (fun h30 => ?_)
  ·have g30 : (bad.length : Int) > 64 := of_decide_eq_true h30
   refine sem_seq (sem_region rfl (step_r rfl rfl trivial (step_nil (seqK_n (sem_ret (seqK_r ?_))))))
   have e31 : firstR bad ids = 64 := by
    unfold firstR
    try dsimp only
    rewrite [hJ1]
    try dsimp only
    rewrite [if_pos g30]
    all_goals rfl
   rw [e31]
   exact answersR rfl ⟨trivial, trivial⟩ (rfl) rfl
  ·have g30 : ¬ ((bad.length : Int) > 64) := of_decide_eq_false h30
   refine sem_skip (seqK_n (sem_seq (sem_region rfl (step_r rfl rfl trivial (step_nil (seqK_n (sem_ret ?_)))))))
   have e32 : firstR bad ids = (-1) := by
    unfold firstR
    try dsimp only
    rewrite [hJ1]
    try dsimp only
    rewrite [if_neg g30]
    all_goals rfl
   rw [e32]
   exact answersR rfl ⟨trivial, trivial⟩ (rfl) rfl

def checkR_L0 (c : GContent) : List GAbility → Nat → (List Bool) → (List Int) → (List Bool) × (List Int)
  | [], k0, bad0, ids0 => (bad0, ids0)
  | x0 :: l_, k0, bad0, ids0 => checkR_L0 c l_ (k0 + 1) (bad0 ++ [(!(abilityR c x0))]) (ids0 ++ [x0.Id])
def checkR_L1 : List GAura → Nat → (List Bool) → (List Int) → (List Bool) × (List Int)
  | [], k1, bad1, ids1 => (bad1, ids1)
  | x1 :: l_, k1, bad1, ids1 => checkR_L1 l_ (k1 + 1) (bad1 ++ [(!(auraR x1))]) (ids1 ++ [x1.Id])
def checkR_L2 (c : GContent) : List GFoe → Nat → (List Bool) → (List Int) → (List Bool) × (List Int)
  | [], k2, bad2, ids2 => (bad2, ids2)
  | x2 :: l_, k2, bad2, ids2 => checkR_L2 c l_ (k2 + 1) (bad2 ++ [(!(foeR c x2))]) (ids2 ++ [x2.Id])
def checkR (c : GContent) : GFlaw × Bool :=
  (match checkR_L0 c c.Abilities 0 ([]) ([]) with
    | (bad_0, ids_0) => if (firstR bad_0 ids_0 : Int) ≥ 0 then ((⟨1, (firstR bad_0 ids_0)⟩ : GFlaw), false) else (match checkR_L1 c.Auras 0 ([]) ([]) with
    | (bad_1, ids_1) => if (firstR bad_1 ids_1 : Int) ≥ 0 then ((⟨2, (firstR bad_1 ids_1)⟩ : GFlaw), false) else (match checkR_L2 c c.Foes 0 ([]) ([]) with
    | (bad_2, ids_2) => if (firstR bad_2 ids_2 : Int) ≥ 0 then ((⟨3, (firstR bad_2 ids_2)⟩ : GFlaw), false) else if gridWallR c.Map c.Door = true then ((⟨4, 0⟩ : GFlaw), false) else if gridWallR c.Map c.Lair = true then ((⟨4, 0⟩ : GFlaw), false) else ((⟨0, 0⟩ : GFlaw), true))))
theorem checkR_ok (c : GContent) (hF : Few9 c) : Ok Try.prog 56 [aGContent c] [] (.tup [aGFlaw (checkR c).1, B (checkR c).2]) [] [] := by
 refine Ok.len fun hlen => ?_
 have hl_c_Abilities : c.Abilities.length ≤ maxLen := hlen _ (by simp [lensL, lens, lensP])
 have hl_c_Auras : c.Auras.length ≤ maxLen := hlen _ (by simp [lensL, lens, lensP])
 have hl_c_Foes : c.Foes.length ≤ maxLen := hlen _ (by simp [lensL, lens, lensP])
 have hl_c_Map_Wall : c.Map.Wall.length ≤ maxLen := hlen _ (by simp [lensL, lens, lensP])
 unfold maxLen at hl_c_Abilities hl_c_Auras hl_c_Foes hl_c_Map_Wall
 have hF1 := hF.ab
 have hF2 := hF.au
 have hF3 := hF.fo
 refine ok_of_sem Try.func56 rfl ?_
 show Walks Try.prog _ _ ⟨[(0, aGContent c)], [], 0, [], 131, 0⟩
 refine sem_seq (sem_region rfl (step_n (o := .box [_, _, _, _, _, _, _, _, _, _]) (nx' := 1) rfl rfl rfl trivial (step_n (o := .box [_, _]) (nx' := 2) rfl rfl rfl trivial (step_r rfl rfl trivial (step_nil (seqK_n (sem_seq (sem_region rfl (step_n (nx' := 3) rfl rfl rfl trivial (step_nil (seqK_n ?_)))))))))))
 refine sem_seq (sem_region rfl (step_n (nx' := 4) rfl rfl rfl trivial (step_nil (seqK_n (sem_seq (sem_seq (sem_region rfl (step_r rfl rfl trivial (step_nil (seqK_n ?_))))))))))
 refine sem_cutW (fun w_ : (List Bool) × (List Int) => match w_ with | (bad_0, ids_0) => (⟨[(1, .ptr 0 0), (2, .ptr 1 0), (4, .ref 2 1 0 bad_0.length), (5, .ref 3 1 0 ids_0.length)], [(0, .box [.pv (.slc c.Abilities.length false (c.Abilities.flatMap encGAbility)), .pv (.slc c.Auras.length false (c.Auras.flatMap encGAura)), .pv (.slc c.Foes.length false (c.Foes.flatMap encGFoe)), I c.Map.W, I c.Map.H, .pv (.slc c.Map.Wall.length false (encB c.Map.Wall)), I c.Door.X, I c.Door.Y, I c.Lair.X, I c.Lair.Y]), (1, .box [I 0, I 0]), (2, .row 4 1 (encB bad_0)), (3, .row 3 1 (encI ids_0))], 4, [], 131, 0⟩ : St)) (fun w_ : (List Bool) × (List Int) => match w_ with | (bad_0, ids_0) => checkR_L0 c c.Abilities 0 ([]) ([]) = (bad_0, ids_0) ∧ (bad_0.length = ids_0.length)) ?_ ?_
 ·refine sem_block ?_
  refine sem_loopT (fun w_ : Nat × (List Bool) × (List Int) => match w_ with | (k0, bad0, ids0) => (⟨[(1, .ptr 0 0), (2, .ptr 1 0), (4, .ref 2 1 0 bad0.length), (5, .ref 3 1 0 ids0.length), (6, I k0)], [(0, .box [.pv (.slc c.Abilities.length false (c.Abilities.flatMap encGAbility)), .pv (.slc c.Auras.length false (c.Auras.flatMap encGAura)), .pv (.slc c.Foes.length false (c.Foes.flatMap encGFoe)), I c.Map.W, I c.Map.H, .pv (.slc c.Map.Wall.length false (encB c.Map.Wall)), I c.Door.X, I c.Door.Y, I c.Lair.X, I c.Lair.Y]), (1, .box [I 0, I 0]), (2, .row 4 1 (encB bad0)), (3, .row 3 1 (encI ids0))], 4, [], 131, 0⟩ : St)) (fun w_ : Nat × (List Bool) × (List Int) => match w_ with | (k0, bad0, ids0) => checkR_L0 c (c.Abilities.drop k0) k0 bad0 ids0 = checkR_L0 c c.Abilities 0 ([]) ([]) ∧ k0 ≤ c.Abilities.length ∧ bad0.length = k0 ∧ ids0.length = k0) (fun w_ : Nat × (List Bool) × (List Int) => match w_ with | (k0, bad0, ids0) => c.Abilities.length - k0) (0, [], []) (⟨rfl, Nat.zero_le _, by first | omega | simp | (simp; omega)⟩) ?_ (fun w_ hh_ => ?_)
  ·exact (Trans.ren [] (by decide +kernel) (by decide +kernel) rfl ⟨⟨rfl, rfl⟩, ⟨rfl, rfl⟩, ⟨congrArg (fun n => some (AV.ref 2 1 0 n)) (by first | rfl | simp only [List.length_set] | simp | omega | (simp; omega)), rfl⟩, ⟨congrArg (fun n => some (AV.ref 3 1 0 n)) (by first | rfl | simp only [List.length_set] | simp | omega | (simp; omega)), rfl⟩, ⟨rfl, rfl⟩, trivial⟩ ⟨⟨rfl, rfl, rfl⟩, ⟨rfl, rfl, rfl⟩, ⟨rfl, rfl, rfl⟩, ⟨rfl, rfl, rfl⟩, trivial⟩ (by decide))
  obtain ⟨k0, bad0, ids0⟩ := w_
  obtain ⟨hI0, hb0, hv0⟩ := hh_
  show Walks Try.prog _ _ (⟨[(1, .ptr 0 0), (2, .ptr 1 0), (4, .ref 2 1 0 bad0.length), (5, .ref 3 1 0 ids0.length), (6, I k0)], [(0, .box [.pv (.slc c.Abilities.length false (c.Abilities.flatMap encGAbility)), .pv (.slc c.Auras.length false (c.Auras.flatMap encGAura)), .pv (.slc c.Foes.length false (c.Foes.flatMap encGFoe)), I c.Map.W, I c.Map.H, .pv (.slc c.Map.Wall.length false (encB c.Map.Wall)), I c.Door.X, I c.Door.Y, I c.Lair.X, I c.Lair.Y]), (1, .box [I 0, I 0]), (2, .row 4 1 (encB bad0)), (3, .row 3 1 (encI ids0))], 4, [], 131, 0⟩ : St)
  refine sem_seq (sem_seq (sem_region rfl (step_r rfl rfl trivial (step_r rfl rfl (by decide) (step_r rfl rfl trivial (step_r rfl rfl trivial (step_bin rfl rfl rfl rfl rfl trivial (step_nil (seqK_n ?_)))))))))
  refine sem_cond rfl (fun h3 => ?_) (fun h3 => ?_)
  ·have g3 : (k0 : Int) < c.Abilities.length := of_decide_eq_true h3
   have hk0 : k0 < c.Abilities.length := by omega
   obtain ⟨x0, hx0⟩ : ∃ z_, c.Abilities[k0]? = some z_ := ⟨_, List.getElem?_eq_getElem hk0⟩
   refine sem_skip (seqK_n (sem_seq (sem_block (sem_seq ?_))))
   refine sem_drawn rfl (by decide +kernel) rfl ?_
   refine step_r rfl rfl trivial (step_r (v := (.agg [_, _, _, _, _, _, _, _, _, _])) rfl rfl (Nat.le_of_ble_eq_true rfl) (step_r rfl rfl (by decide) (step_r rfl rfl trivial (step_r rfl rfl trivial (step_idxS (k := k0) rfl rfl rfl rfl hk0 (flat_ne (s := 8) (enc := encGAbility) (fun _ => rfl) (by decide) hk0) rfl (step_load_row rfl rfl rfl (flat_lt (s := 8) (enc := encGAbility) (fun _ => rfl) hk0) (flat_take (s := 8) (enc := encGAbility) (fun _ => rfl) hx0) rfl (step_call rfl rfl rfl rfl (abilityR_ok c x0) rfl rfl rfl (step_r rfl rfl trivial (step_n (o := .row _ _ [_]) (nx' := 5) rfl rfl rfl (by decide) ?_)))))))))
   refine step_appendC (m := 1) (new := [_]) (cs' := encB (bad0 ++ [(!(abilityR c x0))])) (n' := (bad0 ++ [(!(abilityR c x0))]).length) (H' := [(4, .row _ _ _), (0, .box [_, _, _, _, _, _, _, _, _, _]), (1, .box [_, _]), (2, .row _ _ _), (3, .row _ _ _)]) rfl rfl rfl (rfl) rfl rfl rfl rfl rfl rfl (encB_len bad0) (rfl) (by first | decide | (unfold maxGrow; omega) | (unfold maxGrow; simp; omega) | (unfold maxGrow; simp only [List.length_append, List.length_take, List.length_drop, List.length_cons, List.length_nil, IntKind.wrap_i64] at *; omega)) (len_snoc bad0 _) (((encB_snoc bad0 (!(abilityR c x0)))).symm) (.inr (by decide +kernel)) rfl rfl (.keep rfl (.keep rfl (.keep rfl (.keep rfl (.keep rfl .nil))))) (.keep rfl (.keep rfl (.keep rfl (.keep rfl (.keep rfl (.keep rfl (.keep rfl (.keep rfl (.keep rfl (.lose (v' := .undef) rfl (.keep rfl (.keep rfl (.keep rfl (.keep rfl (.keep rfl (.keep rfl (.keep rfl (.lose (v' := .undef) rfl (.keep rfl (.keep rfl .nil)))))))))))))))))))) ?_
   refine step_r rfl rfl trivial (step_nil (seqK_n (sem_region rfl (step_r rfl rfl trivial (step_r rfl rfl (by decide) (step_r rfl rfl trivial (step_r rfl rfl trivial (step_idxS (k := k0) rfl rfl rfl rfl hk0 (flat_ne (s := 8) (enc := encGAbility) (fun _ => rfl) (by decide) hk0) rfl (step_r rfl rfl (by decide) (step_load_one rfl rfl rfl (flat_get (s := 8) (enc := encGAbility) (fun _ => rfl) hx0 (o := 0) rfl (by decide)) rfl (step_n (o := .row _ _ [_]) (nx' := 6) rfl rfl rfl (by decide) ?_)))))))))))
   refine step_appendC (m := 1) (new := [_]) (cs' := encI (ids0 ++ [x0.Id])) (n' := (ids0 ++ [x0.Id]).length) (H' := [(5, .row _ _ _), (4, .row _ _ _), (0, .box [_, _, _, _, _, _, _, _, _, _]), (1, .box [_, _]), (2, .row _ _ _), (3, .row _ _ _)]) rfl rfl rfl (rfl) rfl rfl rfl rfl rfl rfl (encI_len ids0) (rfl) (by first | decide | (unfold maxGrow; omega) | (unfold maxGrow; simp; omega) | (unfold maxGrow; simp only [List.length_append, List.length_take, List.length_drop, List.length_cons, List.length_nil, IntKind.wrap_i64] at *; omega)) (len_snoc ids0 _) (((encI_snoc ids0 x0.Id)).symm) (.inl rfl) rfl rfl (.keep rfl (.keep rfl (.keep rfl (.keep rfl (.keep rfl (.keep rfl .nil)))))) (.keep rfl (.keep rfl (.keep rfl (.keep rfl (.keep rfl (.keep rfl (.keep rfl (.lose (v' := .undef) rfl (.keep rfl (.keep rfl (.keep rfl (.keep rfl (.keep rfl (.keep rfl (.keep rfl (.keep rfl (.keep rfl (.keep rfl (.keep rfl (.keep rfl (.keep rfl (.keep rfl (.keep rfl (.keep rfl (.keep rfl (.keep rfl (.keep rfl (.keep rfl (.lose (v' := .undef) rfl (.keep rfl .nil)))))))))))))))))))))))))))))) ?_
   refine step_r rfl rfl trivial (step_nil (blkK_n (seqK_n (sem_region rfl (step_r rfl rfl trivial (step_bin rfl rfl rfl rfl rfl trivial (step_r rfl rfl trivial (step_nil ?_))))))))
   have e5 : checkR_L0 c (c.Abilities.drop k0) k0 bad0 ids0 = checkR_L0 c (c.Abilities.drop (k0 + 1)) (k0 + 1) (bad0 ++ [(!(abilityR c x0))]) (ids0 ++ [x0.Id]) := by
    rewrite [drop_cons hx0]
    rewrite [checkR_L0]
    try dsimp only
    all_goals rfl
   exact lup_againT (k0 + 1, (bad0 ++ [(!(abilityR c x0))]), (ids0 ++ [x0.Id])) ⟨e5.symm.trans hI0, hk0, by first | omega | assumption | (simp only [List.length_append, List.length_cons, List.length_nil, List.length_set]; omega) | (simp; omega) | grind⟩ (by show c.Abilities.length - (k0 + 1) < c.Abilities.length - k0; omega) (Trans.ren [] (by decide +kernel) (by decide +kernel) rfl ⟨⟨rfl, rfl⟩, ⟨rfl, rfl⟩, ⟨rfl, rfl⟩, ⟨rfl, rfl⟩, ⟨congrArg (fun n => some (I n)) (wrapI (k := k0) (by first | omega | (simp; omega))), rfl⟩, trivial⟩ ⟨⟨rfl, rfl, rfl⟩, ⟨rfl, rfl, rfl⟩, ⟨rfl, rfl, rfl⟩, ⟨rfl, rfl, rfl⟩, trivial⟩ (by decide))
  ·have g3 : ¬ ((k0 : Int) < c.Abilities.length) := of_decide_eq_false h3
   have hk0 : k0 = c.Abilities.length := by omega
   refine sem_exit (seqK_e (lupK_e (blkK_t rfl ?_)))
   have e6 : checkR_L0 c c.Abilities 0 ([]) ([]) = (bad0, ids0) := by
    rewrite [← hI0, hk0, List.drop_length]
    rewrite [checkR_L0]
    try dsimp only
    all_goals rfl
   exact cutW_n (bad0, ids0) ⟨e6, by first | assumption | omega | (simp; omega) | simp_all | grind⟩ (Trans.ren [] (by decide +kernel) (by decide +kernel) rfl ⟨⟨rfl, rfl⟩, ⟨rfl, rfl⟩, ⟨rfl, rfl⟩, ⟨rfl, rfl⟩, trivial⟩ ⟨⟨rfl, rfl, rfl⟩, ⟨rfl, rfl, rfl⟩, ⟨rfl, rfl, rfl⟩, ⟨rfl, rfl, rfl⟩, trivial⟩ (by decide))
 ·rintro ⟨bad_0, ids_0⟩ ⟨(hJ1 : checkR_L0 c c.Abilities 0 ([]) ([]) = (bad_0, ids_0)), hE0⟩
  show seqK _ _ _ .normal (⟨[(1, .ptr 0 0), (2, .ptr 1 0), (4, .ref 2 1 0 bad_0.length), (5, .ref 3 1 0 ids_0.length)], [(0, .box [.pv (.slc c.Abilities.length false (c.Abilities.flatMap encGAbility)), .pv (.slc c.Auras.length false (c.Auras.flatMap encGAura)), .pv (.slc c.Foes.length false (c.Foes.flatMap encGFoe)), I c.Map.W, I c.Map.H, .pv (.slc c.Map.Wall.length false (encB c.Map.Wall)), I c.Door.X, I c.Door.Y, I c.Lair.X, I c.Lair.Y]), (1, .box [I 0, I 0]), (2, .row 4 1 (encB bad_0)), (3, .row 3 1 (encI ids_0))], 4, [], 131, 0⟩ : St)
  refine seqK_n (sem_seq (sem_seq (sem_region rfl (step_r rfl rfl trivial (step_r rfl rfl trivial ?_)))))
  refine step_callJ (Hin := [.row _ _ _, .row _ _ _]) (H' := [(0, .box [_, _, _, _, _, _, _, _, _, _]), (1, .box [_, _]), (2, .row _ _ _), (3, .row _ _ _)]) (nx' := 4) [2, 3] rfl rfl rfl rfl rfl rfl rfl rfl rfl (by (repeat' apply And.intro) <;> first | trivial | rfl | exact flat_len (fun _ => rfl) _ | exact encI_len _ | exact encB_len _ | exact encY_len _ | exact Nat.le_of_ble_eq_true rfl | assumption) (firstR_ok bad_0 false ids_0 false (by first | assumption | omega | (simp; omega))) rfl (by decide) rfl rfl trivial rfl rfl rfl rfl ?_
  refine step_bin rfl rfl rfl rfl rfl trivial (step_nil (seqK_n ?_))
  refine sem_cond rfl (fun h7 => ?_) (fun h7 => ?_)
  ·have g7 : (firstR bad_0 ids_0 : Int) ≥ 0 := of_decide_eq_true h7
   refine sem_seq (sem_region rfl (step_r rfl rfl trivial (step_r rfl rfl trivial ?_)))
   refine step_callJ (Hin := [.row _ _ _, .row _ _ _]) (H' := [(0, .box [_, _, _, _, _, _, _, _, _, _]), (1, .box [_, _]), (2, .row _ _ _), (3, .row _ _ _)]) (nx' := 4) [2, 3] rfl rfl rfl rfl rfl rfl rfl rfl rfl (by (repeat' apply And.intro) <;> first | trivial | rfl | exact flat_len (fun _ => rfl) _ | exact encI_len _ | exact encB_len _ | exact encY_len _ | exact Nat.le_of_ble_eq_true rfl | assumption) (firstR_ok bad_0 false ids_0 false (by first | assumption | omega | (simp; omega))) rfl (by decide) rfl rfl trivial rfl rfl rfl rfl ?_
   refine step_r (v := (.agg [_, _])) rfl rfl trivial (step_store (H' := [(0, .box [_, _, _, _, _, _, _, _, _, _]), (1, .box [_, _]), (2, .row _ _ _), (3, .row _ _ _)]) rfl rfl rfl rfl rfl rfl (Nat.le_of_ble_eq_true rfl) (.inl rfl) rfl (step_r rfl rfl trivial (step_nil (seqK_n (sem_ret (seqK_r ?_))))))
   have e8 : checkR c = ((⟨1, (firstR bad_0 ids_0)⟩ : GFlaw), false) := by
    unfold checkR
    try dsimp only
    rewrite [hJ1]
    try dsimp only
    rewrite [if_pos g7]
    all_goals rfl
   rw [e8]
   exact answersR rfl ⟨Nat.le_of_ble_eq_true rfl, trivial, trivial⟩ (rfl) rfl
  ·have g7 : ¬ ((firstR bad_0 ids_0 : Int) ≥ 0) := of_decide_eq_false h7
   refine sem_skip (seqK_n (sem_seq (sem_region rfl (step_n (nx' := 5) rfl rfl rfl trivial (step_nil (seqK_n (sem_seq (sem_region rfl (step_n (nx' := 6) rfl rfl rfl trivial (step_nil (seqK_n ?_)))))))))))
   refine sem_seq (sem_seq (sem_region rfl (step_r rfl rfl trivial (step_nil (seqK_n ?_)))))
   refine sem_cutW (fun w_ : (List Bool) × (List Int) => match w_ with | (bad_1, ids_1) => (⟨[(1, .ptr 0 0), (2, .ptr 1 0), (4, .ref 2 1 0 bad_1.length), (5, .ref 3 1 0 ids_1.length)], [(0, .box [.pv (.slc c.Abilities.length false (c.Abilities.flatMap encGAbility)), .pv (.slc c.Auras.length false (c.Auras.flatMap encGAura)), .pv (.slc c.Foes.length false (c.Foes.flatMap encGFoe)), I c.Map.W, I c.Map.H, .pv (.slc c.Map.Wall.length false (encB c.Map.Wall)), I c.Door.X, I c.Door.Y, I c.Lair.X, I c.Lair.Y]), (1, .box [I 0, I 0]), (2, .row 4 1 (encB bad_1)), (3, .row 3 1 (encI ids_1))], 4, [], 131, 0⟩ : St)) (fun w_ : (List Bool) × (List Int) => match w_ with | (bad_1, ids_1) => checkR_L1 c.Auras 0 ([]) ([]) = (bad_1, ids_1) ∧ (bad_1.length = ids_1.length)) ?_ ?_
   ·refine sem_block ?_
    refine sem_loopT (fun w_ : Nat × (List Bool) × (List Int) => match w_ with | (k1, bad1, ids1) => (⟨[(1, .ptr 0 0), (2, .ptr 1 0), (4, .ref 2 1 0 bad1.length), (5, .ref 3 1 0 ids1.length), (7, I k1)], [(0, .box [.pv (.slc c.Abilities.length false (c.Abilities.flatMap encGAbility)), .pv (.slc c.Auras.length false (c.Auras.flatMap encGAura)), .pv (.slc c.Foes.length false (c.Foes.flatMap encGFoe)), I c.Map.W, I c.Map.H, .pv (.slc c.Map.Wall.length false (encB c.Map.Wall)), I c.Door.X, I c.Door.Y, I c.Lair.X, I c.Lair.Y]), (1, .box [I 0, I 0]), (2, .row 4 1 (encB bad1)), (3, .row 3 1 (encI ids1))], 4, [], 131, 0⟩ : St)) (fun w_ : Nat × (List Bool) × (List Int) => match w_ with | (k1, bad1, ids1) => checkR_L1 (c.Auras.drop k1) k1 bad1 ids1 = checkR_L1 c.Auras 0 ([]) ([]) ∧ k1 ≤ c.Auras.length ∧ bad1.length = k1 ∧ ids1.length = k1) (fun w_ : Nat × (List Bool) × (List Int) => match w_ with | (k1, bad1, ids1) => c.Auras.length - k1) (0, [], []) (⟨rfl, Nat.zero_le _, by first | omega | simp | (simp; omega)⟩) ?_ (fun w_ hh_ => ?_)
    ·exact (Trans.ren [(2, 4), (3, 5), (4, 2), (5, 3)] (by decide +kernel) (by decide +kernel) rfl ⟨⟨rfl, rfl⟩, ⟨rfl, rfl⟩, ⟨congrArg (fun n => some (AV.ref 4 1 0 n)) (by first | rfl | simp only [List.length_set] | simp | omega | (simp; omega)), rfl⟩, ⟨congrArg (fun n => some (AV.ref 5 1 0 n)) (by first | rfl | simp only [List.length_set] | simp | omega | (simp; omega)), rfl⟩, ⟨rfl, rfl⟩, trivial⟩ ⟨⟨rfl, rfl, rfl⟩, ⟨rfl, rfl, rfl⟩, ⟨rfl, rfl, rfl⟩, ⟨rfl, rfl, rfl⟩, trivial⟩ (by decide))
    obtain ⟨k1, bad1, ids1⟩ := w_
    obtain ⟨hI1, hb1, hv1⟩ := hh_
    show Walks Try.prog _ _ (⟨[(1, .ptr 0 0), (2, .ptr 1 0), (4, .ref 2 1 0 bad1.length), (5, .ref 3 1 0 ids1.length), (7, I k1)], [(0, .box [.pv (.slc c.Abilities.length false (c.Abilities.flatMap encGAbility)), .pv (.slc c.Auras.length false (c.Auras.flatMap encGAura)), .pv (.slc c.Foes.length false (c.Foes.flatMap encGFoe)), I c.Map.W, I c.Map.H, .pv (.slc c.Map.Wall.length false (encB c.Map.Wall)), I c.Door.X, I c.Door.Y, I c.Lair.X, I c.Lair.Y]), (1, .box [I 0, I 0]), (2, .row 4 1 (encB bad1)), (3, .row 3 1 (encI ids1))], 4, [], 131, 0⟩ : St)
    refine sem_seq (sem_seq (sem_region rfl (step_r rfl rfl trivial (step_r rfl rfl (by decide) (step_r rfl rfl trivial (step_r rfl rfl trivial (step_bin rfl rfl rfl rfl rfl trivial (step_nil (seqK_n ?_)))))))))
    refine sem_cond rfl (fun h11 => ?_) (fun h11 => ?_)
    ·have g11 : (k1 : Int) < c.Auras.length := of_decide_eq_true h11
     have hk1 : k1 < c.Auras.length := by omega
     obtain ⟨x1, hx1⟩ : ∃ z_, c.Auras[k1]? = some z_ := ⟨_, List.getElem?_eq_getElem hk1⟩
     refine sem_skip (seqK_n (sem_seq (sem_block (sem_seq (sem_region rfl (step_r rfl rfl trivial (step_r rfl rfl (by decide) (step_r rfl rfl trivial (step_r rfl rfl trivial (step_idxS (k := k1) rfl rfl rfl rfl hk1 (flat_ne (s := 7) (enc := encGAura) (fun _ => rfl) (by decide) hk1) rfl (step_load_row rfl rfl rfl (flat_lt (s := 7) (enc := encGAura) (fun _ => rfl) hk1) (flat_take (s := 7) (enc := encGAura) (fun _ => rfl) hx1) rfl ?_)))))))))))
     refine step_call rfl rfl rfl rfl (auraR_ok x1) rfl rfl rfl (step_r rfl rfl trivial (step_n (o := .row _ _ [_]) (nx' := 5) rfl rfl rfl (by decide) ?_))
     refine step_appendC (m := 1) (new := [_]) (cs' := encB (bad1 ++ [(!(auraR x1))])) (n' := (bad1 ++ [(!(auraR x1))]).length) (H' := [(4, .row _ _ _), (0, .box [_, _, _, _, _, _, _, _, _, _]), (1, .box [_, _]), (2, .row _ _ _), (3, .row _ _ _)]) rfl rfl rfl (rfl) rfl rfl rfl rfl rfl rfl (encB_len bad1) (rfl) (by first | decide | (unfold maxGrow; omega) | (unfold maxGrow; simp; omega) | (unfold maxGrow; simp only [List.length_append, List.length_take, List.length_drop, List.length_cons, List.length_nil, IntKind.wrap_i64] at *; omega)) (len_snoc bad1 _) (((encB_snoc bad1 (!(auraR x1)))).symm) (.inl rfl) rfl rfl (.keep rfl (.keep rfl (.keep rfl (.keep rfl (.keep rfl .nil))))) (.keep rfl (.keep rfl (.keep rfl (.keep rfl (.keep rfl (.keep rfl (.keep rfl (.keep rfl (.lose (v' := .undef) rfl (.keep rfl (.keep rfl (.keep rfl (.keep rfl (.keep rfl (.keep rfl (.keep rfl (.lose (v' := .undef) rfl (.keep rfl (.keep rfl .nil))))))))))))))))))) ?_
     refine step_r rfl rfl trivial (step_nil (seqK_n (sem_region rfl (step_r rfl rfl trivial (step_r rfl rfl (by decide) (step_r rfl rfl trivial (step_r rfl rfl trivial (step_idxS (k := k1) rfl rfl rfl rfl hk1 (flat_ne (s := 7) (enc := encGAura) (fun _ => rfl) (by decide) hk1) rfl (step_r rfl rfl (by decide) (step_load_one rfl rfl rfl (flat_get (s := 7) (enc := encGAura) (fun _ => rfl) hx1 (o := 0) rfl (by decide)) rfl (step_n (o := .row _ _ [_]) (nx' := 6) rfl rfl rfl (by decide) ?_)))))))))))
     refine step_appendC (m := 1) (new := [_]) (cs' := encI (ids1 ++ [x1.Id])) (n' := (ids1 ++ [x1.Id]).length) (H' := [(5, .row _ _ _), (4, .row _ _ _), (0, .box [_, _, _, _, _, _, _, _, _, _]), (1, .box [_, _]), (2, .row _ _ _), (3, .row _ _ _)]) rfl rfl rfl (rfl) rfl rfl rfl rfl rfl rfl (encI_len ids1) (rfl) (by first | decide | (unfold maxGrow; omega) | (unfold maxGrow; simp; omega) | (unfold maxGrow; simp only [List.length_append, List.length_take, List.length_drop, List.length_cons, List.length_nil, IntKind.wrap_i64] at *; omega)) (len_snoc ids1 _) (((encI_snoc ids1 x1.Id)).symm) (.inl rfl) rfl rfl (.keep rfl (.keep rfl (.keep rfl (.keep rfl (.keep rfl (.keep rfl .nil)))))) (.keep rfl (.keep rfl (.keep rfl (.keep rfl (.keep rfl (.keep rfl (.keep rfl (.lose (v' := .undef) rfl (.keep rfl (.keep rfl (.keep rfl (.keep rfl (.keep rfl (.keep rfl (.keep rfl (.keep rfl (.keep rfl (.keep rfl (.keep rfl (.keep rfl (.keep rfl (.keep rfl (.keep rfl (.keep rfl (.keep rfl (.keep rfl (.keep rfl (.lose (v' := .undef) rfl (.keep rfl .nil))))))))))))))))))))))))))))) ?_
     refine step_r rfl rfl trivial (step_nil (blkK_n (seqK_n (sem_region rfl (step_r rfl rfl trivial (step_bin rfl rfl rfl rfl rfl trivial (step_r rfl rfl trivial (step_nil ?_))))))))
     have e13 : checkR_L1 (c.Auras.drop k1) k1 bad1 ids1 = checkR_L1 (c.Auras.drop (k1 + 1)) (k1 + 1) (bad1 ++ [(!(auraR x1))]) (ids1 ++ [x1.Id]) := by
      rewrite [drop_cons hx1]
      rewrite [checkR_L1]
      try dsimp only
      all_goals rfl
     exact lup_againT (k1 + 1, (bad1 ++ [(!(auraR x1))]), (ids1 ++ [x1.Id])) ⟨e13.symm.trans hI1, hk1, by first | omega | assumption | (simp only [List.length_append, List.length_cons, List.length_nil, List.length_set]; omega) | (simp; omega) | grind⟩ (by show c.Auras.length - (k1 + 1) < c.Auras.length - k1; omega) (Trans.ren [] (by decide +kernel) (by decide +kernel) rfl ⟨⟨rfl, rfl⟩, ⟨rfl, rfl⟩, ⟨rfl, rfl⟩, ⟨rfl, rfl⟩, ⟨congrArg (fun n => some (I n)) (wrapI (k := k1) (by first | omega | (simp; omega))), rfl⟩, trivial⟩ ⟨⟨rfl, rfl, rfl⟩, ⟨rfl, rfl, rfl⟩, ⟨rfl, rfl, rfl⟩, ⟨rfl, rfl, rfl⟩, trivial⟩ (by decide))
    ·have g11 : ¬ ((k1 : Int) < c.Auras.length) := of_decide_eq_false h11
     have hk1 : k1 = c.Auras.length := by omega
     refine sem_exit (seqK_e (lupK_e (blkK_t rfl ?_)))
     have e14 : checkR_L1 c.Auras 0 ([]) ([]) = (bad1, ids1) := by
      rewrite [← hI1, hk1, List.drop_length]
      rewrite [checkR_L1]
      try dsimp only
      all_goals rfl
     exact cutW_n (bad1, ids1) ⟨e14, by first | assumption | omega | (simp; omega) | simp_all | grind⟩ (Trans.ren [] (by decide +kernel) (by decide +kernel) rfl ⟨⟨rfl, rfl⟩, ⟨rfl, rfl⟩, ⟨rfl, rfl⟩, ⟨rfl, rfl⟩, trivial⟩ ⟨⟨rfl, rfl, rfl⟩, ⟨rfl, rfl, rfl⟩, ⟨rfl, rfl, rfl⟩, ⟨rfl, rfl, rfl⟩, trivial⟩ (by decide))
   ·rintro ⟨bad_1, ids_1⟩ ⟨(hJ9 : checkR_L1 c.Auras 0 ([]) ([]) = (bad_1, ids_1)), hE1⟩
    show seqK _ _ _ .normal (⟨[(1, .ptr 0 0), (2, .ptr 1 0), (4, .ref 2 1 0 bad_1.length), (5, .ref 3 1 0 ids_1.length)], [(0, .box [.pv (.slc c.Abilities.length false (c.Abilities.flatMap encGAbility)), .pv (.slc c.Auras.length false (c.Auras.flatMap encGAura)), .pv (.slc c.Foes.length false (c.Foes.flatMap encGFoe)), I c.Map.W, I c.Map.H, .pv (.slc c.Map.Wall.length false (encB c.Map.Wall)), I c.Door.X, I c.Door.Y, I c.Lair.X, I c.Lair.Y]), (1, .box [I 0, I 0]), (2, .row 4 1 (encB bad_1)), (3, .row 3 1 (encI ids_1))], 4, [], 131, 0⟩ : St)
    refine seqK_n (sem_seq (sem_seq (sem_region rfl (step_r rfl rfl trivial (step_r rfl rfl trivial ?_)))))
    refine step_callJ (Hin := [.row _ _ _, .row _ _ _]) (H' := [(0, .box [_, _, _, _, _, _, _, _, _, _]), (1, .box [_, _]), (2, .row _ _ _), (3, .row _ _ _)]) (nx' := 4) [2, 3] rfl rfl rfl rfl rfl rfl rfl rfl rfl (by (repeat' apply And.intro) <;> first | trivial | rfl | exact flat_len (fun _ => rfl) _ | exact encI_len _ | exact encB_len _ | exact encY_len _ | exact Nat.le_of_ble_eq_true rfl | assumption) (firstR_ok bad_1 false ids_1 false (by first | assumption | omega | (simp; omega))) rfl (by decide) rfl rfl trivial rfl rfl rfl rfl ?_
    refine step_bin rfl rfl rfl rfl rfl trivial (step_nil (seqK_n ?_))
    refine sem_cond rfl (fun h15 => ?_) (fun h15 => ?_)
    ·have g15 : (firstR bad_1 ids_1 : Int) ≥ 0 := of_decide_eq_true h15
     refine sem_seq (sem_region rfl (step_r rfl rfl trivial (step_r rfl rfl trivial ?_)))
     refine step_callJ (Hin := [.row _ _ _, .row _ _ _]) (H' := [(0, .box [_, _, _, _, _, _, _, _, _, _]), (1, .box [_, _]), (2, .row _ _ _), (3, .row _ _ _)]) (nx' := 4) [2, 3] rfl rfl rfl rfl rfl rfl rfl rfl rfl (by (repeat' apply And.intro) <;> first | trivial | rfl | exact flat_len (fun _ => rfl) _ | exact encI_len _ | exact encB_len _ | exact encY_len _ | exact Nat.le_of_ble_eq_true rfl | assumption) (firstR_ok bad_1 false ids_1 false (by first | assumption | omega | (simp; omega))) rfl (by decide) rfl rfl trivial rfl rfl rfl rfl ?_
     refine step_r (v := (.agg [_, _])) rfl rfl trivial (step_store (H' := [(0, .box [_, _, _, _, _, _, _, _, _, _]), (1, .box [_, _]), (2, .row _ _ _), (3, .row _ _ _)]) rfl rfl rfl rfl rfl rfl (Nat.le_of_ble_eq_true rfl) (.inl rfl) rfl (step_r rfl rfl trivial (step_nil (seqK_n (sem_ret (seqK_r ?_))))))
     have e16 : checkR c = ((⟨2, (firstR bad_1 ids_1)⟩ : GFlaw), false) := by
      unfold checkR
      try dsimp only
      rewrite [hJ1]
      try dsimp only
      rewrite [if_neg g7, hJ9]
      try dsimp only
      rewrite [if_pos g15]
      all_goals rfl
     rw [e16]
     exact answersR rfl ⟨Nat.le_of_ble_eq_true rfl, trivial, trivial⟩ (rfl) rfl
    ·have g15 : ¬ ((firstR bad_1 ids_1 : Int) ≥ 0) := of_decide_eq_false h15
     refine sem_skip (seqK_n (sem_seq (sem_region rfl (step_n (nx' := 5) rfl rfl rfl trivial (step_nil (seqK_n (sem_seq (sem_region rfl (step_n (nx' := 6) rfl rfl rfl trivial (step_nil (seqK_n ?_)))))))))))
     refine sem_seq (sem_seq (sem_region rfl (step_r rfl rfl trivial (step_nil (seqK_n ?_)))))
     refine sem_cutW (fun w_ : (List Bool) × (List Int) => match w_ with | (bad_2, ids_2) => (⟨[(1, .ptr 0 0), (2, .ptr 1 0), (4, .ref 2 1 0 bad_2.length), (5, .ref 3 1 0 ids_2.length)], [(0, .box [.pv (.slc c.Abilities.length false (c.Abilities.flatMap encGAbility)), .pv (.slc c.Auras.length false (c.Auras.flatMap encGAura)), .pv (.slc c.Foes.length false (c.Foes.flatMap encGFoe)), I c.Map.W, I c.Map.H, .pv (.slc c.Map.Wall.length false (encB c.Map.Wall)), I c.Door.X, I c.Door.Y, I c.Lair.X, I c.Lair.Y]), (1, .box [I 0, I 0]), (2, .row 4 1 (encB bad_2)), (3, .row 3 1 (encI ids_2))], 4, [], 131, 0⟩ : St)) (fun w_ : (List Bool) × (List Int) => match w_ with | (bad_2, ids_2) => checkR_L2 c c.Foes 0 ([]) ([]) = (bad_2, ids_2) ∧ (bad_2.length = ids_2.length)) ?_ ?_
     ·refine sem_block ?_
      refine sem_loopT (fun w_ : Nat × (List Bool) × (List Int) => match w_ with | (k2, bad2, ids2) => (⟨[(1, .ptr 0 0), (2, .ptr 1 0), (4, .ref 2 1 0 bad2.length), (5, .ref 3 1 0 ids2.length), (8, I k2)], [(0, .box [.pv (.slc c.Abilities.length false (c.Abilities.flatMap encGAbility)), .pv (.slc c.Auras.length false (c.Auras.flatMap encGAura)), .pv (.slc c.Foes.length false (c.Foes.flatMap encGFoe)), I c.Map.W, I c.Map.H, .pv (.slc c.Map.Wall.length false (encB c.Map.Wall)), I c.Door.X, I c.Door.Y, I c.Lair.X, I c.Lair.Y]), (1, .box [I 0, I 0]), (2, .row 4 1 (encB bad2)), (3, .row 3 1 (encI ids2))], 4, [], 131, 0⟩ : St)) (fun w_ : Nat × (List Bool) × (List Int) => match w_ with | (k2, bad2, ids2) => checkR_L2 c (c.Foes.drop k2) k2 bad2 ids2 = checkR_L2 c c.Foes 0 ([]) ([]) ∧ k2 ≤ c.Foes.length ∧ bad2.length = k2 ∧ ids2.length = k2) (fun w_ : Nat × (List Bool) × (List Int) => match w_ with | (k2, bad2, ids2) => c.Foes.length - k2) (0, [], []) (⟨rfl, Nat.zero_le _, by first | omega | simp | (simp; omega)⟩) ?_ (fun w_ hh_ => ?_)
      ·exact (Trans.ren [(2, 4), (3, 5), (4, 2), (5, 3)] (by decide +kernel) (by decide +kernel) rfl ⟨⟨rfl, rfl⟩, ⟨rfl, rfl⟩, ⟨congrArg (fun n => some (AV.ref 4 1 0 n)) (by first | rfl | simp only [List.length_set] | simp | omega | (simp; omega)), rfl⟩, ⟨congrArg (fun n => some (AV.ref 5 1 0 n)) (by first | rfl | simp only [List.length_set] | simp | omega | (simp; omega)), rfl⟩, ⟨rfl, rfl⟩, trivial⟩ ⟨⟨rfl, rfl, rfl⟩, ⟨rfl, rfl, rfl⟩, ⟨rfl, rfl, rfl⟩, ⟨rfl, rfl, rfl⟩, trivial⟩ (by decide))
      obtain ⟨k2, bad2, ids2⟩ := w_
      obtain ⟨hI2, hb2, hv2⟩ := hh_
      show Walks Try.prog _ _ (⟨[(1, .ptr 0 0), (2, .ptr 1 0), (4, .ref 2 1 0 bad2.length), (5, .ref 3 1 0 ids2.length), (8, I k2)], [(0, .box [.pv (.slc c.Abilities.length false (c.Abilities.flatMap encGAbility)), .pv (.slc c.Auras.length false (c.Auras.flatMap encGAura)), .pv (.slc c.Foes.length false (c.Foes.flatMap encGFoe)), I c.Map.W, I c.Map.H, .pv (.slc c.Map.Wall.length false (encB c.Map.Wall)), I c.Door.X, I c.Door.Y, I c.Lair.X, I c.Lair.Y]), (1, .box [I 0, I 0]), (2, .row 4 1 (encB bad2)), (3, .row 3 1 (encI ids2))], 4, [], 131, 0⟩ : St)
      refine sem_seq (sem_seq (sem_region rfl (step_r rfl rfl trivial (step_r rfl rfl (by decide) (step_r rfl rfl trivial (step_r rfl rfl trivial (step_bin rfl rfl rfl rfl rfl trivial (step_nil (seqK_n ?_)))))))))
      refine sem_cond rfl (fun h19 => ?_) (fun h19 => ?_)
      ·have g19 : (k2 : Int) < c.Foes.length := of_decide_eq_true h19
       have hk2 : k2 < c.Foes.length := by omega
       obtain ⟨x2, hx2⟩ : ∃ z_, c.Foes[k2]? = some z_ := ⟨_, List.getElem?_eq_getElem hk2⟩
       refine sem_skip (seqK_n (sem_seq (sem_block (sem_seq ?_))))
       refine sem_drawn rfl (by decide +kernel) rfl ?_
       refine step_r rfl rfl trivial (step_r (v := (.agg [_, _, _, _, _, _, _, _, _, _])) rfl rfl (Nat.le_of_ble_eq_true rfl) (step_r rfl rfl (by decide) (step_r rfl rfl trivial (step_r rfl rfl trivial (step_idxS (k := k2) rfl rfl rfl rfl hk2 (flat_ne (s := 8) (enc := encGFoe) (fun _ => rfl) (by decide) hk2) rfl (step_load_row rfl rfl rfl (flat_lt (s := 8) (enc := encGFoe) (fun _ => rfl) hk2) (flat_take (s := 8) (enc := encGFoe) (fun _ => rfl) hx2) rfl (step_call rfl rfl rfl rfl (foeR_ok c x2 (by first | assumption | grind)) rfl rfl rfl (step_r rfl rfl trivial (step_n (o := .row _ _ [_]) (nx' := 5) rfl rfl rfl (by decide) ?_)))))))))
       refine step_appendC (m := 1) (new := [_]) (cs' := encB (bad2 ++ [(!(foeR c x2))])) (n' := (bad2 ++ [(!(foeR c x2))]).length) (H' := [(4, .row _ _ _), (0, .box [_, _, _, _, _, _, _, _, _, _]), (1, .box [_, _]), (2, .row _ _ _), (3, .row _ _ _)]) rfl rfl rfl (rfl) rfl rfl rfl rfl rfl rfl (encB_len bad2) (rfl) (by first | decide | (unfold maxGrow; omega) | (unfold maxGrow; simp; omega) | (unfold maxGrow; simp only [List.length_append, List.length_take, List.length_drop, List.length_cons, List.length_nil, IntKind.wrap_i64] at *; omega)) (len_snoc bad2 _) (((encB_snoc bad2 (!(foeR c x2)))).symm) (.inr (by decide +kernel)) rfl rfl (.keep rfl (.keep rfl (.keep rfl (.keep rfl (.keep rfl .nil))))) (.keep rfl (.keep rfl (.keep rfl (.keep rfl (.keep rfl (.keep rfl (.keep rfl (.keep rfl (.keep rfl (.lose (v' := .undef) rfl (.keep rfl (.keep rfl (.keep rfl (.keep rfl (.keep rfl (.keep rfl (.keep rfl (.lose (v' := .undef) rfl (.keep rfl (.keep rfl .nil)))))))))))))))))))) ?_
       refine step_r rfl rfl trivial (step_nil (seqK_n (sem_region rfl (step_r rfl rfl trivial (step_r rfl rfl (by decide) (step_r rfl rfl trivial (step_r rfl rfl trivial (step_idxS (k := k2) rfl rfl rfl rfl hk2 (flat_ne (s := 8) (enc := encGFoe) (fun _ => rfl) (by decide) hk2) rfl (step_r rfl rfl (by decide) (step_load_one rfl rfl rfl (flat_get (s := 8) (enc := encGFoe) (fun _ => rfl) hx2 (o := 0) rfl (by decide)) rfl (step_n (o := .row _ _ [_]) (nx' := 6) rfl rfl rfl (by decide) ?_)))))))))))
       refine step_appendC (m := 1) (new := [_]) (cs' := encI (ids2 ++ [x2.Id])) (n' := (ids2 ++ [x2.Id]).length) (H' := [(5, .row _ _ _), (4, .row _ _ _), (0, .box [_, _, _, _, _, _, _, _, _, _]), (1, .box [_, _]), (2, .row _ _ _), (3, .row _ _ _)]) rfl rfl rfl (rfl) rfl rfl rfl rfl rfl rfl (encI_len ids2) (rfl) (by first | decide | (unfold maxGrow; omega) | (unfold maxGrow; simp; omega) | (unfold maxGrow; simp only [List.length_append, List.length_take, List.length_drop, List.length_cons, List.length_nil, IntKind.wrap_i64] at *; omega)) (len_snoc ids2 _) (((encI_snoc ids2 x2.Id)).symm) (.inl rfl) rfl rfl (.keep rfl (.keep rfl (.keep rfl (.keep rfl (.keep rfl (.keep rfl .nil)))))) (.keep rfl (.keep rfl (.keep rfl (.keep rfl (.keep rfl (.keep rfl (.keep rfl (.lose (v' := .undef) rfl (.keep rfl (.keep rfl (.keep rfl (.keep rfl (.keep rfl (.keep rfl (.keep rfl (.keep rfl (.keep rfl (.keep rfl (.keep rfl (.keep rfl (.keep rfl (.keep rfl (.keep rfl (.keep rfl (.keep rfl (.keep rfl (.keep rfl (.keep rfl (.lose (v' := .undef) rfl (.keep rfl .nil)))))))))))))))))))))))))))))) ?_
       refine step_r rfl rfl trivial (step_nil (blkK_n (seqK_n (sem_region rfl (step_r rfl rfl trivial (step_bin rfl rfl rfl rfl rfl trivial (step_r rfl rfl trivial (step_nil ?_))))))))
       have e21 : checkR_L2 c (c.Foes.drop k2) k2 bad2 ids2 = checkR_L2 c (c.Foes.drop (k2 + 1)) (k2 + 1) (bad2 ++ [(!(foeR c x2))]) (ids2 ++ [x2.Id]) := by
        rewrite [drop_cons hx2]
        rewrite [checkR_L2]
        try dsimp only
        all_goals rfl
       exact lup_againT (k2 + 1, (bad2 ++ [(!(foeR c x2))]), (ids2 ++ [x2.Id])) ⟨e21.symm.trans hI2, hk2, by first | omega | assumption | (simp only [List.length_append, List.length_cons, List.length_nil, List.length_set]; omega) | (simp; omega) | grind⟩ (by show c.Foes.length - (k2 + 1) < c.Foes.length - k2; omega) (Trans.ren [] (by decide +kernel) (by decide +kernel) rfl ⟨⟨rfl, rfl⟩, ⟨rfl, rfl⟩, ⟨rfl, rfl⟩, ⟨rfl, rfl⟩, ⟨congrArg (fun n => some (I n)) (wrapI (k := k2) (by first | omega | (simp; omega))), rfl⟩, trivial⟩ ⟨⟨rfl, rfl, rfl⟩, ⟨rfl, rfl, rfl⟩, ⟨rfl, rfl, rfl⟩, ⟨rfl, rfl, rfl⟩, trivial⟩ (by decide))
      ·have g19 : ¬ ((k2 : Int) < c.Foes.length) := of_decide_eq_false h19
       have hk2 : k2 = c.Foes.length := by omega
       refine sem_exit (seqK_e (lupK_e (blkK_t rfl ?_)))
       have e22 : checkR_L2 c c.Foes 0 ([]) ([]) = (bad2, ids2) := by
        rewrite [← hI2, hk2, List.drop_length]
        rewrite [checkR_L2]
        try dsimp only
        all_goals rfl
       exact cutW_n (bad2, ids2) ⟨e22, by first | assumption | omega | (simp; omega) | simp_all | grind⟩ (Trans.ren [] (by decide +kernel) (by decide +kernel) rfl ⟨⟨rfl, rfl⟩, ⟨rfl, rfl⟩, ⟨rfl, rfl⟩, ⟨rfl, rfl⟩, trivial⟩ ⟨⟨rfl, rfl, rfl⟩, ⟨rfl, rfl, rfl⟩, ⟨rfl, rfl, rfl⟩, ⟨rfl, rfl, rfl⟩, trivial⟩ (by decide))
     ·rintro ⟨bad_2, ids_2⟩ ⟨(hJ17 : checkR_L2 c c.Foes 0 ([]) ([]) = (bad_2, ids_2)), hE2⟩
      show seqK _ _ _ .normal (⟨[(1, .ptr 0 0), (2, .ptr 1 0), (4, .ref 2 1 0 bad_2.length), (5, .ref 3 1 0 ids_2.length)], [(0, .box [.pv (.slc c.Abilities.length false (c.Abilities.flatMap encGAbility)), .pv (.slc c.Auras.length false (c.Auras.flatMap encGAura)), .pv (.slc c.Foes.length false (c.Foes.flatMap encGFoe)), I c.Map.W, I c.Map.H, .pv (.slc c.Map.Wall.length false (encB c.Map.Wall)), I c.Door.X, I c.Door.Y, I c.Lair.X, I c.Lair.Y]), (1, .box [I 0, I 0]), (2, .row 4 1 (encB bad_2)), (3, .row 3 1 (encI ids_2))], 4, [], 131, 0⟩ : St)
      refine seqK_n (sem_seq (sem_seq (sem_region rfl (step_r rfl rfl trivial (step_r rfl rfl trivial ?_)))))
      refine step_callJ (Hin := [.row _ _ _, .row _ _ _]) (H' := [(0, .box [_, _, _, _, _, _, _, _, _, _]), (1, .box [_, _]), (2, .row _ _ _), (3, .row _ _ _)]) (nx' := 4) [2, 3] rfl rfl rfl rfl rfl rfl rfl rfl rfl (by (repeat' apply And.intro) <;> first | trivial | rfl | exact flat_len (fun _ => rfl) _ | exact encI_len _ | exact encB_len _ | exact encY_len _ | exact Nat.le_of_ble_eq_true rfl | assumption) (firstR_ok bad_2 false ids_2 false (by first | assumption | omega | (simp; omega))) rfl (by decide) rfl rfl trivial rfl rfl rfl rfl ?_
      refine step_bin rfl rfl rfl rfl rfl trivial (step_nil (seqK_n ?_))
      refine sem_cond rfl (fun h23 => ?_) (fun h23 => ?_)
      ·have g23 : (firstR bad_2 ids_2 : Int) ≥ 0 := of_decide_eq_true h23
       refine sem_seq (sem_region rfl (step_r rfl rfl trivial (step_r rfl rfl trivial ?_)))
       refine step_callJ (Hin := [.row _ _ _, .row _ _ _]) (H' := [(0, .box [_, _, _, _, _, _, _, _, _, _]), (1, .box [_, _]), (2, .row _ _ _), (3, .row _ _ _)]) (nx' := 4) [2, 3] rfl rfl rfl rfl rfl rfl rfl rfl rfl (by (repeat' apply And.intro) <;> first | trivial | rfl | exact flat_len (fun _ => rfl) _ | exact encI_len _ | exact encB_len _ | exact encY_len _ | exact Nat.le_of_ble_eq_true rfl | assumption) (firstR_ok bad_2 false ids_2 false (by first | assumption | omega | (simp; omega))) rfl (by decide) rfl rfl trivial rfl rfl rfl rfl ?_
       refine step_r (v := (.agg [_, _])) rfl rfl trivial (step_store (H' := [(0, .box [_, _, _, _, _, _, _, _, _, _]), (1, .box [_, _]), (2, .row _ _ _), (3, .row _ _ _)]) rfl rfl rfl rfl rfl rfl (Nat.le_of_ble_eq_true rfl) (.inl rfl) rfl (step_r rfl rfl trivial (step_nil (seqK_n (sem_ret (seqK_r ?_))))))
       have e24 : checkR c = ((⟨3, (firstR bad_2 ids_2)⟩ : GFlaw), false) := by
        unfold checkR
        try dsimp only
        rewrite [hJ1]
        try dsimp only
        rewrite [if_neg g7, hJ9]
        try dsimp only
        rewrite [if_neg g15, hJ17]
        try dsimp only
        rewrite [if_pos g23]
        all_goals rfl
       rw [e24]
       exact answersR rfl ⟨Nat.le_of_ble_eq_true rfl, trivial, trivial⟩ (rfl) rfl
      ·have g23 : ¬ ((firstR bad_2 ids_2 : Int) ≥ 0) := of_decide_eq_false h23
       refine sem_skip (seqK_n (sem_seq (sem_region rfl (step_r rfl rfl (by decide) (step_r (v := (.agg [_, _, _])) rfl rfl (Nat.le_of_ble_eq_true rfl) (step_r rfl rfl (by decide) (step_r (v := (.agg [_, _])) rfl rfl (Nat.le_of_ble_eq_true rfl) (step_call rfl rfl rfl rfl (gridWallR_ok c.Map c.Door) rfl rfl rfl (step_r rfl rfl trivial (step_nil (seqK_n ?_)))))))))))
       refine sem_seq (sem_region rfl (step_r rfl rfl (by decide) (step_r (v := (.agg [_, _, _])) rfl rfl (Nat.le_of_ble_eq_true rfl) (step_r rfl rfl (by decide) (step_r (v := (.agg [_, _])) rfl rfl (Nat.le_of_ble_eq_true rfl) (step_call rfl rfl rfl rfl (gridWallR_ok c.Map c.Lair) rfl rfl rfl (step_r rfl rfl trivial (step_nil (seqK_n (sem_seq (sem_seq ?_)))))))))))
       refine sem_region rfl (step_r rfl rfl trivial (step_r rfl rfl trivial ?_))
       refine step_gs rfl (fun h27 => ?_) (fun h27 => ?_)
       ·have g27 : gridWallR c.Map c.Door = true := h27
        refine step_g0 rfl h27 rfl (step_pickT rfl h27 rfl rfl (step_nil (seqK_n (sem_condT rfl (sem_seq (sem_region rfl (step_r (v := (.agg [_, _])) rfl rfl trivial (step_store (H' := [(0, .box [_, _, _, _, _, _, _, _, _, _]), (1, .box [_, _]), (2, .row _ _ _), (3, .row _ _ _)]) rfl rfl rfl rfl rfl rfl (Nat.le_of_ble_eq_true rfl) (.inl rfl) rfl (step_r rfl rfl trivial (step_nil (seqK_n ?_)))))))))))
        refine sem_ret (seqK_r ?_)
        have e28 : checkR c = ((⟨4, 0⟩ : GFlaw), false) := by
         unfold checkR
         try dsimp only
         rewrite [hJ1]
         try dsimp only
         rewrite [if_neg g7, hJ9]
         try dsimp only
         rewrite [if_neg g15, hJ17]
         try dsimp only
         rewrite [if_neg g23, if_pos g27]
         all_goals rfl
        rw [e28]
        exact answersR rfl ⟨Nat.le_of_ble_eq_true rfl, trivial, trivial⟩ (rfl) rfl
       ·have g27 : ¬ (gridWallR c.Map c.Door = true) := boo_f h27
        refine step_g1 rfl h27 (step_r rfl rfl trivial (step_pickF rfl h27 rfl rfl (step_nil (seqK_n ?_))))
        refine sem_cond rfl (fun h29 => ?_) (fun h29 => ?_)
        ·have g29 : gridWallR c.Map c.Lair = true := h29
         refine sem_seq (sem_region rfl (step_r (v := (.agg [_, _])) rfl rfl trivial (step_store (H' := [(0, .box [_, _, _, _, _, _, _, _, _, _]), (1, .box [_, _]), (2, .row _ _ _), (3, .row _ _ _)]) rfl rfl rfl rfl rfl rfl (Nat.le_of_ble_eq_true rfl) (.inl rfl) rfl (step_r rfl rfl trivial (step_nil (seqK_n (sem_ret (seqK_r ?_))))))))
         have e30 : checkR c = ((⟨4, 0⟩ : GFlaw), false) := by
          unfold checkR
          try dsimp only
          rewrite [hJ1]
          try dsimp only
          rewrite [if_neg g7, hJ9]
          try dsimp only
          rewrite [if_neg g15, hJ17]
          try dsimp only
          rewrite [if_neg g23, if_neg g27, if_pos g29]
          all_goals rfl
         rw [e30]
         exact answersR rfl ⟨Nat.le_of_ble_eq_true rfl, trivial, trivial⟩ (rfl) rfl
        ·have g29 : ¬ (gridWallR c.Map c.Lair = true) := boo_f h29
         refine sem_skip (seqK_n (sem_seq (sem_region rfl (step_r (v := (.agg [_, _])) rfl rfl trivial (step_store (H' := [(0, .box [_, _, _, _, _, _, _, _, _, _]), (1, .box [_, _]), (2, .row _ _ _), (3, .row _ _ _)]) rfl rfl rfl rfl rfl rfl (Nat.le_of_ble_eq_true rfl) (.inl rfl) rfl (step_r rfl rfl trivial (step_nil (seqK_n (sem_ret ?_)))))))))
         have e31 : checkR c = ((⟨0, 0⟩ : GFlaw), true) := by
          unfold checkR
          try dsimp only
          rewrite [hJ1]
          try dsimp only
          rewrite [if_neg g7, hJ9]
          try dsimp only
          rewrite [if_neg g15, hJ17]
          try dsimp only
          rewrite [if_neg g23, if_neg g27, if_neg g29]
          all_goals rfl
         rw [e31]
         exact answersR rfl ⟨Nat.le_of_ble_eq_true rfl, trivial, trivial⟩ (rfl) rfl

def rightR9 (c : GContent) : Bool :=
  (checkR c).2
theorem rightR9_ok (c : GContent) (hF : Few9 c) : Ok Try.prog 42 [aGContent c] [] (B (rightR9 c)) [] [] := by
 refine Ok.len fun hlen => ?_
 have hl_c_Abilities : c.Abilities.length ≤ maxLen := hlen _ (by simp [lensL, lens, lensP])
 have hl_c_Auras : c.Auras.length ≤ maxLen := hlen _ (by simp [lensL, lens, lensP])
 have hl_c_Foes : c.Foes.length ≤ maxLen := hlen _ (by simp [lensL, lens, lensP])
 have hl_c_Map_Wall : c.Map.Wall.length ≤ maxLen := hlen _ (by simp [lensL, lens, lensP])
 unfold maxLen at hl_c_Abilities hl_c_Auras hl_c_Foes hl_c_Map_Wall
 refine ok_of_sem Try.func42 rfl ?_
 show Walks Try.prog _ _ ⟨[(0, aGContent c)], [], 0, [], 11, 0⟩
 refine sem_seq (sem_region rfl (step_n (o := .box [_, _, _, _, _, _, _, _, _, _]) (nx' := 1) rfl rfl rfl trivial (step_r rfl rfl trivial (step_nil (seqK_n (sem_seq (sem_region rfl (step_r (v := (.agg [_, _, _, _, _, _, _, _, _, _])) rfl rfl (Nat.le_of_ble_eq_true rfl) (step_call rfl rfl rfl rfl (checkR_ok c (by first | assumption | exact few_small (by decide +kernel) | grind)) rfl rfl rfl (step_r rfl rfl trivial (step_r rfl rfl trivial ?_)))))))))))
 refine step_r rfl rfl trivial (step_n (o := .box [_, _]) (nx' := 2) rfl rfl rfl trivial (step_store (H' := [(1, .box [_, _]), (0, .box [_, _, _, _, _, _, _, _, _, _])]) rfl rfl rfl rfl rfl rfl (Nat.le_of_ble_eq_true rfl) (.inl rfl) rfl (step_r rfl rfl trivial (step_nil (seqK_n (sem_seq (sem_region rfl (step_r rfl rfl trivial (step_r rfl rfl trivial (step_nil (seqK_n ?_)))))))))))
 refine sem_ret ?_
 have e2 : rightR9 c = (checkR c).2 := by
  unfold rightR9
  try dsimp only
  all_goals rfl
 rw [e2]
 exact answersR rfl ⟨trivial, trivial⟩ (rfl) rfl
end Go.Proofs.Ytcbdecknbfabaaa

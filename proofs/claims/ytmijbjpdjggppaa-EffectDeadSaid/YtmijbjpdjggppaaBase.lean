import Derived.Test.YtmijbjpdjggppaaVmZ
import Derived.Test.YtmijbjpdjggppaaProg
namespace Go.Proofs.Ytmijbjpdjggppaa
open Go Go.RowKit Go.Proofs.YtmijbjpdjggppaaVm
attribute [local irreducible] opsWp AnswersE OpsS
set_option maxHeartbeats 400000
set_option maxRecDepth 100000
set_option linter.all false
def addM (a b : Int) : Int := if a > 0 ∧ b > 0 ∧ IntKind.i64.wrap (a + b) ≤ 0 then 9223372036854775807 else if a < 0 ∧ b < 0 ∧ IntKind.i64.wrap (a + b) ≥ 0 then -9223372036854775808 else IntKind.i64.wrap (a + b)
def clampM (a b d : Int) : Int := max (min a (max b d)) b
def sideM (a : Int) : Int := clampM a (-2147483647) 2147483647
def partM (a b d : Int) : Int := if d < 1 then 0 else IntKind.i64.wrap ((IntKind.i64.wrap (sideM a * sideM b)).tdiv d)
def addR (a b : Int) : Int := if a > 0 ∧ b > IntKind.i64.wrap (9223372036854775807 - a) then 9223372036854775807 else if a < 0 ∧ b < IntKind.i64.wrap (-9223372036854775808 - a) then -9223372036854775808 else IntKind.i64.wrap (a + b)
def clampR (a b d : Int) : Int := if b > d ∨ a < b then b else if a > d then d else a
def sideR (a : Int) : Int := clampR a (-2147483647) 2147483647
def partR (a b d : Int) : Int := if d < 1 then 0 else IntKind.i64.wrap ((IntKind.i64.wrap (sideR a * sideR b)).tdiv d)
theorem addM_eq {a b : Int} (ha : InR a) (hb : InR b) : addM a b = max (min (a + b) 9223372036854775807) (-9223372036854775808) := by
  unfold InR at ha hb
  simp only [addM, IntKind.wrap_i64]
  split
  · omega
  · split <;> omega
theorem addR_eq {a b : Int} (ha : InR a) (hb : InR b) : addR a b = max (min (a + b) 9223372036854775807) (-9223372036854775808) := by
  unfold InR at ha hb
  simp only [addR, IntKind.wrap_i64]
  split
  · omega
  · split <;> omega
theorem add_same {a b : Int} (ha : InR a) (hb : InR b) : addM a b = addR a b := by rw [addM_eq ha hb, addR_eq ha hb]
theorem addM_in {a b : Int} (ha : InR a) (hb : InR b) : InR (addM a b) := by rw [addM_eq ha hb]; unfold InR; omega
theorem clamp_same (a b d : Int) : clampM a b d = clampR a b d := by
  unfold clampM clampR
  split
  · omega
  · split <;> omega
theorem part_same (a b d : Int) : partM a b d = partR a b d := by
  unfold partM partR sideM sideR; simp only [clamp_same]
theorem same_no {α : Type} {a b : List α} {k : Nat} {x y : α} (hx : a[k]? = some x) (hy : b[k]? = some y) (h : x ≠ y) : ¬ a = b := by
  intro e; subst e; rw [hx] at hy; exact h (Option.some.inj hy)
theorem same_all {α : Type} {a b : List α} {k : Nat} (h : a.take k = b.take k) (hk : k = a.length) (hl : a.length = b.length) : a = b := by
  have := h; rw [hk, List.take_length, hl, List.take_length] at this; exact this


theorem clamp_ok (a : Int) (b : Int) (d : Int) : Ok Try.prog 63 [I a, I b, I d] [] (I (clampM a b d)) [] [] := by
 refine ok_of_sem Try.func63 rfl ?_
 show Walks Try.prog _ _ ⟨[(0, I a), (1, I b), (2, I d)], [], 0, [], 14, 0⟩
 refine sem_seq (sem_region rfl (step_r rfl rfl trivial (step_nil (seqK_n (sem_seq (sem_region rfl (step_r rfl rfl trivial (step_r rfl rfl trivial (step_r rfl rfl trivial ?_)))))))))
 refine step_max rfl rfl rfl ?_
 refine step_min rfl rfl rfl ?_
 refine step_r rfl rfl trivial ?_
 refine step_max rfl rfl rfl ?_
 refine step_r rfl rfl trivial (step_nil (seqK_n (sem_ret ?_)))
 exact answersR rfl ⟨trivial, trivial⟩ (rfl) rfl

theorem add_ok (a : Int) (b : Int) : Ok Try.prog 37 [I a, I b] [] (I (addM a b)) [] [] := by
 refine ok_of_sem Try.func37 rfl ?_
 show Walks Try.prog _ _ ⟨[(0, I a), (1, I b)], [], 0, [], 32, 0⟩
 refine sem_seq (sem_region rfl (step_r rfl rfl trivial (step_nil (seqK_n (sem_seq (sem_region rfl (step_r rfl rfl trivial (step_r rfl rfl trivial (step_bin rfl rfl rfl rfl rfl trivial (step_r rfl rfl trivial (step_nil ?_)))))))))))
 refine seqK_n (sem_seq (sem_block (sem_seq (sem_region rfl (step_r rfl rfl trivial (step_bin rfl rfl rfl rfl rfl trivial (step_r rfl rfl trivial ?_)))))))
 refine step_gs rfl (fun h5 => ?_) (fun h5 => ?_)
 ·have g5 := h5
  try simp at g5
  refine step_g1 rfl h5 (step_r rfl rfl trivial (step_g1 rfl h5 (step_bin rfl rfl rfl rfl rfl trivial (step_pickT rfl h5 rfl rfl (step_r rfl rfl trivial ?_)))))
  refine step_gs rfl (fun h7 => ?_) (fun h7 => ?_)
  ·have g7 := h7
   try simp at g7
   refine step_g1 rfl h7 (step_r rfl rfl trivial (step_g1 rfl h7 (step_bin rfl rfl rfl rfl rfl trivial (step_pickT rfl h7 rfl rfl (step_r rfl rfl trivial (step_nil (seqK_n ?_)))))))
   refine sem_cond rfl (fun h9 => ?_) (fun h9 => ?_)
   ·have g9 := h9
    try simp at g9
    refine sem_seq (sem_region rfl (step_r rfl rfl trivial (step_nil (seqK_n (sem_ret (blkK_r (seqK_r ?_)))))))
    refine answersR (vs := [_]) rfl ⟨trivial, trivial⟩ ?_ rfl
    simp only [decide_eq_true_eq, decide_eq_false_iff_not, Bool.not_eq_true', Bool.not_eq_false', beq_iff_eq, bne_iff_ne, beq_eq_false_iff_ne, bne_eq_false_iff_eq, ne_eq, Decidable.not_not, Bool.not_eq_true, Bool.not_eq_false, ge_iff_le, gt_iff_lt, Bool.not_not, Bool.and_eq_true, Bool.or_eq_true, Bool.and_eq_false_iff, Bool.or_eq_false_iff, Int.not_lt, Int.not_le, Nat.not_lt, Nat.not_le, cond_true, cond_false] at *
    first
     | (exfalso; omega)
     | (simp only [packA, addM]; repeat (first | rw [if_pos (by omega)] | rw [if_neg (by omega)]))
   ·have g9 := h9
    try simp at g9
    refine sem_seq (sem_region rfl (step_r rfl rfl trivial (step_bin rfl rfl rfl rfl rfl trivial (step_r rfl rfl trivial ?_))))
    refine step_gs rfl (fun h11 => ?_) (fun h11 => ?_)
    ·have g11 := h11
     try simp at g11
     refine step_g1 rfl h11 (step_r rfl rfl trivial (step_g1 rfl h11 (step_bin rfl rfl rfl rfl rfl trivial (step_pickT rfl h11 rfl rfl (step_r rfl rfl trivial ?_)))))
     refine step_gs rfl (fun h13 => ?_) (fun h13 => ?_)
     ·have g13 := h13
      try simp at g13
      refine step_g1 rfl h13 (step_r rfl rfl trivial (step_g1 rfl h13 (step_bin rfl rfl rfl rfl rfl trivial (step_pickT rfl h13 rfl rfl (step_r rfl rfl trivial (step_nil (seqK_n ?_)))))))
      refine sem_cond rfl (fun h15 => ?_) (fun h15 => ?_)
      ·have g15 := h15
       try simp at g15
       refine sem_seq (sem_region rfl (step_r rfl rfl trivial (step_nil (seqK_n (sem_ret (blkK_r (seqK_r ?_)))))))
       refine answersR (vs := [_]) rfl ⟨trivial, trivial⟩ ?_ rfl
       simp only [decide_eq_true_eq, decide_eq_false_iff_not, Bool.not_eq_true', Bool.not_eq_false', beq_iff_eq, bne_iff_ne, beq_eq_false_iff_ne, bne_eq_false_iff_eq, ne_eq, Decidable.not_not, Bool.not_eq_true, Bool.not_eq_false, ge_iff_le, gt_iff_lt, Bool.not_not, Bool.and_eq_true, Bool.or_eq_true, Bool.and_eq_false_iff, Bool.or_eq_false_iff, Int.not_lt, Int.not_le, Nat.not_lt, Nat.not_le, cond_true, cond_false] at *
       first
        | (exfalso; omega)
        | (simp only [packA, addM]; repeat (first | rw [if_pos (by omega)] | rw [if_neg (by omega)]))
      ·have g15 := h15
       try simp at g15
       refine sem_skip (blkK_n (seqK_n (sem_seq (sem_region rfl (step_r rfl rfl trivial (step_r rfl rfl trivial (step_nil (seqK_n (sem_ret ?_)))))))))
       refine answersR (vs := [_]) rfl ⟨trivial, trivial⟩ ?_ rfl
       simp only [decide_eq_true_eq, decide_eq_false_iff_not, Bool.not_eq_true', Bool.not_eq_false', beq_iff_eq, bne_iff_ne, beq_eq_false_iff_ne, bne_eq_false_iff_eq, ne_eq, Decidable.not_not, Bool.not_eq_true, Bool.not_eq_false, ge_iff_le, gt_iff_lt, Bool.not_not, Bool.and_eq_true, Bool.or_eq_true, Bool.and_eq_false_iff, Bool.or_eq_false_iff, Int.not_lt, Int.not_le, Nat.not_lt, Nat.not_le, cond_true, cond_false] at *
       first
        | (exfalso; omega)
        | (simp only [packA, addM]; repeat (first | rw [if_pos (by omega)] | rw [if_neg (by omega)]))
     ·have g13 := h13
      try simp at g13
      refine step_g0 rfl h13 rfl (step_g0 rfl h13 rfl (step_pickF rfl h13 rfl rfl (step_r rfl rfl trivial (step_nil (seqK_n (sem_condF rfl (sem_skip (blkK_n (seqK_n (sem_seq (sem_region rfl ?_)))))))))))
      refine step_r rfl rfl trivial (step_r rfl rfl trivial (step_nil (seqK_n (sem_ret ?_))))
      refine answersR (vs := [_]) rfl ⟨trivial, trivial⟩ ?_ rfl
      simp only [decide_eq_true_eq, decide_eq_false_iff_not, Bool.not_eq_true', Bool.not_eq_false', beq_iff_eq, bne_iff_ne, beq_eq_false_iff_ne, bne_eq_false_iff_eq, ne_eq, Decidable.not_not, Bool.not_eq_true, Bool.not_eq_false, ge_iff_le, gt_iff_lt, Bool.not_not, Bool.and_eq_true, Bool.or_eq_true, Bool.and_eq_false_iff, Bool.or_eq_false_iff, Int.not_lt, Int.not_le, Nat.not_lt, Nat.not_le, cond_true, cond_false] at *
      first
       | (exfalso; omega)
       | (simp only [packA, addM]; repeat (first | rw [if_pos (by omega)] | rw [if_neg (by omega)]))
    ·have g11 := h11
     try simp at g11
     refine step_g0 rfl h11 rfl (step_g0 rfl h11 rfl (step_pickF rfl h11 rfl rfl (step_r rfl rfl trivial (step_gf rfl rfl (step_gf rfl rfl (step_r rfl rfl trivial (step_r rfl rfl trivial (step_nil (seqK_n (sem_condF rfl (sem_skip ?_)))))))))))
     refine blkK_n (seqK_n (sem_seq (sem_region rfl (step_r rfl rfl trivial (step_r rfl rfl trivial (step_nil (seqK_n (sem_ret ?_))))))))
     refine answersR (vs := [_]) rfl ⟨trivial, trivial⟩ ?_ rfl
     simp only [decide_eq_true_eq, decide_eq_false_iff_not, Bool.not_eq_true', Bool.not_eq_false', beq_iff_eq, bne_iff_ne, beq_eq_false_iff_ne, bne_eq_false_iff_eq, ne_eq, Decidable.not_not, Bool.not_eq_true, Bool.not_eq_false, ge_iff_le, gt_iff_lt, Bool.not_not, Bool.and_eq_true, Bool.or_eq_true, Bool.and_eq_false_iff, Bool.or_eq_false_iff, Int.not_lt, Int.not_le, Nat.not_lt, Nat.not_le, cond_true, cond_false] at *
     first
      | (exfalso; omega)
      | (simp only [packA, addM]; repeat (first | rw [if_pos (by omega)] | rw [if_neg (by omega)]))
  ·have g7 := h7
   try simp at g7
   refine step_g0 rfl h7 rfl (step_g0 rfl h7 rfl (step_pickF rfl h7 rfl rfl (step_r rfl rfl trivial (step_nil (seqK_n (sem_condF rfl (sem_seq (sem_region rfl (step_r rfl rfl trivial (step_bin rfl rfl rfl rfl rfl trivial (step_r rfl rfl trivial ?_)))))))))))
   refine step_gs rfl (fun h17 => ?_) (fun h17 => ?_)
   ·have g17 := h17
    try simp at g17
    refine step_g1 rfl h17 (step_r rfl rfl trivial (step_g1 rfl h17 (step_bin rfl rfl rfl rfl rfl trivial (step_pickT rfl h17 rfl rfl (step_r rfl rfl trivial ?_)))))
    refine step_gs rfl (fun h19 => ?_) (fun h19 => ?_)
    ·have g19 := h19
     try simp at g19
     refine step_g1 rfl h19 (step_r rfl rfl trivial (step_g1 rfl h19 (step_bin rfl rfl rfl rfl rfl trivial (step_pickT rfl h19 rfl rfl (step_r rfl rfl trivial (step_nil (seqK_n ?_)))))))
     refine sem_cond rfl (fun h21 => ?_) (fun h21 => ?_)
     ·have g21 := h21
      try simp at g21
      refine sem_seq (sem_region rfl (step_r rfl rfl trivial (step_nil (seqK_n (sem_ret (blkK_r (seqK_r ?_)))))))
      refine answersR (vs := [_]) rfl ⟨trivial, trivial⟩ ?_ rfl
      simp only [decide_eq_true_eq, decide_eq_false_iff_not, Bool.not_eq_true', Bool.not_eq_false', beq_iff_eq, bne_iff_ne, beq_eq_false_iff_ne, bne_eq_false_iff_eq, ne_eq, Decidable.not_not, Bool.not_eq_true, Bool.not_eq_false, ge_iff_le, gt_iff_lt, Bool.not_not, Bool.and_eq_true, Bool.or_eq_true, Bool.and_eq_false_iff, Bool.or_eq_false_iff, Int.not_lt, Int.not_le, Nat.not_lt, Nat.not_le, cond_true, cond_false] at *
      first
       | (exfalso; omega)
       | (simp only [packA, addM]; repeat (first | rw [if_pos (by omega)] | rw [if_neg (by omega)]))
     ·have g21 := h21
      try simp at g21
      refine sem_skip (blkK_n (seqK_n (sem_seq (sem_region rfl (step_r rfl rfl trivial (step_r rfl rfl trivial (step_nil (seqK_n (sem_ret ?_)))))))))
      refine answersR (vs := [_]) rfl ⟨trivial, trivial⟩ ?_ rfl
      simp only [decide_eq_true_eq, decide_eq_false_iff_not, Bool.not_eq_true', Bool.not_eq_false', beq_iff_eq, bne_iff_ne, beq_eq_false_iff_ne, bne_eq_false_iff_eq, ne_eq, Decidable.not_not, Bool.not_eq_true, Bool.not_eq_false, ge_iff_le, gt_iff_lt, Bool.not_not, Bool.and_eq_true, Bool.or_eq_true, Bool.and_eq_false_iff, Bool.or_eq_false_iff, Int.not_lt, Int.not_le, Nat.not_lt, Nat.not_le, cond_true, cond_false] at *
      first
       | (exfalso; omega)
       | (simp only [packA, addM]; repeat (first | rw [if_pos (by omega)] | rw [if_neg (by omega)]))
    ·have g19 := h19
     try simp at g19
     refine step_g0 rfl h19 rfl (step_g0 rfl h19 rfl (step_pickF rfl h19 rfl rfl (step_r rfl rfl trivial (step_nil (seqK_n (sem_condF rfl (sem_skip (blkK_n (seqK_n (sem_seq (sem_region rfl ?_)))))))))))
     refine step_r rfl rfl trivial (step_r rfl rfl trivial (step_nil (seqK_n (sem_ret ?_))))
     refine answersR (vs := [_]) rfl ⟨trivial, trivial⟩ ?_ rfl
     simp only [decide_eq_true_eq, decide_eq_false_iff_not, Bool.not_eq_true', Bool.not_eq_false', beq_iff_eq, bne_iff_ne, beq_eq_false_iff_ne, bne_eq_false_iff_eq, ne_eq, Decidable.not_not, Bool.not_eq_true, Bool.not_eq_false, ge_iff_le, gt_iff_lt, Bool.not_not, Bool.and_eq_true, Bool.or_eq_true, Bool.and_eq_false_iff, Bool.or_eq_false_iff, Int.not_lt, Int.not_le, Nat.not_lt, Nat.not_le, cond_true, cond_false] at *
     first
      | (exfalso; omega)
      | (simp only [packA, addM]; repeat (first | rw [if_pos (by omega)] | rw [if_neg (by omega)]))
   ·have g17 := h17
    try simp at g17
    refine step_g0 rfl h17 rfl (step_g0 rfl h17 rfl (step_pickF rfl h17 rfl rfl (step_r rfl rfl trivial (step_gf rfl rfl (step_gf rfl rfl (step_r rfl rfl trivial (step_r rfl rfl trivial (step_nil (seqK_n (sem_condF rfl (sem_skip ?_)))))))))))
    refine blkK_n (seqK_n (sem_seq (sem_region rfl (step_r rfl rfl trivial (step_r rfl rfl trivial (step_nil (seqK_n (sem_ret ?_))))))))
    refine answersR (vs := [_]) rfl ⟨trivial, trivial⟩ ?_ rfl
    simp only [decide_eq_true_eq, decide_eq_false_iff_not, Bool.not_eq_true', Bool.not_eq_false', beq_iff_eq, bne_iff_ne, beq_eq_false_iff_ne, bne_eq_false_iff_eq, ne_eq, Decidable.not_not, Bool.not_eq_true, Bool.not_eq_false, ge_iff_le, gt_iff_lt, Bool.not_not, Bool.and_eq_true, Bool.or_eq_true, Bool.and_eq_false_iff, Bool.or_eq_false_iff, Int.not_lt, Int.not_le, Nat.not_lt, Nat.not_le, cond_true, cond_false] at *
    first
     | (exfalso; omega)
     | (simp only [packA, addM]; repeat (first | rw [if_pos (by omega)] | rw [if_neg (by omega)]))
 ·have g5 := h5
  try simp at g5
  refine step_g0 rfl h5 rfl (step_g0 rfl h5 rfl (step_pickF rfl h5 rfl rfl (step_r rfl rfl trivial (step_gf rfl rfl (step_gf rfl rfl (step_r rfl rfl trivial (step_r rfl rfl trivial (step_nil (seqK_n (sem_condF rfl (sem_seq ?_)))))))))))
  refine sem_region rfl (step_r rfl rfl trivial (step_bin rfl rfl rfl rfl rfl trivial (step_r rfl rfl trivial ?_)))
  refine step_gs rfl (fun h23 => ?_) (fun h23 => ?_)
  ·have g23 := h23
   try simp at g23
   refine step_g1 rfl h23 (step_r rfl rfl trivial (step_g1 rfl h23 (step_bin rfl rfl rfl rfl rfl trivial (step_pickT rfl h23 rfl rfl (step_r rfl rfl trivial ?_)))))
   refine step_gs rfl (fun h25 => ?_) (fun h25 => ?_)
   ·have g25 := h25
    try simp at g25
    refine step_g1 rfl h25 (step_r rfl rfl trivial (step_g1 rfl h25 (step_bin rfl rfl rfl rfl rfl trivial (step_pickT rfl h25 rfl rfl (step_r rfl rfl trivial (step_nil (seqK_n ?_)))))))
    refine sem_cond rfl (fun h27 => ?_) (fun h27 => ?_)
    ·have g27 := h27
     try simp at g27
     refine sem_seq (sem_region rfl (step_r rfl rfl trivial (step_nil (seqK_n (sem_ret (blkK_r (seqK_r ?_)))))))
     refine answersR (vs := [_]) rfl ⟨trivial, trivial⟩ ?_ rfl
     simp only [decide_eq_true_eq, decide_eq_false_iff_not, Bool.not_eq_true', Bool.not_eq_false', beq_iff_eq, bne_iff_ne, beq_eq_false_iff_ne, bne_eq_false_iff_eq, ne_eq, Decidable.not_not, Bool.not_eq_true, Bool.not_eq_false, ge_iff_le, gt_iff_lt, Bool.not_not, Bool.and_eq_true, Bool.or_eq_true, Bool.and_eq_false_iff, Bool.or_eq_false_iff, Int.not_lt, Int.not_le, Nat.not_lt, Nat.not_le, cond_true, cond_false] at *
     first
      | (exfalso; omega)
      | (simp only [packA, addM]; repeat (first | rw [if_pos (by omega)] | rw [if_neg (by omega)]))
    ·have g27 := h27
     try simp at g27
     refine sem_skip (blkK_n (seqK_n (sem_seq (sem_region rfl (step_r rfl rfl trivial (step_r rfl rfl trivial (step_nil (seqK_n (sem_ret ?_)))))))))
     refine answersR (vs := [_]) rfl ⟨trivial, trivial⟩ ?_ rfl
     simp only [decide_eq_true_eq, decide_eq_false_iff_not, Bool.not_eq_true', Bool.not_eq_false', beq_iff_eq, bne_iff_ne, beq_eq_false_iff_ne, bne_eq_false_iff_eq, ne_eq, Decidable.not_not, Bool.not_eq_true, Bool.not_eq_false, ge_iff_le, gt_iff_lt, Bool.not_not, Bool.and_eq_true, Bool.or_eq_true, Bool.and_eq_false_iff, Bool.or_eq_false_iff, Int.not_lt, Int.not_le, Nat.not_lt, Nat.not_le, cond_true, cond_false] at *
     first
      | (exfalso; omega)
      | (simp only [packA, addM]; repeat (first | rw [if_pos (by omega)] | rw [if_neg (by omega)]))
   ·have g25 := h25
    try simp at g25
    refine step_g0 rfl h25 rfl (step_g0 rfl h25 rfl (step_pickF rfl h25 rfl rfl (step_r rfl rfl trivial (step_nil (seqK_n (sem_condF rfl (sem_skip (blkK_n (seqK_n (sem_seq (sem_region rfl ?_)))))))))))
    refine step_r rfl rfl trivial (step_r rfl rfl trivial (step_nil (seqK_n (sem_ret ?_))))
    refine answersR (vs := [_]) rfl ⟨trivial, trivial⟩ ?_ rfl
    simp only [decide_eq_true_eq, decide_eq_false_iff_not, Bool.not_eq_true', Bool.not_eq_false', beq_iff_eq, bne_iff_ne, beq_eq_false_iff_ne, bne_eq_false_iff_eq, ne_eq, Decidable.not_not, Bool.not_eq_true, Bool.not_eq_false, ge_iff_le, gt_iff_lt, Bool.not_not, Bool.and_eq_true, Bool.or_eq_true, Bool.and_eq_false_iff, Bool.or_eq_false_iff, Int.not_lt, Int.not_le, Nat.not_lt, Nat.not_le, cond_true, cond_false] at *
    first
     | (exfalso; omega)
     | (simp only [packA, addM]; repeat (first | rw [if_pos (by omega)] | rw [if_neg (by omega)]))
  ·have g23 := h23
   try simp at g23
   refine step_g0 rfl h23 rfl (step_g0 rfl h23 rfl (step_pickF rfl h23 rfl rfl (step_r rfl rfl trivial (step_gf rfl rfl (step_gf rfl rfl (step_r rfl rfl trivial (step_r rfl rfl trivial (step_nil (seqK_n (sem_condF rfl (sem_skip ?_)))))))))))
   refine blkK_n (seqK_n (sem_seq (sem_region rfl (step_r rfl rfl trivial (step_r rfl rfl trivial (step_nil (seqK_n (sem_ret ?_))))))))
   refine answersR (vs := [_]) rfl ⟨trivial, trivial⟩ ?_ rfl
   simp only [decide_eq_true_eq, decide_eq_false_iff_not, Bool.not_eq_true', Bool.not_eq_false', beq_iff_eq, bne_iff_ne, beq_eq_false_iff_ne, bne_eq_false_iff_eq, ne_eq, Decidable.not_not, Bool.not_eq_true, Bool.not_eq_false, ge_iff_le, gt_iff_lt, Bool.not_not, Bool.and_eq_true, Bool.or_eq_true, Bool.and_eq_false_iff, Bool.or_eq_false_iff, Int.not_lt, Int.not_le, Nat.not_lt, Nat.not_le, cond_true, cond_false] at *
   first
    | (exfalso; omega)
    | (simp only [packA, addM]; repeat (first | rw [if_pos (by omega)] | rw [if_neg (by omega)]))

theorem side_ok (a : Int) : Ok Try.prog 75 [I a] [] (I (sideM a)) [] [] := by
 refine ok_of_sem Try.func75 rfl ?_
 show Walks Try.prog _ _ ⟨[(0, I a)], [], 0, [], 5, 0⟩
 refine sem_seq (sem_region rfl (step_r rfl rfl trivial (step_nil (seqK_n (sem_seq (sem_region rfl (step_r rfl rfl trivial (step_call rfl rfl rfl rfl (clamp_ok a (-2147483647) 2147483647) rfl rfl rfl (step_r rfl rfl trivial (step_nil (seqK_n ?_)))))))))))
 refine sem_ret ?_
 exact answersR rfl ⟨trivial, trivial⟩ (rfl) rfl

theorem part_ok (a : Int) (b : Int) (d : Int) : Ok Try.prog 71 [I a, I b, I d] [] (I (partM a b d)) [] [] := by
 refine ok_of_sem Try.func71 rfl ?_
 show Walks Try.prog _ _ ⟨[(0, I a), (1, I b), (2, I d)], [], 0, [], 19, 0⟩
 refine sem_seq (sem_region rfl (step_r rfl rfl trivial (step_nil (seqK_n (sem_seq (sem_seq (sem_region rfl (step_r rfl rfl trivial (step_bin rfl rfl rfl rfl rfl trivial (step_nil (seqK_n ?_)))))))))))
 refine sem_cond rfl (fun h2 => ?_) (fun h2 => ?_)
 ·have g2 := h2
  try simp at g2
  refine sem_seq (sem_region rfl (step_r rfl rfl trivial (step_nil (seqK_n (sem_ret (seqK_r ?_))))))
  refine answersR (vs := [_]) rfl ⟨trivial, trivial⟩ ?_ rfl
  simp only [decide_eq_true_eq, decide_eq_false_iff_not, Bool.not_eq_true', Bool.not_eq_false', beq_iff_eq, bne_iff_ne, beq_eq_false_iff_ne, bne_eq_false_iff_eq, ne_eq, Decidable.not_not, Bool.not_eq_true, Bool.not_eq_false, ge_iff_le, gt_iff_lt, Bool.not_not, Bool.and_eq_true, Bool.or_eq_true, Bool.and_eq_false_iff, Bool.or_eq_false_iff, Int.not_lt, Int.not_le, Nat.not_lt, Nat.not_le, cond_true, cond_false] at *
  first
   | (exfalso; omega)
   | (simp only [packA, partM]; repeat (first | rw [if_pos (by omega)] | rw [if_neg (by omega)]))
 ·have g2 := h2
  try simp at g2
  refine sem_skip (seqK_n (sem_seq (sem_region rfl (step_r rfl rfl trivial (step_nil (seqK_n (sem_seq (sem_region rfl (step_r rfl rfl trivial (step_r rfl rfl trivial (step_call rfl rfl rfl rfl (side_ok a) rfl rfl rfl ?_)))))))))))
  refine step_r rfl rfl trivial (step_r rfl rfl trivial (step_call rfl rfl rfl rfl (side_ok b) rfl rfl rfl (step_bin rfl rfl rfl rfl rfl trivial (step_r rfl rfl trivial ?_))))
  refine step_bin rfl rfl rfl rfl rfl (by simp only [decide_eq_false_iff_not] at *; omega) ?_
  refine step_r rfl rfl trivial (step_nil (seqK_n (sem_ret ?_)))
  refine answersR (vs := [_]) rfl ⟨trivial, trivial⟩ ?_ rfl
  simp only [decide_eq_true_eq, decide_eq_false_iff_not, Bool.not_eq_true', Bool.not_eq_false', beq_iff_eq, bne_iff_ne, beq_eq_false_iff_ne, bne_eq_false_iff_eq, ne_eq, Decidable.not_not, Bool.not_eq_true, Bool.not_eq_false, ge_iff_le, gt_iff_lt, Bool.not_not, Bool.and_eq_true, Bool.or_eq_true, Bool.and_eq_false_iff, Bool.or_eq_false_iff, Int.not_lt, Int.not_le, Nat.not_lt, Nat.not_le, cond_true, cond_false] at *
  first
   | (exfalso; omega)
   | (simp only [packA, partM]; repeat (first | rw [if_pos (by omega)] | rw [if_neg (by omega)]))
end Go.Proofs.Ytmijbjpdjggppaa

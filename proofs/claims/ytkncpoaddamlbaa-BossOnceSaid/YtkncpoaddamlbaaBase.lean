import Derived.Test.YtkncpoaddamlbaaVmX
import Derived.Test.YtkncpoaddamlbaaProg
namespace Go.Proofs.Ytkncpoaddamlbaa
open Go Go.RowKit Go.Proofs.YtkncpoaddamlbaaVm
attribute [local irreducible] opsWp AnswersE OpsS
set_option maxHeartbeats 400000
set_option maxRecDepth 100000
set_option linter.all false
def addM (a b : Int) : Int := if a > 0 ∧ b > 0 ∧ IntKind.i64.wrap (a + b) ≤ 0 then 9223372036854775807 else if a < 0 ∧ b < 0 ∧ IntKind.i64.wrap (a + b) ≥ 0 then -9223372036854775808 else IntKind.i64.wrap (a + b)
def clampM (a b d : Int) : Int := max (min a (max b d)) b
def sideM (a : Int) : Int := clampM a (-2147483647) 2147483647
def partM (a b d : Int) : Int := if d < 1 then 0 else IntKind.i64.wrap ((IntKind.i64.wrap (sideM a * sideM b)).tdiv d)
def addR (a b : Int) : Int := if a > 0 ∧ b > IntKind.i64.wrap (9223372036854775807 - a) then 9223372036854775807 else if a < 0 ∧ b < IntKind.i64.wrap (-9223372036854775808 - a) then -9223372036854775808 else IntKind.i64.wrap (a + b)
def clampR (a b d : Int) : Int := if b > d ∨ a < b then b else if a > d then d else a
def sideR (a : Int) : Int := clampR a (-2147483647) 2147483647
def partR (a b d : Int) : Int := if d < 1 then 0 else IntKind.i64.wrap ((IntKind.i64.wrap (sideR a * sideR b)).tdiv d)
theorem addM_eq {a b : Int} (ha : InR a) (hb : InR b) : addM a b = max (min (a + b) 9223372036854775807) (-9223372036854775808) := by
  unfold InR at ha hb
  simp only [addM, IntKind.wrap_i64]
  split
  · omega
  · split <;> omega
theorem addR_eq {a b : Int} (ha : InR a) (hb : InR b) : addR a b = max (min (a + b) 9223372036854775807) (-9223372036854775808) := by
  unfold InR at ha hb
  simp only [addR, IntKind.wrap_i64]
  split
  · omega
  · split <;> omega
theorem add_same {a b : Int} (ha : InR a) (hb : InR b) : addM a b = addR a b := by rw [addM_eq ha hb, addR_eq ha hb]
theorem addM_in {a b : Int} (ha : InR a) (hb : InR b) : InR (addM a b) := by rw [addM_eq ha hb]; unfold InR; omega
theorem clamp_same (a b d : Int) : clampM a b d = clampR a b d := by
  unfold clampM clampR
  split
  · omega
  · split <;> omega
theorem part_same (a b d : Int) : partM a b d = partR a b d := by
  unfold partM partR sideM sideR; simp only [clamp_same]
theorem same_no {α : Type} {a b : List α} {k : Nat} {x y : α} (hx : a[k]? = some x) (hy : b[k]? = some y) (h : x ≠ y) : ¬ a = b := by
  intro e; subst e; rw [hx] at hy; exact h (Option.some.inj hy)
theorem same_all {α : Type} {a b : List α} {k : Nat} (h : a.take k = b.take k) (hk : k = a.length) (hl : a.length = b.length) : a = b := by
  have := h; rw [hk, List.take_length, hl, List.take_length] at this; exact this


theorem clamp_ok (a : Int) (b : Int) (d : Int) : Ok Try.prog 31 [I a, I b, I d] [] (I (clampM a b d)) [] [] := by
 refine ok_of_sem Try.func31 rfl ?_
 show Walks Try.prog _ _ ⟨[(0, I a), (1, I b), (2, I d)], [], 0, [], 14, 0⟩
 refine sem_seq ?_
 refine sem_region rfl ?_
 refine step_r rfl rfl trivial ?_
 refine step_nil ?_
 refine seqK_n ?_
 refine sem_seq ?_
 refine sem_region rfl ?_
 refine step_r rfl rfl trivial ?_
 refine step_r rfl rfl trivial ?_
 refine step_r rfl rfl trivial ?_
 refine step_max rfl rfl rfl ?_
 refine step_min rfl rfl rfl ?_
 refine step_r rfl rfl trivial ?_
 refine step_max rfl rfl rfl ?_
 refine step_r rfl rfl trivial ?_
 refine step_nil ?_
 refine seqK_n ?_
 refine sem_ret ?_
 exact answersR rfl ⟨trivial, trivial⟩ (rfl) rfl

theorem side_ok (a : Int) : Ok Try.prog 30 [I a] [] (I (sideM a)) [] [] := by
 refine ok_of_sem Try.func30 rfl ?_
 show Walks Try.prog _ _ ⟨[(0, I a)], [], 0, [], 5, 0⟩
 refine sem_seq ?_
 refine sem_region rfl ?_
 refine step_r rfl rfl trivial ?_
 refine step_nil ?_
 refine seqK_n ?_
 refine sem_seq ?_
 refine sem_region rfl ?_
 refine step_r rfl rfl trivial ?_
 refine step_call rfl rfl rfl rfl (clamp_ok a (-2147483647) 2147483647) rfl rfl rfl ?_
 refine step_r rfl rfl trivial ?_
 refine step_nil ?_
 refine seqK_n ?_
 refine sem_ret ?_
 exact answersR rfl ⟨trivial, trivial⟩ (rfl) rfl

theorem part_ok (a : Int) (b : Int) (d : Int) : Ok Try.prog 28 [I a, I b, I d] [] (I (partM a b d)) [] [] := by
 refine ok_of_sem Try.func28 rfl ?_
 show Walks Try.prog _ _ ⟨[(0, I a), (1, I b), (2, I d)], [], 0, [], 19, 0⟩
 refine sem_seq ?_
 refine sem_region rfl ?_
 refine step_r rfl rfl trivial ?_
 refine step_nil ?_
 refine seqK_n ?_
 refine sem_seq ?_
 refine sem_seq ?_
 refine sem_region rfl ?_
 refine step_r rfl rfl trivial ?_
 refine step_bin rfl rfl rfl rfl rfl trivial ?_
 refine step_nil ?_
 refine seqK_n ?_
 refine sem_cond rfl (fun h2 => ?_) (fun h2 => ?_)
 ·have g2 := h2
  try simp at g2
  refine sem_seq ?_
  refine sem_region rfl ?_
  refine step_r rfl rfl trivial ?_
  refine step_nil ?_
  refine seqK_n ?_
  refine sem_ret ?_
  refine seqK_r ?_
  refine answersR (vs := [_]) rfl ⟨trivial, trivial⟩ ?_ rfl
  simp only [decide_eq_true_eq, decide_eq_false_iff_not, Bool.not_eq_true', Bool.not_eq_false', beq_iff_eq, bne_iff_ne, beq_eq_false_iff_ne, bne_eq_false_iff_eq, ne_eq, Decidable.not_not, Bool.not_eq_true, Bool.not_eq_false, ge_iff_le, gt_iff_lt, Bool.not_not, Bool.and_eq_true, Bool.or_eq_true, Bool.and_eq_false_iff, Bool.or_eq_false_iff, Int.not_lt, Int.not_le, Nat.not_lt, Nat.not_le, cond_true, cond_false] at *
  first
   | (exfalso; omega)
   | (simp only [packA, partM]; repeat (first | rw [if_pos (by omega)] | rw [if_neg (by omega)]))
 ·have g2 := h2
  try simp at g2
  refine sem_skip ?_
  refine seqK_n ?_
  refine sem_seq ?_
  refine sem_region rfl ?_
  refine step_r rfl rfl trivial ?_
  refine step_nil ?_
  refine seqK_n ?_
  refine sem_seq ?_
  refine sem_region rfl ?_
  refine step_r rfl rfl trivial ?_
  refine step_r rfl rfl trivial ?_
  refine step_call rfl rfl rfl rfl (side_ok a) rfl rfl rfl ?_
  refine step_r rfl rfl trivial ?_
  refine step_r rfl rfl trivial ?_
  refine step_call rfl rfl rfl rfl (side_ok b) rfl rfl rfl ?_
  refine step_bin rfl rfl rfl rfl rfl trivial ?_
  refine step_r rfl rfl trivial ?_
  refine step_bin rfl rfl rfl rfl rfl (by simp only [decide_eq_false_iff_not] at *; omega) ?_
  refine step_r rfl rfl trivial ?_
  refine step_nil ?_
  refine seqK_n ?_
  refine sem_ret ?_
  refine answersR (vs := [_]) rfl ⟨trivial, trivial⟩ ?_ rfl
  simp only [decide_eq_true_eq, decide_eq_false_iff_not, Bool.not_eq_true', Bool.not_eq_false', beq_iff_eq, bne_iff_ne, beq_eq_false_iff_ne, bne_eq_false_iff_eq, ne_eq, Decidable.not_not, Bool.not_eq_true, Bool.not_eq_false, ge_iff_le, gt_iff_lt, Bool.not_not, Bool.and_eq_true, Bool.or_eq_true, Bool.and_eq_false_iff, Bool.or_eq_false_iff, Int.not_lt, Int.not_le, Nat.not_lt, Nat.not_le, cond_true, cond_false] at *
  first
   | (exfalso; omega)
   | (simp only [packA, partM]; repeat (first | rw [if_pos (by omega)] | rw [if_neg (by omega)]))

theorem clampR_ok (a : Int) (b : Int) (d : Int) : Ok Try.prog 32 [I a, I b, I d] [] (I (clampR a b d)) [] [] := by
 refine ok_of_sem Try.func32 rfl ?_
 show Walks Try.prog _ _ ⟨[(0, I a), (1, I b), (2, I d)], [], 0, [], 21, 0⟩
 refine sem_seq ?_
 refine sem_region rfl ?_
 refine step_r rfl rfl trivial ?_
 refine step_nil ?_
 refine seqK_n ?_
 refine sem_seq ?_
 refine sem_seq ?_
 refine sem_region rfl ?_
 refine step_r rfl rfl trivial ?_
 refine step_r rfl rfl trivial ?_
 refine step_bin rfl rfl rfl rfl rfl trivial ?_
 refine step_r rfl rfl trivial ?_
 refine step_gs rfl (fun h4 => ?_) (fun h4 => ?_)
 ·have g4 := h4
  try simp at g4
  refine step_g0 rfl h4 rfl ?_
  refine step_g0 rfl h4 rfl ?_
  refine step_g0 rfl h4 rfl ?_
  refine step_pickT rfl h4 rfl rfl ?_
  refine step_nil ?_
  refine seqK_n ?_
  refine sem_condT rfl ?_
  refine sem_seq ?_
  refine sem_region rfl ?_
  refine step_r rfl rfl trivial ?_
  refine step_r rfl rfl trivial ?_
  refine step_nil ?_
  refine seqK_n ?_
  refine sem_ret ?_
  refine seqK_r ?_
  refine answersR (vs := [_]) rfl ⟨trivial, trivial⟩ ?_ rfl
  simp only [decide_eq_true_eq, decide_eq_false_iff_not, Bool.not_eq_true', Bool.not_eq_false', beq_iff_eq, bne_iff_ne, beq_eq_false_iff_ne, bne_eq_false_iff_eq, ne_eq, Decidable.not_not, Bool.not_eq_true, Bool.not_eq_false, ge_iff_le, gt_iff_lt, Bool.not_not, Bool.and_eq_true, Bool.or_eq_true, Bool.and_eq_false_iff, Bool.or_eq_false_iff, Int.not_lt, Int.not_le, Nat.not_lt, Nat.not_le, cond_true, cond_false] at *
  first
   | (exfalso; omega)
   | (simp only [packA, clampR]; repeat (first | rw [if_pos (by omega)] | rw [if_neg (by omega)]))
 ·have g4 := h4
  try simp at g4
  refine step_g1 rfl h4 ?_
  refine step_r rfl rfl trivial ?_
  refine step_g1 rfl h4 ?_
  refine step_r rfl rfl trivial ?_
  refine step_g1 rfl h4 ?_
  refine step_bin rfl rfl rfl rfl rfl trivial ?_
  refine step_pickF rfl h4 rfl rfl ?_
  refine step_nil ?_
  refine seqK_n ?_
  refine sem_cond rfl (fun h7 => ?_) (fun h7 => ?_)
  ·have g7 := h7
   try simp at g7
   refine sem_seq ?_
   refine sem_region rfl ?_
   refine step_r rfl rfl trivial ?_
   refine step_r rfl rfl trivial ?_
   refine step_nil ?_
   refine seqK_n ?_
   refine sem_ret ?_
   refine seqK_r ?_
   refine answersR (vs := [_]) rfl ⟨trivial, trivial⟩ ?_ rfl
   simp only [decide_eq_true_eq, decide_eq_false_iff_not, Bool.not_eq_true', Bool.not_eq_false', beq_iff_eq, bne_iff_ne, beq_eq_false_iff_ne, bne_eq_false_iff_eq, ne_eq, Decidable.not_not, Bool.not_eq_true, Bool.not_eq_false, ge_iff_le, gt_iff_lt, Bool.not_not, Bool.and_eq_true, Bool.or_eq_true, Bool.and_eq_false_iff, Bool.or_eq_false_iff, Int.not_lt, Int.not_le, Nat.not_lt, Nat.not_le, cond_true, cond_false] at *
   first
    | (exfalso; omega)
    | (simp only [packA, clampR]; repeat (first | rw [if_pos (by omega)] | rw [if_neg (by omega)]))
  ·have g7 := h7
   try simp at g7
   refine sem_skip ?_
   refine seqK_n ?_
   refine sem_seq ?_
   refine sem_seq ?_
   refine sem_region rfl ?_
   refine step_r rfl rfl trivial ?_
   refine step_r rfl rfl trivial ?_
   refine step_bin rfl rfl rfl rfl rfl trivial ?_
   refine step_nil ?_
   refine seqK_n ?_
   refine sem_cond rfl (fun h8 => ?_) (fun h8 => ?_)
   ·have g8 := h8
    try simp at g8
    refine sem_seq ?_
    refine sem_region rfl ?_
    refine step_r rfl rfl trivial ?_
    refine step_r rfl rfl trivial ?_
    refine step_nil ?_
    refine seqK_n ?_
    refine sem_ret ?_
    refine seqK_r ?_
    refine answersR (vs := [_]) rfl ⟨trivial, trivial⟩ ?_ rfl
    simp only [decide_eq_true_eq, decide_eq_false_iff_not, Bool.not_eq_true', Bool.not_eq_false', beq_iff_eq, bne_iff_ne, beq_eq_false_iff_ne, bne_eq_false_iff_eq, ne_eq, Decidable.not_not, Bool.not_eq_true, Bool.not_eq_false, ge_iff_le, gt_iff_lt, Bool.not_not, Bool.and_eq_true, Bool.or_eq_true, Bool.and_eq_false_iff, Bool.or_eq_false_iff, Int.not_lt, Int.not_le, Nat.not_lt, Nat.not_le, cond_true, cond_false] at *
    first
     | (exfalso; omega)
     | (simp only [packA, clampR]; repeat (first | rw [if_pos (by omega)] | rw [if_neg (by omega)]))
   ·have g8 := h8
    try simp at g8
    refine sem_skip ?_
    refine seqK_n ?_
    refine sem_seq ?_
    refine sem_region rfl ?_
    refine step_r rfl rfl trivial ?_
    refine step_r rfl rfl trivial ?_
    refine step_nil ?_
    refine seqK_n ?_
    refine sem_ret ?_
    refine answersR (vs := [_]) rfl ⟨trivial, trivial⟩ ?_ rfl
    simp only [decide_eq_true_eq, decide_eq_false_iff_not, Bool.not_eq_true', Bool.not_eq_false', beq_iff_eq, bne_iff_ne, beq_eq_false_iff_ne, bne_eq_false_iff_eq, ne_eq, Decidable.not_not, Bool.not_eq_true, Bool.not_eq_false, ge_iff_le, gt_iff_lt, Bool.not_not, Bool.and_eq_true, Bool.or_eq_true, Bool.and_eq_false_iff, Bool.or_eq_false_iff, Int.not_lt, Int.not_le, Nat.not_lt, Nat.not_le, cond_true, cond_false] at *
    first
     | (exfalso; omega)
     | (simp only [packA, clampR]; repeat (first | rw [if_pos (by omega)] | rw [if_neg (by omega)]))

theorem partR_ok (a : Int) (b : Int) (d : Int) : Ok Try.prog 29 [I a, I b, I d] [] (I (partR a b d)) [] [] := by
 refine ok_of_sem Try.func29 rfl ?_
 show Walks Try.prog _ _ ⟨[(0, I a), (1, I b), (2, I d)], [], 0, [], 16, 0⟩
 refine sem_seq ?_
 refine sem_region rfl ?_
 refine step_r rfl rfl trivial ?_
 refine step_nil ?_
 refine seqK_n ?_
 refine sem_seq ?_
 refine sem_seq ?_
 refine sem_region rfl ?_
 refine step_r rfl rfl trivial ?_
 refine step_bin rfl rfl rfl rfl rfl trivial ?_
 refine step_nil ?_
 refine seqK_n ?_
 refine sem_cond rfl (fun h2 => ?_) (fun h2 => ?_)
 ·have g2 := h2
  try simp at g2
  refine sem_seq ?_
  refine sem_region rfl ?_
  refine step_r rfl rfl trivial ?_
  refine step_nil ?_
  refine seqK_n ?_
  refine sem_ret ?_
  refine seqK_r ?_
  refine answersR (vs := [_]) rfl ⟨trivial, trivial⟩ ?_ rfl
  simp only [decide_eq_true_eq, decide_eq_false_iff_not, Bool.not_eq_true', Bool.not_eq_false', beq_iff_eq, bne_iff_ne, beq_eq_false_iff_ne, bne_eq_false_iff_eq, ne_eq, Decidable.not_not, Bool.not_eq_true, Bool.not_eq_false, ge_iff_le, gt_iff_lt, Bool.not_not, Bool.and_eq_true, Bool.or_eq_true, Bool.and_eq_false_iff, Bool.or_eq_false_iff, Int.not_lt, Int.not_le, Nat.not_lt, Nat.not_le, cond_true, cond_false] at *
  first
   | (exfalso; omega)
   | (simp only [packA, partR, sideR]; repeat (first | rw [if_pos (by omega)] | rw [if_neg (by omega)]))
 ·have g2 := h2
  try simp at g2
  refine sem_skip ?_
  refine seqK_n ?_
  refine sem_seq ?_
  refine sem_region rfl ?_
  refine step_r rfl rfl trivial ?_
  refine step_call rfl rfl rfl rfl (clampR_ok a (-2147483647) 2147483647) rfl rfl rfl ?_
  refine step_r rfl rfl trivial ?_
  refine step_call rfl rfl rfl rfl (clampR_ok b (-2147483647) 2147483647) rfl rfl rfl ?_
  refine step_bin rfl rfl rfl rfl rfl trivial ?_
  refine step_r rfl rfl trivial ?_
  refine step_bin rfl rfl rfl rfl rfl (by simp only [decide_eq_false_iff_not] at *; omega) ?_
  refine step_r rfl rfl trivial ?_
  refine step_nil ?_
  refine seqK_n ?_
  refine sem_ret ?_
  refine answersR (vs := [_]) rfl ⟨trivial, trivial⟩ ?_ rfl
  simp only [decide_eq_true_eq, decide_eq_false_iff_not, Bool.not_eq_true', Bool.not_eq_false', beq_iff_eq, bne_iff_ne, beq_eq_false_iff_ne, bne_eq_false_iff_eq, ne_eq, Decidable.not_not, Bool.not_eq_true, Bool.not_eq_false, ge_iff_le, gt_iff_lt, Bool.not_not, Bool.and_eq_true, Bool.or_eq_true, Bool.and_eq_false_iff, Bool.or_eq_false_iff, Int.not_lt, Int.not_le, Nat.not_lt, Nat.not_le, cond_true, cond_false] at *
  first
   | (exfalso; omega)
   | (simp only [packA, partR, sideR]; repeat (first | rw [if_pos (by omega)] | rw [if_neg (by omega)]))
end Go.Proofs.Ytkncpoaddamlbaa

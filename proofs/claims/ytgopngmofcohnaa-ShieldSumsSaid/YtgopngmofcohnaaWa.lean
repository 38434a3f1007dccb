import Derived.Test.YtgopngmofcohnaaVmR
import Derived.Test.YtgopngmofcohnaaProg
namespace Go.Proofs.Ytgopngmofcohnaa
open Go Go.RowKit Go.Proofs.YtgopngmofcohnaaVm
attribute [local irreducible] opsWp AnswersE
set_option maxHeartbeats 400000
set_option maxRecDepth 100000
set_option linter.all false

def addM (a b : Int) : Int := if a > 0 ∧ b > 0 ∧ IntKind.i64.wrap (a + b) ≤ 0 then 9223372036854775807 else if a < 0 ∧ b < 0 ∧ IntKind.i64.wrap (a + b) ≥ 0 then -9223372036854775808 else IntKind.i64.wrap (a + b)
def clampM (a b d : Int) : Int := max (min a (max b d)) b
def sideM (a : Int) : Int := clampM a (-2147483647) 2147483647
def partM (a b d : Int) : Int := if d < 1 then 0 else IntKind.i64.wrap ((IntKind.i64.wrap (sideM a * sideM b)).tdiv d)


theorem clamp_ok (a b d : Int) : Ok Try.prog 44 [I a, I b, I d] [] (I (clampM a b d)) [] [] := by
  refine ok_of_sem Try.func44 rfl ?_
  show Walks Try.prog _ _ ⟨[(0, I a), (1, I b), (2, I d)], [], 0, [], 14, 0⟩
  refine sem_seq ?_
  refine sem_region rfl ?_
  refine step_r rfl rfl trivial ?_
  refine step_nil ?_
  refine seqK_n ?_
  refine sem_seq ?_
  refine sem_region rfl ?_
  refine step_r rfl rfl trivial ?_
  refine step_r rfl rfl trivial ?_
  refine step_r rfl rfl trivial ?_
  refine step_max rfl rfl rfl ?_
  refine step_min rfl rfl rfl ?_
  refine step_r rfl rfl trivial ?_
  refine step_max rfl rfl rfl ?_
  refine step_r rfl rfl trivial ?_
  refine step_nil ?_
  refine seqK_n ?_
  refine sem_ret ?_
  exact answersR rfl (by simp) (rfl) rfl

theorem add_ok (a b : Int) : Ok Try.prog 34 [I a, I b] [] (I (addM a b)) [] [] := by
  refine ok_of_sem Try.func34 rfl ?_
  show Walks Try.prog _ _ ⟨[(0, I a), (1, I b)], [], 0, [], 32, 0⟩
  refine sem_seq ?_
  refine sem_region rfl ?_
  refine step_r rfl rfl trivial ?_
  refine step_nil ?_
  refine seqK_n ?_
  refine sem_seq ?_
  refine sem_region rfl ?_
  refine step_r rfl rfl trivial ?_
  refine step_r rfl rfl trivial ?_
  refine step_bin rfl rfl rfl rfl rfl trivial ?_
  refine step_r rfl rfl trivial ?_
  refine step_nil ?_
  refine seqK_n ?_
  refine sem_seq ?_
  refine sem_block ?_
  refine sem_seq ?_
  refine sem_region rfl ?_
  refine step_r rfl rfl trivial ?_
  refine step_bin rfl rfl rfl rfl rfl trivial ?_
  refine step_r rfl rfl trivial ?_
  refine step_gs rfl (fun h5 => ?_) (fun h5 => ?_)
  · skip
    refine step_g1 rfl h5 ?_
    refine step_r rfl rfl trivial ?_
    refine step_g1 rfl h5 ?_
    refine step_bin rfl rfl rfl rfl rfl trivial ?_
    refine step_pickT rfl h5 rfl rfl ?_
    refine step_r rfl rfl trivial ?_
    refine step_gs rfl (fun h7 => ?_) (fun h7 => ?_)
    · skip
      refine step_g1 rfl h7 ?_
      refine step_r rfl rfl trivial ?_
      refine step_g1 rfl h7 ?_
      refine step_bin rfl rfl rfl rfl rfl trivial ?_
      refine step_pickT rfl h7 rfl rfl ?_
      refine step_r rfl rfl trivial ?_
      refine step_nil ?_
      refine seqK_n ?_
      refine sem_cond rfl (fun h9 => ?_) (fun h9 => ?_)
      · skip
        refine sem_seq ?_
        refine sem_region rfl ?_
        refine step_r rfl rfl trivial ?_
        refine step_nil ?_
        refine seqK_n ?_
        refine sem_ret ?_
        refine blkK_r ?_
        refine seqK_r ?_
        refine answersR rfl (by simp) ?_ rfl
        simp only [decide_eq_true_eq, decide_eq_false_iff_not, Bool.not_eq_true', Bool.not_eq_false'] at *
        first
          | (exfalso; omega)
          | (simp only [packA, addM]; repeat (first | rw [if_pos (by omega)] | rw [if_neg (by omega)]))
      · skip
        refine sem_seq ?_
        refine sem_region rfl ?_
        refine step_r rfl rfl trivial ?_
        refine step_bin rfl rfl rfl rfl rfl trivial ?_
        refine step_r rfl rfl trivial ?_
        refine step_gs rfl (fun h11 => ?_) (fun h11 => ?_)
        · skip
          refine step_g1 rfl h11 ?_
          refine step_r rfl rfl trivial ?_
          refine step_g1 rfl h11 ?_
          refine step_bin rfl rfl rfl rfl rfl trivial ?_
          refine step_pickT rfl h11 rfl rfl ?_
          refine step_r rfl rfl trivial ?_
          refine step_gs rfl (fun h13 => ?_) (fun h13 => ?_)
          · skip
            refine step_g1 rfl h13 ?_
            refine step_r rfl rfl trivial ?_
            refine step_g1 rfl h13 ?_
            refine step_bin rfl rfl rfl rfl rfl trivial ?_
            refine step_pickT rfl h13 rfl rfl ?_
            refine step_r rfl rfl trivial ?_
            refine step_nil ?_
            refine seqK_n ?_
            refine sem_cond rfl (fun h15 => ?_) (fun h15 => ?_)
            · skip
              refine sem_seq ?_
              refine sem_region rfl ?_
              refine step_r rfl rfl trivial ?_
              refine step_nil ?_
              refine seqK_n ?_
              refine sem_ret ?_
              refine blkK_r ?_
              refine seqK_r ?_
              refine answersR rfl (by simp) ?_ rfl
              simp only [decide_eq_true_eq, decide_eq_false_iff_not, Bool.not_eq_true', Bool.not_eq_false'] at *
              first
                | (exfalso; omega)
                | (simp only [packA, addM]; repeat (first | rw [if_pos (by omega)] | rw [if_neg (by omega)]))
            · skip
              refine sem_skip ?_
              refine blkK_n ?_
              refine seqK_n ?_
              refine sem_seq ?_
              refine sem_region rfl ?_
              refine step_r rfl rfl trivial ?_
              refine step_r rfl rfl trivial ?_
              refine step_nil ?_
              refine seqK_n ?_
              refine sem_ret ?_
              refine answersR rfl (by simp) ?_ rfl
              simp only [decide_eq_true_eq, decide_eq_false_iff_not, Bool.not_eq_true', Bool.not_eq_false'] at *
              first
                | (exfalso; omega)
                | (simp only [packA, addM]; repeat (first | rw [if_pos (by omega)] | rw [if_neg (by omega)]))
          · skip
            refine step_g0 rfl h13 rfl ?_
            refine step_g0 rfl h13 rfl ?_
            refine step_pickF rfl h13 rfl rfl ?_
            refine step_r rfl rfl trivial ?_
            refine step_nil ?_
            refine seqK_n ?_
            refine sem_condF rfl ?_
            refine sem_skip ?_
            refine blkK_n ?_
            refine seqK_n ?_
            refine sem_seq ?_
            refine sem_region rfl ?_
            refine step_r rfl rfl trivial ?_
            refine step_r rfl rfl trivial ?_
            refine step_nil ?_
            refine seqK_n ?_
            refine sem_ret ?_
            refine answersR rfl (by simp) ?_ rfl
            simp only [decide_eq_true_eq, decide_eq_false_iff_not, Bool.not_eq_true', Bool.not_eq_false'] at *
            first
              | (exfalso; omega)
              | (simp only [packA, addM]; repeat (first | rw [if_pos (by omega)] | rw [if_neg (by omega)]))
        · skip
          refine step_g0 rfl h11 rfl ?_
          refine step_g0 rfl h11 rfl ?_
          refine step_pickF rfl h11 rfl rfl ?_
          refine step_r rfl rfl trivial ?_
          refine step_gf rfl rfl ?_
          refine step_gf rfl rfl ?_
          refine step_r rfl rfl trivial ?_
          refine step_r rfl rfl trivial ?_
          refine step_nil ?_
          refine seqK_n ?_
          refine sem_condF rfl ?_
          refine sem_skip ?_
          refine blkK_n ?_
          refine seqK_n ?_
          refine sem_seq ?_
          refine sem_region rfl ?_
          refine step_r rfl rfl trivial ?_
          refine step_r rfl rfl trivial ?_
          refine step_nil ?_
          refine seqK_n ?_
          refine sem_ret ?_
          refine answersR rfl (by simp) ?_ rfl
          simp only [decide_eq_true_eq, decide_eq_false_iff_not, Bool.not_eq_true', Bool.not_eq_false'] at *
          first
            | (exfalso; omega)
            | (simp only [packA, addM]; repeat (first | rw [if_pos (by omega)] | rw [if_neg (by omega)]))
    · skip
      refine step_g0 rfl h7 rfl ?_
      refine step_g0 rfl h7 rfl ?_
      refine step_pickF rfl h7 rfl rfl ?_
      refine step_r rfl rfl trivial ?_
      refine step_nil ?_
      refine seqK_n ?_
      refine sem_condF rfl ?_
      refine sem_seq ?_
      refine sem_region rfl ?_
      refine step_r rfl rfl trivial ?_
      refine step_bin rfl rfl rfl rfl rfl trivial ?_
      refine step_r rfl rfl trivial ?_
      refine step_gs rfl (fun h17 => ?_) (fun h17 => ?_)
      · skip
        refine step_g1 rfl h17 ?_
        refine step_r rfl rfl trivial ?_
        refine step_g1 rfl h17 ?_
        refine step_bin rfl rfl rfl rfl rfl trivial ?_
        refine step_pickT rfl h17 rfl rfl ?_
        refine step_r rfl rfl trivial ?_
        refine step_gs rfl (fun h19 => ?_) (fun h19 => ?_)
        · skip
          refine step_g1 rfl h19 ?_
          refine step_r rfl rfl trivial ?_
          refine step_g1 rfl h19 ?_
          refine step_bin rfl rfl rfl rfl rfl trivial ?_
          refine step_pickT rfl h19 rfl rfl ?_
          refine step_r rfl rfl trivial ?_
          refine step_nil ?_
          refine seqK_n ?_
          refine sem_cond rfl (fun h21 => ?_) (fun h21 => ?_)
          · skip
            refine sem_seq ?_
            refine sem_region rfl ?_
            refine step_r rfl rfl trivial ?_
            refine step_nil ?_
            refine seqK_n ?_
            refine sem_ret ?_
            refine blkK_r ?_
            refine seqK_r ?_
            refine answersR rfl (by simp) ?_ rfl
            simp only [decide_eq_true_eq, decide_eq_false_iff_not, Bool.not_eq_true', Bool.not_eq_false'] at *
            first
              | (exfalso; omega)
              | (simp only [packA, addM]; repeat (first | rw [if_pos (by omega)] | rw [if_neg (by omega)]))
          · skip
            refine sem_skip ?_
            refine blkK_n ?_
            refine seqK_n ?_
            refine sem_seq ?_
            refine sem_region rfl ?_
            refine step_r rfl rfl trivial ?_
            refine step_r rfl rfl trivial ?_
            refine step_nil ?_
            refine seqK_n ?_
            refine sem_ret ?_
            refine answersR rfl (by simp) ?_ rfl
            simp only [decide_eq_true_eq, decide_eq_false_iff_not, Bool.not_eq_true', Bool.not_eq_false'] at *
            first
              | (exfalso; omega)
              | (simp only [packA, addM]; repeat (first | rw [if_pos (by omega)] | rw [if_neg (by omega)]))
        · skip
          refine step_g0 rfl h19 rfl ?_
          refine step_g0 rfl h19 rfl ?_
          refine step_pickF rfl h19 rfl rfl ?_
          refine step_r rfl rfl trivial ?_
          refine step_nil ?_
          refine seqK_n ?_
          refine sem_condF rfl ?_
          refine sem_skip ?_
          refine blkK_n ?_
          refine seqK_n ?_
          refine sem_seq ?_
          refine sem_region rfl ?_
          refine step_r rfl rfl trivial ?_
          refine step_r rfl rfl trivial ?_
          refine step_nil ?_
          refine seqK_n ?_
          refine sem_ret ?_
          refine answersR rfl (by simp) ?_ rfl
          simp only [decide_eq_true_eq, decide_eq_false_iff_not, Bool.not_eq_true', Bool.not_eq_false'] at *
          first
            | (exfalso; omega)
            | (simp only [packA, addM]; repeat (first | rw [if_pos (by omega)] | rw [if_neg (by omega)]))
      · skip
        refine step_g0 rfl h17 rfl ?_
        refine step_g0 rfl h17 rfl ?_
        refine step_pickF rfl h17 rfl rfl ?_
        refine step_r rfl rfl trivial ?_
        refine step_gf rfl rfl ?_
        refine step_gf rfl rfl ?_
        refine step_r rfl rfl trivial ?_
        refine step_r rfl rfl trivial ?_
        refine step_nil ?_
        refine seqK_n ?_
        refine sem_condF rfl ?_
        refine sem_skip ?_
        refine blkK_n ?_
        refine seqK_n ?_
        refine sem_seq ?_
        refine sem_region rfl ?_
        refine step_r rfl rfl trivial ?_
        refine step_r rfl rfl trivial ?_
        refine step_nil ?_
        refine seqK_n ?_
        refine sem_ret ?_
        refine answersR rfl (by simp) ?_ rfl
        simp only [decide_eq_true_eq, decide_eq_false_iff_not, Bool.not_eq_true', Bool.not_eq_false'] at *
        first
          | (exfalso; omega)
          | (simp only [packA, addM]; repeat (first | rw [if_pos (by omega)] | rw [if_neg (by omega)]))
  · skip
    refine step_g0 rfl h5 rfl ?_
    refine step_g0 rfl h5 rfl ?_
    refine step_pickF rfl h5 rfl rfl ?_
    refine step_r rfl rfl trivial ?_
    refine step_gf rfl rfl ?_
    refine step_gf rfl rfl ?_
    refine step_r rfl rfl trivial ?_
    refine step_r rfl rfl trivial ?_
    refine step_nil ?_
    refine seqK_n ?_
    refine sem_condF rfl ?_
    refine sem_seq ?_
    refine sem_region rfl ?_
    refine step_r rfl rfl trivial ?_
    refine step_bin rfl rfl rfl rfl rfl trivial ?_
    refine step_r rfl rfl trivial ?_
    refine step_gs rfl (fun h23 => ?_) (fun h23 => ?_)
    · skip
      refine step_g1 rfl h23 ?_
      refine step_r rfl rfl trivial ?_
      refine step_g1 rfl h23 ?_
      refine step_bin rfl rfl rfl rfl rfl trivial ?_
      refine step_pickT rfl h23 rfl rfl ?_
      refine step_r rfl rfl trivial ?_
      refine step_gs rfl (fun h25 => ?_) (fun h25 => ?_)
      · skip
        refine step_g1 rfl h25 ?_
        refine step_r rfl rfl trivial ?_
        refine step_g1 rfl h25 ?_
        refine step_bin rfl rfl rfl rfl rfl trivial ?_
        refine step_pickT rfl h25 rfl rfl ?_
        refine step_r rfl rfl trivial ?_
        refine step_nil ?_
        refine seqK_n ?_
        refine sem_cond rfl (fun h27 => ?_) (fun h27 => ?_)
        · skip
          refine sem_seq ?_
          refine sem_region rfl ?_
          refine step_r rfl rfl trivial ?_
          refine step_nil ?_
          refine seqK_n ?_
          refine sem_ret ?_
          refine blkK_r ?_
          refine seqK_r ?_
          refine answersR rfl (by simp) ?_ rfl
          simp only [decide_eq_true_eq, decide_eq_false_iff_not, Bool.not_eq_true', Bool.not_eq_false'] at *
          first
            | (exfalso; omega)
            | (simp only [packA, addM]; repeat (first | rw [if_pos (by omega)] | rw [if_neg (by omega)]))
        · skip
          refine sem_skip ?_
          refine blkK_n ?_
          refine seqK_n ?_
          refine sem_seq ?_
          refine sem_region rfl ?_
          refine step_r rfl rfl trivial ?_
          refine step_r rfl rfl trivial ?_
          refine step_nil ?_
          refine seqK_n ?_
          refine sem_ret ?_
          refine answersR rfl (by simp) ?_ rfl
          simp only [decide_eq_true_eq, decide_eq_false_iff_not, Bool.not_eq_true', Bool.not_eq_false'] at *
          first
            | (exfalso; omega)
            | (simp only [packA, addM]; repeat (first | rw [if_pos (by omega)] | rw [if_neg (by omega)]))
      · skip
        refine step_g0 rfl h25 rfl ?_
        refine step_g0 rfl h25 rfl ?_
        refine step_pickF rfl h25 rfl rfl ?_
        refine step_r rfl rfl trivial ?_
        refine step_nil ?_
        refine seqK_n ?_
        refine sem_condF rfl ?_
        refine sem_skip ?_
        refine blkK_n ?_
        refine seqK_n ?_
        refine sem_seq ?_
        refine sem_region rfl ?_
        refine step_r rfl rfl trivial ?_
        refine step_r rfl rfl trivial ?_
        refine step_nil ?_
        refine seqK_n ?_
        refine sem_ret ?_
        refine answersR rfl (by simp) ?_ rfl
        simp only [decide_eq_true_eq, decide_eq_false_iff_not, Bool.not_eq_true', Bool.not_eq_false'] at *
        first
          | (exfalso; omega)
          | (simp only [packA, addM]; repeat (first | rw [if_pos (by omega)] | rw [if_neg (by omega)]))
    · skip
      refine step_g0 rfl h23 rfl ?_
      refine step_g0 rfl h23 rfl ?_
      refine step_pickF rfl h23 rfl rfl ?_
      refine step_r rfl rfl trivial ?_
      refine step_gf rfl rfl ?_
      refine step_gf rfl rfl ?_
      refine step_r rfl rfl trivial ?_
      refine step_r rfl rfl trivial ?_
      refine step_nil ?_
      refine seqK_n ?_
      refine sem_condF rfl ?_
      refine sem_skip ?_
      refine blkK_n ?_
      refine seqK_n ?_
      refine sem_seq ?_
      refine sem_region rfl ?_
      refine step_r rfl rfl trivial ?_
      refine step_r rfl rfl trivial ?_
      refine step_nil ?_
      refine seqK_n ?_
      refine sem_ret ?_
      refine answersR rfl (by simp) ?_ rfl
      simp only [decide_eq_true_eq, decide_eq_false_iff_not, Bool.not_eq_true', Bool.not_eq_false'] at *
      first
        | (exfalso; omega)
        | (simp only [packA, addM]; repeat (first | rw [if_pos (by omega)] | rw [if_neg (by omega)]))

theorem side_ok (a : Int) : Ok Try.prog 57 [I a] [] (I (sideM a)) [] [] := by
  refine ok_of_sem Try.func57 rfl ?_
  show Walks Try.prog _ _ ⟨[(0, I a)], [], 0, [], 5, 0⟩
  refine sem_seq ?_
  refine sem_region rfl ?_
  refine step_r rfl rfl trivial ?_
  refine step_nil ?_
  refine seqK_n ?_
  refine sem_seq ?_
  refine sem_region rfl ?_
  refine step_r rfl rfl trivial ?_
  refine step_call rfl rfl rfl rfl (clamp_ok _ _ _) rfl rfl rfl ?_
  refine step_r rfl rfl trivial ?_
  refine step_nil ?_
  refine seqK_n ?_
  refine sem_ret ?_
  exact answersR rfl (by simp) (rfl) rfl

theorem part_ok (a b d : Int) : Ok Try.prog 46 [I a, I b, I d] [] (I (partM a b d)) [] [] := by
  refine ok_of_sem Try.func46 rfl ?_
  show Walks Try.prog _ _ ⟨[(0, I a), (1, I b), (2, I d)], [], 0, [], 19, 0⟩
  refine sem_seq ?_
  refine sem_region rfl ?_
  refine step_r rfl rfl trivial ?_
  refine step_nil ?_
  refine seqK_n ?_
  refine sem_seq ?_
  refine sem_seq ?_
  refine sem_region rfl ?_
  refine step_r rfl rfl trivial ?_
  refine step_bin rfl rfl rfl rfl rfl trivial ?_
  refine step_nil ?_
  refine seqK_n ?_
  refine sem_cond rfl (fun h2 => ?_) (fun h2 => ?_)
  · skip
    refine sem_seq ?_
    refine sem_region rfl ?_
    refine step_r rfl rfl trivial ?_
    refine step_nil ?_
    refine seqK_n ?_
    refine sem_ret ?_
    refine seqK_r ?_
    refine answersR rfl (by simp) ?_ rfl
    simp only [decide_eq_true_eq, decide_eq_false_iff_not, Bool.not_eq_true', Bool.not_eq_false'] at *
    first
      | (exfalso; omega)
      | (simp only [packA, partM]; repeat (first | rw [if_pos (by omega)] | rw [if_neg (by omega)]))
  · skip
    refine sem_skip ?_
    refine seqK_n ?_
    refine sem_seq ?_
    refine sem_region rfl ?_
    refine step_r rfl rfl trivial ?_
    refine step_nil ?_
    refine seqK_n ?_
    refine sem_seq ?_
    refine sem_region rfl ?_
    refine step_r rfl rfl trivial ?_
    refine step_r rfl rfl trivial ?_
    refine step_call rfl rfl rfl rfl (side_ok _) rfl rfl rfl ?_
    refine step_r rfl rfl trivial ?_
    refine step_r rfl rfl trivial ?_
    refine step_call rfl rfl rfl rfl (side_ok _) rfl rfl rfl ?_
    refine step_bin rfl rfl rfl rfl rfl trivial ?_
    refine step_r rfl rfl trivial ?_
    refine step_bin rfl rfl rfl rfl rfl (by simp only [decide_eq_false_iff_not] at *; omega) ?_
    refine step_r rfl rfl trivial ?_
    refine step_nil ?_
    refine seqK_n ?_
    refine sem_ret ?_
    refine answersR rfl (by simp) ?_ rfl
    simp only [decide_eq_true_eq, decide_eq_false_iff_not, Bool.not_eq_true', Bool.not_eq_false'] at *
    first
      | (exfalso; omega)
      | (simp only [packA, partM]; repeat (first | rw [if_pos (by omega)] | rw [if_neg (by omega)]))

structure Sh where
  aura : Int
  left : Int
  deriving DecidableEq
def encS1 (x : Sh) : List PV := [i64 x.aura, i64 x.left]
theorem encS_len (x : Sh) : (encS1 x).length = 2 := rfl
abbrev encS (l : List Sh) : List PV := l.flatMap encS1
abbrev sS (l : List Sh) (full : Bool) : AV := .pv (.slc l.length full (encS l))
abbrev sI (l : List Int) (full : Bool) : AV := .pv (.slc l.length full (encI l))
def leftM (l : List Sh) : Int := l.foldl (fun n x => addM n (max x.left 0)) 0
theorem leftM_snoc (l : List Sh) (x : Sh) : leftM (l ++ [x]) = addM (leftM l) (max x.left 0) := by simp [leftM]
theorem take_snoc {α : Type} {l : List α} {k : Nat} {x : α} (h : l[k]? = some x) : l.take (k + 1) = l.take k ++ [x] := by
  rw [List.take_add_one, h]; rfl


theorem left_ok (l : List Sh) (full : Bool) (hl : l.length ≤ 4611686018427387904) : Ok Try.prog 15 [sS l full] [] (I (leftM l)) [] [] := by
  refine ok_of_sem Try.func15 rfl ?_
  show Walks Try.prog _ _ ⟨[(0, sS l full)], [], 0, [], 19, 0⟩
  refine sem_seq ?_
  refine sem_region rfl ?_
  refine step_r rfl rfl trivial ?_
  refine step_nil ?_
  refine seqK_n ?_
  refine sem_seq ?_
  refine sem_region rfl ?_
  refine step_r rfl rfl trivial ?_
  refine step_nil ?_
  refine seqK_n ?_
  refine sem_seq ?_
  refine sem_seq ?_
  refine sem_region rfl ?_
  refine step_r rfl rfl trivial ?_
  refine step_r rfl rfl trivial ?_
  refine step_r rfl rfl trivial ?_
  refine step_nil ?_
  refine seqK_n ?_
  refine sem_block ?_
  refine sem_loop_of (fun k : Nat => (⟨[(6, sS l full), (7, I l.length), (8, I k), (3, I (leftM (l.take k)))], [], 0, [], 19, 0⟩ : St)) (fun k : Nat => k ≤ l.length) (fun k : Nat => l.length - k) 0 (Nat.zero_le _) (less_of rfl ⟨⟨rfl, rfl⟩, ⟨rfl, rfl⟩, ⟨rfl, rfl⟩, ⟨rfl, rfl⟩, trivial⟩ trivial (fun _ _ => .inr (Nat.zero_le _))) (fun k hI => ?_)
  show Walks Try.prog _ _ (⟨[(6, sS l full), (7, I l.length), (8, I k), (3, I (leftM (l.take k)))], [], 0, [], 19, 0⟩ : St)
  refine sem_seq ?_
  refine sem_region rfl ?_
  refine step_bin rfl rfl rfl rfl rfl trivial ?_
  refine step_nil ?_
  refine seqK_n ?_
  refine sem_seq ?_
  refine sem_cond rfl (fun h1 => ?_) (fun h1 => ?_)
  · have hk : k < l.length := by simpa using h1
    obtain ⟨x, hx⟩ : ∃ x, l[k]? = some x := ⟨_, List.getElem?_eq_getElem hk⟩
    refine sem_skip ?_
    refine seqK_n ?_
    refine sem_seq ?_
    refine sem_block ?_
    refine sem_seq ?_
    refine sem_region rfl ?_
    refine step_idxS (k := k) rfl rfl rfl rfl hk (flat_ne encS_len (by decide) hk) rfl ?_
    refine step_load_row rfl rfl rfl (flat_lt encS_len hk) (flat_take encS_len hx) rfl ?_
    refine step_n (o := .box [_, _]) (nx' := 1) rfl rfl rfl trivial ?_
    refine step_store (H' := [(0, .box [_, _])]) rfl rfl rfl rfl rfl rfl (Nat.le_of_ble_eq_true rfl) (.inl rfl) rfl ?_
    refine step_nil ?_
    refine seqK_n ?_
    refine sem_region rfl ?_
    refine step_r rfl rfl trivial ?_
    refine step_r rfl rfl (by decide) ?_
    refine step_r rfl rfl trivial ?_
    refine step_max rfl rfl rfl ?_
    refine step_call rfl rfl rfl rfl (add_ok _ _) rfl rfl rfl ?_
    refine step_r rfl rfl trivial ?_
    refine step_nil ?_
    refine blkK_n ?_
    refine seqK_n ?_
    refine sem_region rfl ?_
    refine step_bin rfl rfl rfl rfl rfl trivial ?_
    refine step_r rfl rfl trivial ?_
    refine step_nil ?_
    exact lup_again (k+1) (hk) (by omega) (less_of rfl ⟨⟨rfl, rfl⟩, ⟨rfl, rfl⟩, ⟨congrArg (fun n => some (I n)) (wrap_nat hk (by omega)), rfl⟩, ⟨congrArg (fun n => some (I n)) (by rw [take_snoc hx, leftM_snoc]), rfl⟩, trivial⟩ trivial (fun _ _ => .inr (Nat.zero_le _)))
  · have hk : k = l.length := by have := of_decide_eq_false h1; omega
    refine sem_exit ?_
    refine seqK_e ?_
    refine lupK_e ?_
    refine blkK_t rfl ?_
    refine seqK_n ?_
    refine sem_seq ?_
    refine sem_region rfl ?_
    refine step_r rfl rfl trivial ?_
    refine step_r rfl rfl trivial ?_
    refine step_nil ?_
    refine seqK_n ?_
    refine sem_ret ?_
    exact answersR rfl (by simp) (by rw [hk, List.take_length]; rfl) rfl

def addR (a b : Int) : Int := if a > 0 ∧ b > IntKind.i64.wrap (9223372036854775807 - a) then 9223372036854775807 else if a < 0 ∧ b < IntKind.i64.wrap (-9223372036854775808 - a) then -9223372036854775808 else IntKind.i64.wrap (a + b)
def clampR (a b d : Int) : Int := if b > d ∨ a < b then b else if a > d then d else a
def sideR (a : Int) : Int := clampR a (-2147483647) 2147483647
def partR (a b d : Int) : Int := if d < 1 then 0 else IntKind.i64.wrap ((IntKind.i64.wrap (sideR a * sideR b)).tdiv d)
def moreM (n p : Int) : Int := max (partM n (addM 100 p) 100) 0
def moreR (n p : Int) : Int := max (partR n (addR 100 p) 100) 0
def allM (n : Int) (l : List Int) : Int := l.foldl moreM n
def allR (n : Int) (l : List Int) : Int := l.foldl moreR n
theorem allM_snoc (n : Int) (l : List Int) (x : Int) : allM n (l ++ [x]) = moreM (allM n l) x := by simp [allM]
theorem allR_snoc (n : Int) (l : List Int) (x : Int) : allR n (l ++ [x]) = moreR (allR n l) x := by simp [allR]
def leftR (l : List Sh) : Int := l.foldl (fun n x => addR n (max x.left 0)) 0
theorem leftR_snoc (l : List Sh) (x : Sh) : leftR (l ++ [x]) = addR (leftR l) (max x.left 0) := by simp [leftR]


theorem addR_ok (a b : Int) : Ok Try.prog 45 [I a, I b] [] (I (addR a b)) [] [] := by
  refine ok_of_sem Try.func45 rfl ?_
  show Walks Try.prog _ _ ⟨[(0, I a), (1, I b)], [], 0, [], 24, 0⟩
  refine sem_seq ?_
  refine sem_region rfl ?_
  refine step_r rfl rfl trivial ?_
  refine step_nil ?_
  refine seqK_n ?_
  refine sem_seq ?_
  refine sem_seq ?_
  refine sem_region rfl ?_
  refine step_r rfl rfl trivial ?_
  refine step_bin rfl rfl rfl rfl rfl trivial ?_
  refine step_r rfl rfl trivial ?_
  refine step_gs rfl (fun h3 => ?_) (fun h3 => ?_)
  · skip
    refine step_g1 rfl h3 ?_
    refine step_r rfl rfl trivial ?_
    refine step_g1 rfl h3 ?_
    refine step_r rfl rfl trivial ?_
    refine step_g1 rfl h3 ?_
    refine step_bin rfl rfl rfl rfl rfl trivial ?_
    refine step_g1 rfl h3 ?_
    refine step_bin rfl rfl rfl rfl rfl trivial ?_
    refine step_pickT rfl h3 rfl rfl ?_
    refine step_nil ?_
    refine seqK_n ?_
    refine sem_cond rfl (fun h6 => ?_) (fun h6 => ?_)
    · skip
      refine sem_seq ?_
      refine sem_region rfl ?_
      refine step_r rfl rfl trivial ?_
      refine step_nil ?_
      refine seqK_n ?_
      refine sem_ret ?_
      refine seqK_r ?_
      refine answersR rfl (by simp) ?_ rfl
      simp only [decide_eq_true_eq, decide_eq_false_iff_not, Bool.not_eq_true', Bool.not_eq_false'] at *
      first
        | (exfalso; omega)
        | (simp only [packA, addR]; repeat (first | rw [if_pos (by omega)] | rw [if_neg (by omega)]))
    · skip
      refine sem_skip ?_
      refine seqK_n ?_
      refine sem_seq ?_
      refine sem_seq ?_
      refine sem_region rfl ?_
      refine step_r rfl rfl trivial ?_
      refine step_bin rfl rfl rfl rfl rfl trivial ?_
      refine step_r rfl rfl trivial ?_
      refine step_gs rfl (fun h8 => ?_) (fun h8 => ?_)
      · skip
        refine step_g1 rfl h8 ?_
        refine step_r rfl rfl trivial ?_
        refine step_g1 rfl h8 ?_
        refine step_r rfl rfl trivial ?_
        refine step_g1 rfl h8 ?_
        refine step_bin rfl rfl rfl rfl rfl trivial ?_
        refine step_g1 rfl h8 ?_
        refine step_bin rfl rfl rfl rfl rfl trivial ?_
        refine step_pickT rfl h8 rfl rfl ?_
        refine step_nil ?_
        refine seqK_n ?_
        refine sem_cond rfl (fun h10 => ?_) (fun h10 => ?_)
        · skip
          refine sem_seq ?_
          refine sem_region rfl ?_
          refine step_r rfl rfl trivial ?_
          refine step_nil ?_
          refine seqK_n ?_
          refine sem_ret ?_
          refine seqK_r ?_
          refine answersR rfl (by simp) ?_ rfl
          simp only [decide_eq_true_eq, decide_eq_false_iff_not, Bool.not_eq_true', Bool.not_eq_false'] at *
          first
            | (exfalso; omega)
            | (simp only [packA, addR]; repeat (first | rw [if_pos (by omega)] | rw [if_neg (by omega)]))
        · skip
          refine sem_skip ?_
          refine seqK_n ?_
          refine sem_seq ?_
          refine sem_region rfl ?_
          refine step_r rfl rfl trivial ?_
          refine step_r rfl rfl trivial ?_
          refine step_bin rfl rfl rfl rfl rfl trivial ?_
          refine step_r rfl rfl trivial ?_
          refine step_nil ?_
          refine seqK_n ?_
          refine sem_ret ?_
          refine answersR rfl (by simp) ?_ rfl
          simp only [decide_eq_true_eq, decide_eq_false_iff_not, Bool.not_eq_true', Bool.not_eq_false'] at *
          first
            | (exfalso; omega)
            | (simp only [packA, addR]; repeat (first | rw [if_pos (by omega)] | rw [if_neg (by omega)]))
      · skip
        refine step_g0 rfl h8 rfl ?_
        refine step_g0 rfl h8 rfl ?_
        refine step_g0 rfl h8 rfl ?_
        refine step_g0 rfl h8 rfl ?_
        refine step_pickF rfl h8 rfl rfl ?_
        refine step_nil ?_
        refine seqK_n ?_
        refine sem_condF rfl ?_
        refine sem_skip ?_
        refine seqK_n ?_
        refine sem_seq ?_
        refine sem_region rfl ?_
        refine step_r rfl rfl trivial ?_
        refine step_r rfl rfl trivial ?_
        refine step_bin rfl rfl rfl rfl rfl trivial ?_
        refine step_r rfl rfl trivial ?_
        refine step_nil ?_
        refine seqK_n ?_
        refine sem_ret ?_
        refine answersR rfl (by simp) ?_ rfl
        simp only [decide_eq_true_eq, decide_eq_false_iff_not, Bool.not_eq_true', Bool.not_eq_false'] at *
        first
          | (exfalso; omega)
          | (simp only [packA, addR]; repeat (first | rw [if_pos (by omega)] | rw [if_neg (by omega)]))
  · skip
    refine step_g0 rfl h3 rfl ?_
    refine step_g0 rfl h3 rfl ?_
    refine step_g0 rfl h3 rfl ?_
    refine step_g0 rfl h3 rfl ?_
    refine step_pickF rfl h3 rfl rfl ?_
    refine step_nil ?_
    refine seqK_n ?_
    refine sem_condF rfl ?_
    refine sem_skip ?_
    refine seqK_n ?_
    refine sem_seq ?_
    refine sem_seq ?_
    refine sem_region rfl ?_
    refine step_r rfl rfl trivial ?_
    refine step_bin rfl rfl rfl rfl rfl trivial ?_
    refine step_r rfl rfl trivial ?_
    refine step_gs rfl (fun h14 => ?_) (fun h14 => ?_)
    · skip
      refine step_g1 rfl h14 ?_
      refine step_r rfl rfl trivial ?_
      refine step_g1 rfl h14 ?_
      refine step_r rfl rfl trivial ?_
      refine step_g1 rfl h14 ?_
      refine step_bin rfl rfl rfl rfl rfl trivial ?_
      refine step_g1 rfl h14 ?_
      refine step_bin rfl rfl rfl rfl rfl trivial ?_
      refine step_pickT rfl h14 rfl rfl ?_
      refine step_nil ?_
      refine seqK_n ?_
      refine sem_cond rfl (fun h17 => ?_) (fun h17 => ?_)
      · skip
        refine sem_seq ?_
        refine sem_region rfl ?_
        refine step_r rfl rfl trivial ?_
        refine step_nil ?_
        refine seqK_n ?_
        refine sem_ret ?_
        refine seqK_r ?_
        refine answersR rfl (by simp) ?_ rfl
        simp only [decide_eq_true_eq, decide_eq_false_iff_not, Bool.not_eq_true', Bool.not_eq_false'] at *
        first
          | (exfalso; omega)
          | (simp only [packA, addR]; repeat (first | rw [if_pos (by omega)] | rw [if_neg (by omega)]))
      · skip
        refine sem_skip ?_
        refine seqK_n ?_
        refine sem_seq ?_
        refine sem_region rfl ?_
        refine step_r rfl rfl trivial ?_
        refine step_r rfl rfl trivial ?_
        refine step_bin rfl rfl rfl rfl rfl trivial ?_
        refine step_r rfl rfl trivial ?_
        refine step_nil ?_
        refine seqK_n ?_
        refine sem_ret ?_
        refine answersR rfl (by simp) ?_ rfl
        simp only [decide_eq_true_eq, decide_eq_false_iff_not, Bool.not_eq_true', Bool.not_eq_false'] at *
        first
          | (exfalso; omega)
          | (simp only [packA, addR]; repeat (first | rw [if_pos (by omega)] | rw [if_neg (by omega)]))
    · skip
      refine step_g0 rfl h14 rfl ?_
      refine step_g0 rfl h14 rfl ?_
      refine step_g0 rfl h14 rfl ?_
      refine step_g0 rfl h14 rfl ?_
      refine step_pickF rfl h14 rfl rfl ?_
      refine step_nil ?_
      refine seqK_n ?_
      refine sem_condF rfl ?_
      refine sem_skip ?_
      refine seqK_n ?_
      refine sem_seq ?_
      refine sem_region rfl ?_
      refine step_r rfl rfl trivial ?_
      refine step_r rfl rfl trivial ?_
      refine step_bin rfl rfl rfl rfl rfl trivial ?_
      refine step_r rfl rfl trivial ?_
      refine step_nil ?_
      refine seqK_n ?_
      refine sem_ret ?_
      refine answersR rfl (by simp) ?_ rfl
      simp only [decide_eq_true_eq, decide_eq_false_iff_not, Bool.not_eq_true', Bool.not_eq_false'] at *
      first
        | (exfalso; omega)
        | (simp only [packA, addR]; repeat (first | rw [if_pos (by omega)] | rw [if_neg (by omega)]))

theorem clampR_ok (a b d : Int) : Ok Try.prog 58 [I a, I b, I d] [] (I (clampR a b d)) [] [] := by
  refine ok_of_sem Try.func58 rfl ?_
  show Walks Try.prog _ _ ⟨[(0, I a), (1, I b), (2, I d)], [], 0, [], 21, 0⟩
  refine sem_seq ?_
  refine sem_region rfl ?_
  refine step_r rfl rfl trivial ?_
  refine step_nil ?_
  refine seqK_n ?_
  refine sem_seq ?_
  refine sem_seq ?_
  refine sem_region rfl ?_
  refine step_r rfl rfl trivial ?_
  refine step_r rfl rfl trivial ?_
  refine step_bin rfl rfl rfl rfl rfl trivial ?_
  refine step_r rfl rfl trivial ?_
  refine step_gs rfl (fun h4 => ?_) (fun h4 => ?_)
  · skip
    refine step_g0 rfl h4 rfl ?_
    refine step_g0 rfl h4 rfl ?_
    refine step_g0 rfl h4 rfl ?_
    refine step_pickT rfl h4 rfl rfl ?_
    refine step_nil ?_
    refine seqK_n ?_
    refine sem_condT rfl ?_
    refine sem_seq ?_
    refine sem_region rfl ?_
    refine step_r rfl rfl trivial ?_
    refine step_r rfl rfl trivial ?_
    refine step_nil ?_
    refine seqK_n ?_
    refine sem_ret ?_
    refine seqK_r ?_
    refine answersR rfl (by simp) ?_ rfl
    simp only [decide_eq_true_eq, decide_eq_false_iff_not, Bool.not_eq_true', Bool.not_eq_false'] at *
    first
      | (exfalso; omega)
      | (simp only [packA, clampR]; repeat (first | rw [if_pos (by omega)] | rw [if_neg (by omega)]))
  · skip
    refine step_g1 rfl h4 ?_
    refine step_r rfl rfl trivial ?_
    refine step_g1 rfl h4 ?_
    refine step_r rfl rfl trivial ?_
    refine step_g1 rfl h4 ?_
    refine step_bin rfl rfl rfl rfl rfl trivial ?_
    refine step_pickF rfl h4 rfl rfl ?_
    refine step_nil ?_
    refine seqK_n ?_
    refine sem_cond rfl (fun h7 => ?_) (fun h7 => ?_)
    · skip
      refine sem_seq ?_
      refine sem_region rfl ?_
      refine step_r rfl rfl trivial ?_
      refine step_r rfl rfl trivial ?_
      refine step_nil ?_
      refine seqK_n ?_
      refine sem_ret ?_
      refine seqK_r ?_
      refine answersR rfl (by simp) ?_ rfl
      simp only [decide_eq_true_eq, decide_eq_false_iff_not, Bool.not_eq_true', Bool.not_eq_false'] at *
      first
        | (exfalso; omega)
        | (simp only [packA, clampR]; repeat (first | rw [if_pos (by omega)] | rw [if_neg (by omega)]))
    · skip
      refine sem_skip ?_
      refine seqK_n ?_
      refine sem_seq ?_
      refine sem_seq ?_
      refine sem_region rfl ?_
      refine step_r rfl rfl trivial ?_
      refine step_r rfl rfl trivial ?_
      refine step_bin rfl rfl rfl rfl rfl trivial ?_
      refine step_nil ?_
      refine seqK_n ?_
      refine sem_cond rfl (fun h8 => ?_) (fun h8 => ?_)
      · skip
        refine sem_seq ?_
        refine sem_region rfl ?_
        refine step_r rfl rfl trivial ?_
        refine step_r rfl rfl trivial ?_
        refine step_nil ?_
        refine seqK_n ?_
        refine sem_ret ?_
        refine seqK_r ?_
        refine answersR rfl (by simp) ?_ rfl
        simp only [decide_eq_true_eq, decide_eq_false_iff_not, Bool.not_eq_true', Bool.not_eq_false'] at *
        first
          | (exfalso; omega)
          | (simp only [packA, clampR]; repeat (first | rw [if_pos (by omega)] | rw [if_neg (by omega)]))
      · skip
        refine sem_skip ?_
        refine seqK_n ?_
        refine sem_seq ?_
        refine sem_region rfl ?_
        refine step_r rfl rfl trivial ?_
        refine step_r rfl rfl trivial ?_
        refine step_nil ?_
        refine seqK_n ?_
        refine sem_ret ?_
        refine answersR rfl (by simp) ?_ rfl
        simp only [decide_eq_true_eq, decide_eq_false_iff_not, Bool.not_eq_true', Bool.not_eq_false'] at *
        first
          | (exfalso; omega)
          | (simp only [packA, clampR]; repeat (first | rw [if_pos (by omega)] | rw [if_neg (by omega)]))

theorem partR_ok (a b d : Int) : Ok Try.prog 47 [I a, I b, I d] [] (I (partR a b d)) [] [] := by
  refine ok_of_sem Try.func47 rfl ?_
  show Walks Try.prog _ _ ⟨[(0, I a), (1, I b), (2, I d)], [], 0, [], 16, 0⟩
  refine sem_seq ?_
  refine sem_region rfl ?_
  refine step_r rfl rfl trivial ?_
  refine step_nil ?_
  refine seqK_n ?_
  refine sem_seq ?_
  refine sem_seq ?_
  refine sem_region rfl ?_
  refine step_r rfl rfl trivial ?_
  refine step_bin rfl rfl rfl rfl rfl trivial ?_
  refine step_nil ?_
  refine seqK_n ?_
  refine sem_cond rfl (fun h2 => ?_) (fun h2 => ?_)
  · skip
    refine sem_seq ?_
    refine sem_region rfl ?_
    refine step_r rfl rfl trivial ?_
    refine step_nil ?_
    refine seqK_n ?_
    refine sem_ret ?_
    refine seqK_r ?_
    refine answersR rfl (by simp) ?_ rfl
    simp only [decide_eq_true_eq, decide_eq_false_iff_not, Bool.not_eq_true', Bool.not_eq_false'] at *
    first
      | (exfalso; omega)
      | (simp only [packA, partR, sideR]; repeat (first | rw [if_pos (by omega)] | rw [if_neg (by omega)]))
  · skip
    refine sem_skip ?_
    refine seqK_n ?_
    refine sem_seq ?_
    refine sem_region rfl ?_
    refine step_r rfl rfl trivial ?_
    refine step_call rfl rfl rfl rfl (clampR_ok _ _ _) rfl rfl rfl ?_
    refine step_r rfl rfl trivial ?_
    refine step_call rfl rfl rfl rfl (clampR_ok _ _ _) rfl rfl rfl ?_
    refine step_bin rfl rfl rfl rfl rfl trivial ?_
    refine step_r rfl rfl trivial ?_
    refine step_bin rfl rfl rfl rfl rfl (by simp only [decide_eq_false_iff_not] at *; omega) ?_
    refine step_r rfl rfl trivial ?_
    refine step_nil ?_
    refine seqK_n ?_
    refine sem_ret ?_
    refine answersR rfl (by simp) ?_ rfl
    simp only [decide_eq_true_eq, decide_eq_false_iff_not, Bool.not_eq_true', Bool.not_eq_false'] at *
    first
      | (exfalso; omega)
      | (simp only [packA, partR, sideR]; repeat (first | rw [if_pos (by omega)] | rw [if_neg (by omega)]))

theorem more_ok (a b : Int) : Ok Try.prog 19 [I a, I b] [] (I (moreM a b)) [] [] := by
  refine ok_of_sem Try.func19 rfl ?_
  show Walks Try.prog _ _ ⟨[(0, I a), (1, I b)], [], 0, [], 10, 0⟩
  refine sem_seq ?_
  refine sem_region rfl ?_
  refine step_r rfl rfl trivial ?_
  refine step_nil ?_
  refine seqK_n ?_
  refine sem_seq ?_
  refine sem_region rfl ?_
  refine step_r rfl rfl trivial ?_
  refine step_r rfl rfl trivial ?_
  refine step_call rfl rfl rfl rfl (add_ok _ _) rfl rfl rfl ?_
  refine step_call rfl rfl rfl rfl (part_ok _ _ _) rfl rfl rfl ?_
  refine step_max rfl rfl rfl ?_
  refine step_r rfl rfl trivial ?_
  refine step_nil ?_
  refine seqK_n ?_
  refine sem_ret ?_
  exact answersR rfl (by simp) (rfl) rfl

theorem moreR_ok (a b : Int) : Ok Try.prog 20 [I a, I b] [] (I (moreR a b)) [] [] := by
  refine ok_of_sem Try.func20 rfl ?_
  show Walks Try.prog _ _ ⟨[(0, I a), (1, I b)], [], 0, [], 10, 0⟩
  refine sem_seq ?_
  refine sem_region rfl ?_
  refine step_r rfl rfl trivial ?_
  refine step_nil ?_
  refine seqK_n ?_
  refine sem_seq ?_
  refine sem_region rfl ?_
  refine step_r rfl rfl trivial ?_
  refine step_r rfl rfl trivial ?_
  refine step_call rfl rfl rfl rfl (addR_ok _ _) rfl rfl rfl ?_
  refine step_call rfl rfl rfl rfl (partR_ok _ _ _) rfl rfl rfl ?_
  refine step_max rfl rfl rfl ?_
  refine step_r rfl rfl trivial ?_
  refine step_nil ?_
  refine seqK_n ?_
  refine sem_ret ?_
  exact answersR rfl (by simp) (rfl) rfl

theorem leftR_ok (l : List Sh) (full : Bool) (hl : l.length ≤ 4611686018427387904) : Ok Try.prog 16 [sS l full] [] (I (leftR l)) [] [] := by
  refine ok_of_sem Try.func16 rfl ?_
  show Walks Try.prog _ _ ⟨[(0, sS l full)], [], 0, [], 20, 0⟩
  refine sem_seq ?_
  refine sem_region rfl ?_
  refine step_r rfl rfl trivial ?_
  refine step_nil ?_
  refine seqK_n ?_
  refine sem_seq ?_
  refine sem_region rfl ?_
  refine step_r rfl rfl trivial ?_
  refine step_nil ?_
  refine seqK_n ?_
  refine sem_seq ?_
  refine sem_seq ?_
  refine sem_region rfl ?_
  refine step_r rfl rfl trivial ?_
  refine step_nil ?_
  refine seqK_n ?_
  refine sem_block ?_
  refine sem_loop_of (fun k : Nat => (⟨[(0, sS l full), (4, I k), (3, I (leftR (l.take k)))], [], 0, [], 20, 0⟩ : St)) (fun k : Nat => k ≤ l.length) (fun k : Nat => l.length - k) 0 (Nat.zero_le _) (less_of rfl ⟨⟨rfl, rfl⟩, ⟨rfl, rfl⟩, ⟨rfl, rfl⟩, trivial⟩ trivial (fun _ _ => .inr (Nat.zero_le _))) (fun k hI => ?_)
  show Walks Try.prog _ _ (⟨[(0, sS l full), (4, I k), (3, I (leftR (l.take k)))], [], 0, [], 20, 0⟩ : St)
  refine sem_seq ?_
  refine sem_seq ?_
  refine sem_region rfl ?_
  refine step_r rfl rfl trivial ?_
  refine step_r rfl rfl trivial ?_
  refine step_r rfl rfl trivial ?_
  refine step_bin rfl rfl rfl rfl rfl trivial ?_
  refine step_nil ?_
  refine seqK_n ?_
  refine sem_cond rfl (fun h2 => ?_) (fun h2 => ?_)
  · have hk : k < l.length := by simpa using h2
    obtain ⟨x, hx⟩ : ∃ x, l[k]? = some x := ⟨_, List.getElem?_eq_getElem hk⟩
    refine sem_skip ?_
    refine seqK_n ?_
    refine sem_seq ?_
    refine sem_block ?_
    refine sem_region rfl ?_
    refine step_r rfl rfl trivial ?_
    refine step_r rfl rfl trivial ?_
    refine step_r rfl rfl trivial ?_
    refine step_idxS (k := k) rfl rfl rfl rfl hk (flat_ne encS_len (by decide) hk) rfl ?_
    refine step_r rfl rfl (by decide) ?_
    refine step_load_one rfl rfl rfl (flat_get encS_len hx (o := 1) rfl (by decide)) rfl ?_
    refine step_max rfl rfl rfl ?_
    refine step_call rfl rfl rfl rfl (addR_ok _ _) rfl rfl rfl ?_
    refine step_r rfl rfl trivial ?_
    refine step_nil ?_
    refine blkK_n ?_
    refine seqK_n ?_
    refine sem_region rfl ?_
    refine step_r rfl rfl trivial ?_
    refine step_bin rfl rfl rfl rfl rfl trivial ?_
    refine step_r rfl rfl trivial ?_
    refine step_nil ?_
    exact lup_again (k+1) (hk) (by omega) (less_of rfl ⟨⟨rfl, rfl⟩, ⟨congrArg (fun n => some (I n)) (wrap_nat hk (by omega)), rfl⟩, ⟨congrArg (fun n => some (I n)) (by rw [take_snoc hx, leftR_snoc]), rfl⟩, trivial⟩ trivial (fun _ _ => .inr (Nat.zero_le _)))
  · have hk : k = l.length := by have := of_decide_eq_false h2; omega
    refine sem_exit ?_
    refine seqK_e ?_
    refine lupK_e ?_
    refine blkK_t rfl ?_
    refine seqK_n ?_
    refine sem_seq ?_
    refine sem_region rfl ?_
    refine step_r rfl rfl trivial ?_
    refine step_r rfl rfl trivial ?_
    refine step_nil ?_
    refine seqK_n ?_
    refine sem_ret ?_
    exact answersR rfl (by simp) (by rw [hk, List.take_length]; rfl) rfl

theorem all_ok (n : Int) (l : List Int) (full : Bool) (hl : l.length ≤ 4611686018427387904) : Ok Try.prog 17 [I n, sI l full] [] (I (allM n l)) [] [] := by
  refine ok_of_sem Try.func17 rfl ?_
  show Walks Try.prog _ _ ⟨[(0, I n), (1, sI l full)], [], 0, [], 18, 0⟩
  refine sem_seq ?_
  refine sem_region rfl ?_
  refine step_r rfl rfl trivial ?_
  refine step_nil ?_
  refine seqK_n ?_
  refine sem_seq ?_
  refine sem_seq ?_
  refine sem_region rfl ?_
  refine step_r rfl rfl trivial ?_
  refine step_r rfl rfl trivial ?_
  refine step_r rfl rfl trivial ?_
  refine step_nil ?_
  refine seqK_n ?_
  refine sem_block ?_
  refine sem_loop_of (fun k : Nat => (⟨[(7, sI l full), (8, I l.length), (9, I k), (0, I (allM n (l.take k)))], [], 0, [], 18, 0⟩ : St)) (fun k : Nat => k ≤ l.length) (fun k : Nat => l.length - k) 0 (Nat.zero_le _) (less_of rfl ⟨⟨rfl, rfl⟩, ⟨rfl, rfl⟩, ⟨rfl, rfl⟩, ⟨rfl, rfl⟩, trivial⟩ trivial (fun _ _ => .inr (Nat.zero_le _))) (fun k hI => ?_)
  show Walks Try.prog _ _ (⟨[(7, sI l full), (8, I l.length), (9, I k), (0, I (allM n (l.take k)))], [], 0, [], 18, 0⟩ : St)
  refine sem_seq ?_
  refine sem_region rfl ?_
  refine step_bin rfl rfl rfl rfl rfl trivial ?_
  refine step_nil ?_
  refine seqK_n ?_
  refine sem_seq ?_
  refine sem_cond rfl (fun h1 => ?_) (fun h1 => ?_)
  · have hk : k < l.length := by simpa using h1
    obtain ⟨x, hx⟩ : ∃ x, l[k]? = some x := ⟨_, List.getElem?_eq_getElem hk⟩
    refine sem_skip ?_
    refine seqK_n ?_
    refine sem_seq ?_
    refine sem_block ?_
    refine sem_seq ?_
    refine sem_region rfl ?_
    refine step_idxS (k := k) rfl rfl rfl rfl hk (encI_ne hk) rfl ?_
    refine step_load_one rfl rfl rfl (encI_get hx) rfl ?_
    refine step_r rfl rfl trivial ?_
    refine step_nil ?_
    refine seqK_n ?_
    refine sem_region rfl ?_
    refine step_r rfl rfl trivial ?_
    refine step_r rfl rfl trivial ?_
    refine step_call rfl rfl rfl rfl (more_ok _ _) rfl rfl rfl ?_
    refine step_r rfl rfl trivial ?_
    refine step_nil ?_
    refine blkK_n ?_
    refine seqK_n ?_
    refine sem_region rfl ?_
    refine step_bin rfl rfl rfl rfl rfl trivial ?_
    refine step_r rfl rfl trivial ?_
    refine step_nil ?_
    exact lup_again (k+1) (hk) (by omega) (less_of rfl ⟨⟨rfl, rfl⟩, ⟨rfl, rfl⟩, ⟨congrArg (fun n => some (I n)) (wrap_nat hk (by omega)), rfl⟩, ⟨congrArg (fun n => some (I n)) (by rw [take_snoc hx, allM_snoc]), rfl⟩, trivial⟩ trivial (fun _ _ => .inr (Nat.zero_le _)))
  · have hk : k = l.length := by have := of_decide_eq_false h1; omega
    refine sem_exit ?_
    refine seqK_e ?_
    refine lupK_e ?_
    refine blkK_t rfl ?_
    refine seqK_n ?_
    refine sem_seq ?_
    refine sem_region rfl ?_
    refine step_r rfl rfl trivial ?_
    refine step_r rfl rfl trivial ?_
    refine step_nil ?_
    refine seqK_n ?_
    refine sem_ret ?_
    exact answersR rfl (by simp) (by rw [hk, List.take_length]; rfl) rfl

theorem allR_ok (n : Int) (l : List Int) (full : Bool) (hl : l.length ≤ 4611686018427387904) : Ok Try.prog 18 [I n, sI l full] [] (I (allR n l)) [] [] := by
  refine ok_of_sem Try.func18 rfl ?_
  show Walks Try.prog _ _ ⟨[(0, I n), (1, sI l full)], [], 0, [], 19, 0⟩
  refine sem_seq ?_
  refine sem_region rfl ?_
  refine step_r rfl rfl trivial ?_
  refine step_nil ?_
  refine seqK_n ?_
  refine sem_seq ?_
  refine sem_seq ?_
  refine sem_region rfl ?_
  refine step_r rfl rfl trivial ?_
  refine step_nil ?_
  refine seqK_n ?_
  refine sem_block ?_
  refine sem_loop_of (fun k : Nat => (⟨[(1, sI l full), (5, I k), (0, I (allR n (l.take k)))], [], 0, [], 19, 0⟩ : St)) (fun k : Nat => k ≤ l.length) (fun k : Nat => l.length - k) 0 (Nat.zero_le _) (less_of rfl ⟨⟨rfl, rfl⟩, ⟨rfl, rfl⟩, ⟨rfl, rfl⟩, trivial⟩ trivial (fun _ _ => .inr (Nat.zero_le _))) (fun k hI => ?_)
  show Walks Try.prog _ _ (⟨[(1, sI l full), (5, I k), (0, I (allR n (l.take k)))], [], 0, [], 19, 0⟩ : St)
  refine sem_seq ?_
  refine sem_seq ?_
  refine sem_region rfl ?_
  refine step_r rfl rfl trivial ?_
  refine step_r rfl rfl trivial ?_
  refine step_r rfl rfl trivial ?_
  refine step_bin rfl rfl rfl rfl rfl trivial ?_
  refine step_nil ?_
  refine seqK_n ?_
  refine sem_cond rfl (fun h2 => ?_) (fun h2 => ?_)
  · have hk : k < l.length := by simpa using h2
    obtain ⟨x, hx⟩ : ∃ x, l[k]? = some x := ⟨_, List.getElem?_eq_getElem hk⟩
    refine sem_skip ?_
    refine seqK_n ?_
    refine sem_seq ?_
    refine sem_block ?_
    refine sem_region rfl ?_
    refine step_r rfl rfl trivial ?_
    refine step_r rfl rfl trivial ?_
    refine step_r rfl rfl trivial ?_
    refine step_idxS (k := k) rfl rfl rfl rfl hk (encI_ne hk) rfl ?_
    refine step_load_one rfl rfl rfl (encI_get hx) rfl ?_
    refine step_call rfl rfl rfl rfl (moreR_ok _ _) rfl rfl rfl ?_
    refine step_r rfl rfl trivial ?_
    refine step_nil ?_
    refine blkK_n ?_
    refine seqK_n ?_
    refine sem_region rfl ?_
    refine step_r rfl rfl trivial ?_
    refine step_bin rfl rfl rfl rfl rfl trivial ?_
    refine step_r rfl rfl trivial ?_
    refine step_nil ?_
    exact lup_again (k+1) (hk) (by omega) (less_of rfl ⟨⟨rfl, rfl⟩, ⟨congrArg (fun n => some (I n)) (wrap_nat hk (by omega)), rfl⟩, ⟨congrArg (fun n => some (I n)) (by rw [take_snoc hx, allR_snoc]), rfl⟩, trivial⟩ trivial (fun _ _ => .inr (Nat.zero_le _)))
  · have hk : k = l.length := by have := of_decide_eq_false h2; omega
    refine sem_exit ?_
    refine seqK_e ?_
    refine lupK_e ?_
    refine blkK_t rfl ?_
    refine seqK_n ?_
    refine sem_seq ?_
    refine sem_region rfl ?_
    refine step_r rfl rfl trivial ?_
    refine step_r rfl rfl trivial ?_
    refine step_nil ?_
    refine seqK_n ?_
    refine sem_ret ?_
    exact answersR rfl (by simp) (by rw [hk, List.take_length]; rfl) rfl

theorem same_no {α : Type} {a b : List α} {k : Nat} {x y : α} (hx : a[k]? = some x) (hy : b[k]? = some y) (h : x ≠ y) : ¬ a = b := by
  intro e; subst e; rw [hx] at hy; exact h (Option.some.inj hy)
theorem same_all {α : Type} {a b : List α} {k : Nat} (h : a.take k = b.take k) (hk : k = a.length) (hl : a.length = b.length) : a = b := by
  have := h; rw [hk, List.take_length, hl, List.take_length] at this; exact this


theorem same14_ok (a b : List Sh) (fa fb : Bool) (hl : a.length ≤ 4611686018427387904) : Ok Try.prog 13 [sS a fa, sS b fb] [] (B (decide (a = b))) [] [] := by
  refine ok_of_sem Try.func13 rfl ?_
  show Walks Try.prog _ _ ⟨[(0, sS a fa), (1, sS b fb)], [], 0, [], 26, 0⟩
  refine sem_seq ?_
  refine sem_region rfl ?_
  refine step_r rfl rfl trivial ?_
  refine step_nil ?_
  refine seqK_n ?_
  refine sem_seq ?_
  refine sem_seq ?_
  refine sem_region rfl ?_
  refine step_r rfl rfl trivial ?_
  refine step_r rfl rfl trivial ?_
  refine step_r rfl rfl trivial ?_
  refine step_r rfl rfl trivial ?_
  refine step_bin rfl rfl rfl rfl rfl trivial ?_
  refine step_nil ?_
  refine seqK_n ?_
  refine sem_cond rfl (fun h1 => ?_) (fun h1 => ?_)
  · skip
    refine sem_seq ?_
    refine sem_region rfl ?_
    refine step_r rfl rfl trivial ?_
    refine step_nil ?_
    refine seqK_n ?_
    refine sem_ret ?_
    refine seqK_r ?_
    have hne : ¬ a.length = b.length := by
      have h := h1; simp at h; omega
    exact answersR rfl (by simp) (congrArg B (decide_eq_false (fun e => hne (by rw [e]))).symm) rfl
  · have hlen : a.length = b.length := by
      have h := h1; simp at h; omega
    refine sem_skip ?_
    refine seqK_n ?_
    refine sem_seq ?_
    refine sem_seq ?_
    refine sem_region rfl ?_
    refine step_r rfl rfl trivial ?_
    refine step_nil ?_
    refine seqK_n ?_
    refine sem_block ?_
    refine sem_loop_of (fun k : Nat => (⟨[(0, sS a fa), (1, sS b fb), (5, I k)], [], 0, [], 26, 0⟩ : St)) (fun k : Nat => k ≤ a.length ∧ a.take k = b.take k) (fun k : Nat => a.length - k) 0 (⟨Nat.zero_le _, rfl⟩) (less_of rfl ⟨⟨rfl, rfl⟩, ⟨rfl, rfl⟩, ⟨rfl, rfl⟩, trivial⟩ trivial (fun _ _ => .inr (Nat.zero_le _))) (fun k hI => ?_)
    show Walks Try.prog _ _ (⟨[(0, sS a fa), (1, sS b fb), (5, I k)], [], 0, [], 26, 0⟩ : St)
    refine sem_seq ?_
    refine sem_seq ?_
    refine sem_region rfl ?_
    refine step_r rfl rfl trivial ?_
    refine step_r rfl rfl trivial ?_
    refine step_r rfl rfl trivial ?_
    refine step_bin rfl rfl rfl rfl rfl trivial ?_
    refine step_nil ?_
    refine seqK_n ?_
    refine sem_cond rfl (fun h3 => ?_) (fun h3 => ?_)
    · have hk : k < a.length := by simpa using h3
      have hk2 : k < b.length := by omega
      obtain ⟨x, hx⟩ : ∃ x, a[k]? = some x := ⟨_, List.getElem?_eq_getElem hk⟩
      obtain ⟨y, hy⟩ : ∃ y, b[k]? = some y := ⟨_, List.getElem?_eq_getElem hk2⟩
      refine sem_skip ?_
      refine seqK_n ?_
      refine sem_seq ?_
      refine sem_block ?_
      refine sem_seq ?_
      refine sem_drawn rfl (by decide +kernel) rfl ?_
      refine step_r rfl rfl trivial ?_
      refine step_r rfl rfl trivial ?_
      refine step_idxS (k := k) rfl rfl rfl rfl hk (flat_ne encS_len (by decide) hk) rfl ?_
      refine step_load_row rfl rfl rfl (flat_lt encS_len hk) (flat_take encS_len hx) rfl ?_
      refine step_r rfl rfl trivial ?_
      refine step_r rfl rfl trivial ?_
      refine step_idxS (k := k) rfl rfl rfl rfl hk2 (flat_ne encS_len (by decide) hk2) rfl ?_
      refine step_load_row rfl rfl rfl (flat_lt encS_len hk2) (flat_take encS_len hy) rfl ?_
      refine step_neqA rfl rfl rfl (by kernel_rfl) rfl rfl rfl rfl rfl ?_
      refine step_nil ?_
      refine seqK_n ?_
      refine sem_cond rfl (fun h4 => ?_) (fun h4 => ?_)
      · have hne : x ≠ y := by
          intro e; subst e; simp at h4
        refine sem_seq ?_
        refine sem_region rfl ?_
        refine step_r rfl rfl trivial ?_
        refine step_nil ?_
        refine seqK_n ?_
        refine sem_ret ?_
        refine blkK_r ?_
        refine seqK_r ?_
        refine lupK_r ?_
        refine blkK_r ?_
        refine seqK_r ?_
        exact answersR rfl (by simp) (congrArg B (decide_eq_false (same_no hx hy hne)).symm) rfl
      · have hxy : x = y := by
          have h := h4
          simp at h
          cases x; cases y; simp_all
        refine sem_skip ?_
        refine blkK_n ?_
        refine seqK_n ?_
        refine sem_region rfl ?_
        refine step_r rfl rfl trivial ?_
        refine step_bin rfl rfl rfl rfl rfl trivial ?_
        refine step_r rfl rfl trivial ?_
        refine step_nil ?_
        exact lup_again (k+1) (⟨hk, by rw [take_snoc hx, take_snoc hy, hI.2, hxy]⟩) (by omega) (less_of rfl ⟨⟨rfl, rfl⟩, ⟨rfl, rfl⟩, ⟨congrArg (fun n => some (I n)) (wrap_nat hk (by omega)), rfl⟩, trivial⟩ trivial (fun _ _ => .inr (Nat.zero_le _)))
    · have hk : k = a.length := by have := of_decide_eq_false h3; have := hI.1; omega
      refine sem_exit ?_
      refine seqK_e ?_
      refine lupK_e ?_
      refine blkK_t rfl ?_
      refine seqK_n ?_
      refine sem_seq ?_
      refine sem_region rfl ?_
      refine step_r rfl rfl trivial ?_
      refine step_nil ?_
      refine seqK_n ?_
      refine sem_ret ?_
      exact answersR rfl (by simp) (congrArg B (decide_eq_true (same_all hI.2 hk hlen)).symm) rfl

theorem same02_ok (a b : List Int) (fa fb : Bool) (hl : a.length ≤ 4611686018427387904) : Ok Try.prog 14 [sI a fa, sI b fb] [] (B (decide (a = b))) [] [] := by
  refine ok_of_sem Try.func14 rfl ?_
  show Walks Try.prog _ _ ⟨[(0, sI a fa), (1, sI b fb)], [], 0, [], 26, 0⟩
  refine sem_seq ?_
  refine sem_region rfl ?_
  refine step_r rfl rfl trivial ?_
  refine step_nil ?_
  refine seqK_n ?_
  refine sem_seq ?_
  refine sem_seq ?_
  refine sem_region rfl ?_
  refine step_r rfl rfl trivial ?_
  refine step_r rfl rfl trivial ?_
  refine step_r rfl rfl trivial ?_
  refine step_r rfl rfl trivial ?_
  refine step_bin rfl rfl rfl rfl rfl trivial ?_
  refine step_nil ?_
  refine seqK_n ?_
  refine sem_cond rfl (fun h1 => ?_) (fun h1 => ?_)
  · skip
    refine sem_seq ?_
    refine sem_region rfl ?_
    refine step_r rfl rfl trivial ?_
    refine step_nil ?_
    refine seqK_n ?_
    refine sem_ret ?_
    refine seqK_r ?_
    have hne : ¬ a.length = b.length := by
      have h := h1; simp at h; omega
    exact answersR rfl (by simp) (congrArg B (decide_eq_false (fun e => hne (by rw [e]))).symm) rfl
  · have hlen : a.length = b.length := by
      have h := h1; simp at h; omega
    refine sem_skip ?_
    refine seqK_n ?_
    refine sem_seq ?_
    refine sem_seq ?_
    refine sem_region rfl ?_
    refine step_r rfl rfl trivial ?_
    refine step_nil ?_
    refine seqK_n ?_
    refine sem_block ?_
    refine sem_loop_of (fun k : Nat => (⟨[(0, sI a fa), (1, sI b fb), (5, I k)], [], 0, [], 26, 0⟩ : St)) (fun k : Nat => k ≤ a.length ∧ a.take k = b.take k) (fun k : Nat => a.length - k) 0 (⟨Nat.zero_le _, rfl⟩) (less_of rfl ⟨⟨rfl, rfl⟩, ⟨rfl, rfl⟩, ⟨rfl, rfl⟩, trivial⟩ trivial (fun _ _ => .inr (Nat.zero_le _))) (fun k hI => ?_)
    show Walks Try.prog _ _ (⟨[(0, sI a fa), (1, sI b fb), (5, I k)], [], 0, [], 26, 0⟩ : St)
    refine sem_seq ?_
    refine sem_seq ?_
    refine sem_region rfl ?_
    refine step_r rfl rfl trivial ?_
    refine step_r rfl rfl trivial ?_
    refine step_r rfl rfl trivial ?_
    refine step_bin rfl rfl rfl rfl rfl trivial ?_
    refine step_nil ?_
    refine seqK_n ?_
    refine sem_cond rfl (fun h3 => ?_) (fun h3 => ?_)
    · have hk : k < a.length := by simpa using h3
      have hk2 : k < b.length := by omega
      obtain ⟨x, hx⟩ : ∃ x, a[k]? = some x := ⟨_, List.getElem?_eq_getElem hk⟩
      obtain ⟨y, hy⟩ : ∃ y, b[k]? = some y := ⟨_, List.getElem?_eq_getElem hk2⟩
      refine sem_skip ?_
      refine seqK_n ?_
      refine sem_seq ?_
      refine sem_block ?_
      refine sem_seq ?_
      refine sem_drawn rfl (by decide +kernel) rfl ?_
      refine step_r rfl rfl trivial ?_
      refine step_r rfl rfl trivial ?_
      refine step_idxS (k := k) rfl rfl rfl rfl hk (encI_ne hk) rfl ?_
      refine step_load_one rfl rfl rfl (encI_get hx) rfl ?_
      refine step_r rfl rfl trivial ?_
      refine step_r rfl rfl trivial ?_
      refine step_idxS (k := k) rfl rfl rfl rfl hk2 (encI_ne hk2) rfl ?_
      refine step_load_one rfl rfl rfl (encI_get hy) rfl ?_
      refine step_bin rfl rfl rfl rfl rfl trivial ?_
      refine step_nil ?_
      refine seqK_n ?_
      refine sem_cond rfl (fun h4 => ?_) (fun h4 => ?_)
      · have hne : x ≠ y := by
          intro e; subst e; simp at h4
        refine sem_seq ?_
        refine sem_region rfl ?_
        refine step_r rfl rfl trivial ?_
        refine step_nil ?_
        refine seqK_n ?_
        refine sem_ret ?_
        refine blkK_r ?_
        refine seqK_r ?_
        refine lupK_r ?_
        refine blkK_r ?_
        refine seqK_r ?_
        exact answersR rfl (by simp) (congrArg B (decide_eq_false (same_no hx hy hne)).symm) rfl
      · have hxy : x = y := by
          simpa using h4
        refine sem_skip ?_
        refine blkK_n ?_
        refine seqK_n ?_
        refine sem_region rfl ?_
        refine step_r rfl rfl trivial ?_
        refine step_bin rfl rfl rfl rfl rfl trivial ?_
        refine step_r rfl rfl trivial ?_
        refine step_nil ?_
        exact lup_again (k+1) (⟨hk, by rw [take_snoc hx, take_snoc hy, hI.2, hxy]⟩) (by omega) (less_of rfl ⟨⟨rfl, rfl⟩, ⟨rfl, rfl⟩, ⟨congrArg (fun n => some (I n)) (wrap_nat hk (by omega)), rfl⟩, trivial⟩ trivial (fun _ _ => .inr (Nat.zero_le _)))
    · have hk : k = a.length := by have := of_decide_eq_false h3; have := hI.1; omega
      refine sem_exit ?_
      refine seqK_e ?_
      refine lupK_e ?_
      refine blkK_t rfl ?_
      refine seqK_n ?_
      refine sem_seq ?_
      refine sem_region rfl ?_
      refine step_r rfl rfl trivial ?_
      refine step_nil ?_
      refine seqK_n ?_
      refine sem_ret ?_
      exact answersR rfl (by simp) (congrArg B (decide_eq_true (same_all hI.2 hk hlen)).symm) rfl

theorem clone_nil  : Ok Try.prog 43 [.pv .nils] [] (.ref 0 2 0 0) [.row 31 2 []] [] := by
  refine ok_of_sem Try.func43 rfl ?_
  show Walks Try.prog _ _ ⟨[(0, .pv .nils)], [], 0, [], 8, 0⟩
  refine sem_seq ?_
  refine sem_region rfl ?_
  refine step_n (nx' := 1) rfl rfl rfl trivial ?_
  refine step_nil ?_
  refine seqK_n ?_
  refine sem_seq ?_
  refine sem_seq ?_
  refine sem_region rfl ?_
  refine step_r rfl rfl trivial ?_
  refine step_r rfl rfl trivial ?_
  refine step_nil ?_
  refine seqK_n ?_
  refine sem_cond rfl (fun h1 => ?_) (fun h1 => ?_)
  · skip
    refine sem_seq ?_
    refine sem_region rfl ?_
    refine step_n (nx' := 2) rfl rfl rfl trivial ?_
    refine step_nil ?_
    refine seqK_n ?_
    refine sem_ret ?_
    refine seqK_r ?_
    exact answersNewR [1] rfl (by simp) rfl rfl (by decide) rfl ⟨⟨rfl, rfl⟩, trivial⟩
  · cases h1

theorem clone_nnl (l : List Sh) (hl : l.length ≤ 16777216) : Ok Try.prog 43 [.pv (.nnl l.length (encS l))] [] (.ref 0 2 0 l.length) [.row 31 2 (encS l)] [] := by
  refine ok_of_sem Try.func43 rfl ?_
  show Walks Try.prog _ _ ⟨[(0, .pv (.nnl l.length (encS l)))], [], 0, [], 8, 0⟩
  refine sem_seq ?_
  refine sem_region rfl ?_
  refine step_n (nx' := 1) rfl rfl rfl trivial ?_
  refine step_nil ?_
  refine seqK_n ?_
  refine sem_seq ?_
  refine sem_seq ?_
  refine sem_region rfl ?_
  refine step_r rfl rfl trivial ?_
  refine step_r rfl rfl trivial ?_
  refine step_nil ?_
  refine seqK_n ?_
  refine sem_cond rfl (fun h1 => ?_) (fun h1 => ?_)
  · cases h1
  · skip
    refine sem_skip ?_
    refine seqK_n ?_
    refine sem_seq ?_
    refine sem_region rfl ?_
    refine step_n (o := .row _ _ []) (nx' := 2) rfl rfl rfl (by decide) ?_
    refine step_r rfl rfl trivial ?_
    refine step_append (m := l.length) (new := encS l) (H' := [(1, .row _ _ _), (0, .row _ _ _)]) rfl rfl rfl rfl rfl rfl rfl rfl rfl rfl (rfl) (flat_len encS_len l) (by unfold maxGrow; omega) (Nat.zero_add _) (.inl rfl) rfl rfl (.keep rfl (.keep rfl .nil)) (.keep rfl (.lose (v' := .undef) rfl (.keep rfl (.keep rfl (.keep rfl (.keep rfl .nil)))))) ?_
    refine step_r rfl rfl trivial ?_
    refine step_nil ?_
    refine seqK_n ?_
    refine sem_ret ?_
    exact answersNewR [1] rfl (by simp) rfl rfl (by decide) rfl ⟨⟨rfl, rfl⟩, trivial⟩

theorem clone_ok (l : List Sh) (full : Bool) (hl : l.length ≤ 16777216) : Ok Try.prog 43 [sS l full] [] (.ref 0 2 0 l.length) [.row 31 2 (encS l)] [] := by
  refine Ok.slc1 (fun h1 h2 => ?_) (clone_nnl l hl)
  rw [h1, h2]; exact clone_nil


def takeGo : List Sh → Int → List Sh → List Int → List Sh × Int × List Int
  | [], n, L, G => (L, n, G)
  | x :: l, n, L, G => if x.left ≤ clampM n 0 (max x.left 0) then takeGo l (IntKind.i64.wrap (n - clampM n 0 (max x.left 0))) L (G ++ [x.aura])
    else takeGo l (IntKind.i64.wrap (n - clampM n 0 (max x.left 0))) (L ++ [⟨x.aura, IntKind.i64.wrap (x.left - clampM n 0 (max x.left 0))⟩]) G
def takeM (l : List Sh) (n : Int) : List Sh × Int × List Int := if n < 1 then (l, 0, []) else takeGo l n [] []
abbrev out3 (r : List Sh × Int × List Int) : AV := .tup [.ref 0 2 0 r.1.length, I r.2.1, .ref 1 1 0 r.2.2.length]
abbrev hout3 (r : List Sh × Int × List Int) : List VObj := [.row 31 2 (encS r.1), .row 3 1 (encI r.2.2)]
theorem drop_cons {α : Type} {l : List α} {k : Nat} {x : α} (h : l[k]? = some x) : l.drop k = x :: l.drop (k + 1) := by
  obtain ⟨hk, rfl⟩ := List.getElem?_eq_some_iff.1 h
  exact List.drop_eq_getElem_cons hk
theorem len_snoc {α : Type} (l : List α) (x : α) : l.length + 1 = (l ++ [x]).length := by simp


theorem encS_solid {l : List Sh} : ∀ p ∈ encS l, solidP p = true := flat_solid (fun x p h => by simp only [encS1, List.mem_cons, List.mem_nil_iff, or_false] at h; rcases h with rfl | rfl <;> rfl)

theorem take_ok (l : List Sh) (n0 : Int) (full : Bool) (hl : l.length ≤ 16777216) : Ok Try.prog 11 [sS l full, I n0] [] (out3 (takeM l n0)) [.row 31 2 (encS (takeM l n0).1), .row 3 1 (encI (takeM l n0).2.2)] [] := by
  refine ok_of_sem Try.func11 rfl ?_
  show Walks Try.prog _ _ ⟨[(0, sS l full), (1, I n0)], [], 0, [], 51, 0⟩
  refine sem_seq ?_
  refine sem_region rfl ?_
  refine step_n (nx' := 1) rfl rfl rfl trivial ?_
  refine step_r rfl rfl trivial ?_
  refine step_n (nx' := 2) rfl rfl rfl trivial ?_
  refine step_nil ?_
  refine seqK_n ?_
  refine sem_scope ?_
  refine sem_seq ?_
  refine sem_seq ?_
  refine sem_region rfl ?_
  refine step_r rfl rfl trivial ?_
  refine step_bin rfl rfl rfl rfl rfl trivial ?_
  refine step_nil ?_
  refine seqK_n ?_
  refine sem_cond rfl (fun h2 => ?_) (fun h2 => ?_)
  · have hn : n0 < 1 := of_decide_eq_true h2
    have e : takeM l n0 = (l, 0, []) := if_pos hn
    rw [e]
    refine sem_seq ?_
    refine sem_region rfl ?_
    refine step_r rfl rfl trivial ?_
    refine step_callB (Hin := []) (out' := .ref 2 _ _ _) (H' := [(2, .row _ _ _), (1, .row _ _ _), (0, .row _ _ _)]) (nx' := 3) [] rfl rfl rfl rfl rfl rfl rfl rfl (by (repeat' apply And.intro) <;> first | trivial | rfl | exact flat_len encS_len _ | exact encI_len _) (clone_ok l full hl) rfl (by decide) rfl rfl rfl ⟨encS_solid, trivial⟩ rfl rfl rfl rfl ?_
    refine step_r rfl rfl trivial ?_
    refine step_r rfl rfl trivial ?_
    refine step_n (nx' := 4) rfl rfl rfl trivial ?_
    refine step_nil ?_
    refine seqK_n ?_
    refine sem_ret ?_
    refine seqK_r ?_
    refine scpK_r ?_
    exact answersNewR [2, 3] rfl (by simp) rfl rfl (by decide) rfl ⟨⟨rfl, rfl⟩, ⟨rfl, rfl⟩, trivial⟩
  · have hn : ¬ n0 < 1 := of_decide_eq_false h2
    refine sem_skip ?_
    refine seqK_n ?_
    refine sem_seq ?_
    refine sem_label ?_
    refine seqK_n ?_
    refine sem_seq ?_
    refine sem_seq ?_
    refine sem_region rfl ?_
    refine step_r rfl rfl trivial ?_
    refine step_r rfl rfl trivial ?_
    refine step_r rfl rfl trivial ?_
    refine step_nil ?_
    refine seqK_n ?_
    refine sem_block ?_
    refine sem_loop_of (fun a : Nat × Int × List Sh × List Int => match a with | (k, n, L, G) => (⟨[(14, sS l full), (15, I l.length), (16, I k), (1, I n), (4, .ref 0 2 0 L.length), (6, .ref 1 1 0 G.length)], [(0, .row 31 2 (encS L)), (1, .row 3 1 (encI G))], 2, [], 51, 0⟩ : St)) (fun a : Nat × Int × List Sh × List Int => match a with | (k, n, L, G) => k ≤ l.length ∧ takeGo (l.drop k) n L G = takeM l n0 ∧ L.length + G.length ≤ k) (fun a : Nat × Int × List Sh × List Int => match a with | (k, n, L, G) => l.length - k) (0, n0, [], []) (⟨Nat.zero_le _, by simp [takeM, hn], by simp⟩) (less_of rfl ⟨⟨rfl, rfl⟩, ⟨rfl, rfl⟩, ⟨rfl, rfl⟩, ⟨rfl, rfl⟩, ⟨rfl, rfl⟩, ⟨rfl, rfl⟩, trivial⟩ ⟨⟨rfl, rfl, rfl⟩, ⟨rfl, rfl, rfl⟩, trivial⟩ (fun _ _ => .inr (Nat.zero_le _))) (fun a hI => ?_)
    obtain ⟨k, n, L, G⟩ := a
    show Walks Try.prog _ _ (⟨[(14, sS l full), (15, I l.length), (16, I k), (1, I n), (4, .ref 0 2 0 L.length), (6, .ref 1 1 0 G.length)], [(0, .row 31 2 (encS L)), (1, .row 3 1 (encI G))], 2, [], 51, 0⟩ : St)
    refine sem_seq ?_
    refine sem_region rfl ?_
    refine step_bin rfl rfl rfl rfl rfl trivial ?_
    refine step_nil ?_
    refine seqK_n ?_
    refine sem_seq ?_
    refine sem_cond rfl (fun h3 => ?_) (fun h3 => ?_)
    · have hk : k < l.length := by simpa using h3
      obtain ⟨x, hx⟩ : ∃ x, l[k]? = some x := ⟨_, List.getElem?_eq_getElem hk⟩
      refine sem_skip ?_
      refine seqK_n ?_
      refine sem_seq ?_
      refine sem_block ?_
      refine sem_seq ?_
      refine sem_region rfl ?_
      refine step_idxS (k := k) rfl rfl rfl rfl hk (flat_ne encS_len (by decide) hk) rfl ?_
      refine step_load_row rfl rfl rfl (flat_lt encS_len hk) (flat_take encS_len hx) rfl ?_
      refine step_n (o := .box [_, _]) (nx' := 3) rfl rfl rfl trivial ?_
      refine step_store (H' := [(2, .box [_, _]), (0, .row _ _ _), (1, .row _ _ _)]) rfl rfl rfl rfl rfl rfl (Nat.le_of_ble_eq_true rfl) (.inl rfl) rfl ?_
      refine step_nil ?_
      refine seqK_n ?_
      refine sem_seq ?_
      refine sem_region rfl ?_
      refine step_r rfl rfl trivial ?_
      refine step_r rfl rfl (by decide) ?_
      refine step_r rfl rfl trivial ?_
      refine step_max rfl rfl rfl ?_
      refine step_call rfl rfl rfl rfl (clamp_ok _ _ _) rfl rfl rfl ?_
      refine step_r rfl rfl trivial ?_
      refine step_nil ?_
      refine seqK_n ?_
      refine sem_seq ?_
      refine sem_region rfl ?_
      refine step_r rfl rfl trivial ?_
      refine step_r rfl rfl trivial ?_
      refine step_bin rfl rfl rfl rfl rfl trivial ?_
      refine step_r rfl rfl trivial ?_
      refine step_nil ?_
      refine seqK_n ?_
      refine sem_seq ?_
      refine sem_seq ?_
      refine sem_region rfl ?_
      refine step_r rfl rfl (by decide) ?_
      refine step_r rfl rfl trivial ?_
      refine step_r rfl rfl trivial ?_
      refine step_bin rfl rfl rfl rfl rfl trivial ?_
      refine step_nil ?_
      refine seqK_n ?_
      refine sem_cond rfl (fun h7 => ?_) (fun h7 => ?_)
      · have hle : x.left ≤ clampM n 0 (max x.left 0) := of_decide_eq_true h7
        refine sem_seq ?_
        refine sem_region rfl ?_
        refine step_r rfl rfl trivial ?_
        refine step_r rfl rfl (by decide) ?_
        refine step_r rfl rfl trivial ?_
        refine step_n (o := .row _ _ [_]) (nx' := 4) rfl rfl rfl (by decide) ?_
        refine step_append (m := 1) (new := [_]) (H' := [(3, .row _ _ _), (2, .box [_, _]), (0, .row _ _ _), (1, .row _ _ _)]) rfl rfl rfl rfl rfl rfl rfl rfl rfl rfl (encI_len G) (rfl) (by have := hI.2.2; unfold maxGrow; omega) (rfl) (.inl rfl) rfl rfl (.keep rfl (.keep rfl (.keep rfl (.keep rfl .nil)))) (.keep rfl (.keep rfl (.keep rfl (.lose (v' := .undef) rfl (.keep rfl (.keep rfl (.keep rfl (.keep rfl (.keep rfl (.keep rfl (.keep rfl (.keep rfl (.keep rfl (.keep rfl (.keep rfl (.keep rfl (.keep rfl (.keep rfl (.keep rfl (.keep rfl (.keep rfl (.keep rfl (.keep rfl (.keep rfl (.keep rfl (.keep rfl (.keep rfl (.lose (v' := .undef) rfl .nil)))))))))))))))))))))))))))) ?_
        refine step_r rfl rfl trivial ?_
        refine step_nil ?_
        refine seqK_n ?_
        refine sem_exit ?_
        refine seqK_e ?_
        refine blkK_t rfl ?_
        refine seqK_n ?_
        refine sem_region rfl ?_
        refine step_bin rfl rfl rfl rfl rfl trivial ?_
        refine step_r rfl rfl trivial ?_
        refine step_nil ?_
        exact lup_again (k+1, _, L, G ++ [x.aura]) (⟨hk, by rw [← hI.2.1, drop_cons hx, takeGo, if_pos hle], by simp only [List.length_append, List.length_cons, List.length_nil]; omega⟩) (by show l.length - (k + 1) < l.length - k; omega) (less_of rfl ⟨⟨rfl, rfl⟩, ⟨rfl, rfl⟩, ⟨congrArg (fun n => some (I n)) (wrap_nat hk (by omega)), rfl⟩, ⟨rfl, rfl⟩, ⟨rfl, rfl⟩, ⟨congrArg (fun n => some (AV.ref 1 1 0 n)) (len_snoc G _), rfl⟩, trivial⟩ ⟨⟨rfl, rfl, rfl⟩, ⟨congrArg (fun c => some (VObj.row 3 1 c)) (encI_snoc G _).symm, rfl, rfl⟩, trivial⟩ (fun _ _ => .inr (Nat.zero_le _)))
      · have hle : ¬ x.left ≤ clampM n 0 (max x.left 0) := of_decide_eq_false h7
        refine sem_skip ?_
        refine seqK_n ?_
        refine sem_region rfl ?_
        refine step_r rfl rfl trivial ?_
        refine step_r rfl rfl (by decide) ?_
        refine step_r rfl rfl trivial ?_
        refine step_r rfl rfl (by decide) ?_
        refine step_r rfl rfl trivial ?_
        refine step_r rfl rfl trivial ?_
        refine step_bin rfl rfl rfl rfl rfl trivial ?_
        refine step_r (v := (.agg [_, _])) rfl rfl trivial ?_
        refine step_n (o := .row _ _ [_, _]) (nx' := 4) rfl rfl rfl (by decide) ?_
        refine step_append (m := 1) (new := [_, _]) (H' := [(3, .row _ _ _), (2, .box [_, _]), (0, .row _ _ _), (1, .row _ _ _)]) rfl rfl rfl rfl rfl rfl rfl rfl rfl rfl (flat_len encS_len L) (rfl) (by have := hI.2.2; unfold maxGrow; omega) (rfl) (.inl rfl) rfl rfl (.keep rfl (.keep rfl (.keep rfl (.keep rfl .nil)))) (.keep rfl (.keep rfl (.keep rfl (.keep rfl (.keep rfl (.keep rfl (.keep rfl (.keep rfl (.lose (v' := .undef) rfl (.keep rfl (.keep rfl (.keep rfl (.keep rfl (.keep rfl (.keep rfl (.keep rfl (.keep rfl (.keep rfl (.keep rfl (.keep rfl (.keep rfl (.keep rfl (.keep rfl (.keep rfl (.keep rfl (.keep rfl (.keep rfl (.keep rfl (.keep rfl (.keep rfl (.keep rfl (.lose (v' := .undef) rfl (.keep rfl .nil))))))))))))))))))))))))))))))))) ?_
        refine step_r rfl rfl trivial ?_
        refine step_nil ?_
        refine blkK_n ?_
        refine seqK_n ?_
        refine sem_region rfl ?_
        refine step_bin rfl rfl rfl rfl rfl trivial ?_
        refine step_r rfl rfl trivial ?_
        refine step_nil ?_
        exact lup_again (k+1, _, L ++ [⟨x.aura, IntKind.i64.wrap (x.left - clampM n 0 (max x.left 0))⟩], G) (⟨hk, by rw [← hI.2.1, drop_cons hx, takeGo, if_neg hle], by simp only [List.length_append, List.length_cons, List.length_nil]; omega⟩) (by show l.length - (k + 1) < l.length - k; omega) (less_of rfl ⟨⟨rfl, rfl⟩, ⟨rfl, rfl⟩, ⟨congrArg (fun n => some (I n)) (wrap_nat hk (by omega)), rfl⟩, ⟨rfl, rfl⟩, ⟨congrArg (fun n => some (AV.ref 0 2 0 n)) (len_snoc L _), rfl⟩, ⟨rfl, rfl⟩, trivial⟩ ⟨⟨congrArg (fun c => some (VObj.row 31 2 c)) (flat_snoc (enc := encS1) (l := L) ⟨x.aura, IntKind.i64.wrap (x.left - clampM n 0 (max x.left 0))⟩).symm, rfl, rfl⟩, ⟨rfl, rfl, rfl⟩, trivial⟩ (fun _ _ => .inr (Nat.zero_le _)))
    · have hk : k = l.length := by have := of_decide_eq_false h3; have := hI.1; omega
      have e : takeM l n0 = (L, n, G) := by rw [← hI.2.1, hk]; simp [takeGo]
      rw [e]
      refine sem_exit ?_
      refine seqK_e ?_
      refine lupK_e ?_
      refine blkK_t rfl ?_
      refine seqK_n ?_
      refine sem_seq ?_
      refine sem_region rfl ?_
      refine step_r rfl rfl trivial ?_
      refine step_r rfl rfl trivial ?_
      refine step_r rfl rfl trivial ?_
      refine step_r rfl rfl trivial ?_
      refine step_r rfl rfl trivial ?_
      refine step_r rfl rfl trivial ?_
      refine step_nil ?_
      refine seqK_n ?_
      refine sem_ret ?_
      refine scpK_r ?_
      exact answersNewR [0, 1] rfl (by simp) rfl rfl (by decide) rfl ⟨⟨rfl, rfl⟩, ⟨rfl, rfl⟩, trivial⟩

def partOf (x : Sh) (n : Int) : Int := min (max x.left 0) n
def takeGoR : List Sh → Int → List Sh → List Int → List Sh × Int × List Int
  | [], n, L, G => (L, n, G)
  | x :: l, n, L, G => if IntKind.i64.wrap (x.left - partOf x n) > 0 then takeGoR l (IntKind.i64.wrap (n - partOf x n)) (L ++ [⟨x.aura, IntKind.i64.wrap (x.left - partOf x n)⟩]) G
    else takeGoR l (IntKind.i64.wrap (n - partOf x n)) L (G ++ [x.aura])
def takeR (l : List Sh) (n : Int) : List Sh × Int × List Int := if n < 1 then (l, 0, []) else takeGoR l n [] []


theorem takeR_ok (l : List Sh) (n0 : Int) (full : Bool) (hl : l.length ≤ 16777216) : Ok Try.prog 12 [sS l full, I n0] [] (out3 (takeR l n0)) [.row 31 2 (encS (takeR l n0).1), .row 3 1 (encI (takeR l n0).2.2)] [] := by
  refine ok_of_sem Try.func12 rfl ?_
  show Walks Try.prog _ _ ⟨[(0, sS l full), (1, I n0)], [], 0, [], 68, 0⟩
  refine sem_seq ?_
  refine sem_region rfl ?_
  refine step_n (nx' := 1) rfl rfl rfl trivial ?_
  refine step_r rfl rfl trivial ?_
  refine step_n (nx' := 2) rfl rfl rfl trivial ?_
  refine step_nil ?_
  refine seqK_n ?_
  refine sem_seq ?_
  refine sem_seq ?_
  refine sem_region rfl ?_
  refine step_r rfl rfl trivial ?_
  refine step_bin rfl rfl rfl rfl rfl trivial ?_
  refine step_nil ?_
  refine seqK_n ?_
  refine sem_cond rfl (fun h2 => ?_) (fun h2 => ?_)
  · have hn : n0 < 1 := of_decide_eq_true h2
    have e : takeR l n0 = (l, 0, []) := if_pos hn
    rw [e]
    refine sem_seq ?_
    refine sem_region rfl ?_
    refine step_n (o := .row _ _ []) (nx' := 3) rfl rfl rfl (by decide) ?_
    refine step_r rfl rfl trivial ?_
    refine step_append (m := l.length) (new := encS l) (H' := [(2, .row _ _ _), (1, .row _ _ _), (0, .row _ _ _)]) rfl rfl rfl rfl rfl rfl rfl rfl rfl rfl (rfl) (flat_len encS_len l) (by unfold maxGrow; omega) (Nat.zero_add _) (.inl rfl) rfl rfl (.keep rfl (.keep rfl (.keep rfl .nil))) (.keep rfl (.lose (v' := .undef) rfl (.keep rfl (.keep rfl (.keep rfl (.keep rfl (.keep rfl (.keep rfl (.keep rfl .nil))))))))) ?_
    refine step_r rfl rfl trivial ?_
    refine step_r rfl rfl trivial ?_
    refine step_n (nx' := 4) rfl rfl rfl trivial ?_
    refine step_nil ?_
    refine seqK_n ?_
    refine sem_ret ?_
    refine seqK_r ?_
    exact answersNewR [2, 3] rfl (by simp) rfl rfl (by decide) rfl ⟨⟨rfl, rfl⟩, ⟨rfl, rfl⟩, trivial⟩
  · have hn : ¬ n0 < 1 := of_decide_eq_false h2
    refine sem_skip ?_
    refine seqK_n ?_
    refine sem_seq ?_
    refine sem_region rfl ?_
    refine step_n (nx' := 3) rfl rfl rfl trivial ?_
    refine step_nil ?_
    refine seqK_n ?_
    refine sem_seq ?_
    refine sem_region rfl ?_
    refine step_n (nx' := 4) rfl rfl rfl trivial ?_
    refine step_nil ?_
    refine seqK_n ?_
    refine sem_seq ?_
    refine sem_seq ?_
    refine sem_region rfl ?_
    refine step_r rfl rfl trivial ?_
    refine step_nil ?_
    refine seqK_n ?_
    refine sem_block ?_
    refine sem_loop_of (fun a : Nat × Int × List Sh × List Int => match a with | (k, n, L, G) => (⟨[(0, sS l full), (9, I k), (1, I n), (7, .ref 2 2 0 L.length), (8, .ref 3 1 0 G.length)], [(2, .row 31 2 (encS L)), (3, .row 3 1 (encI G))], 4, [], 68, 0⟩ : St)) (fun a : Nat × Int × List Sh × List Int => match a with | (k, n, L, G) => k ≤ l.length ∧ takeGoR (l.drop k) n L G = takeR l n0 ∧ L.length + G.length ≤ k) (fun a : Nat × Int × List Sh × List Int => match a with | (k, n, L, G) => l.length - k) (0, n0, [], []) (⟨Nat.zero_le _, by simp [takeR, hn], by simp⟩) (less_of rfl ⟨⟨rfl, rfl⟩, ⟨rfl, rfl⟩, ⟨rfl, rfl⟩, ⟨rfl, rfl⟩, ⟨rfl, rfl⟩, trivial⟩ ⟨⟨rfl, rfl, rfl⟩, ⟨rfl, rfl, rfl⟩, trivial⟩ (fun _ _ => .inr (Nat.zero_le _))) (fun a hI => ?_)
    obtain ⟨k, n, L, G⟩ := a
    show Walks Try.prog _ _ (⟨[(0, sS l full), (9, I k), (1, I n), (7, .ref 2 2 0 L.length), (8, .ref 3 1 0 G.length)], [(2, .row 31 2 (encS L)), (3, .row 3 1 (encI G))], 4, [], 68, 0⟩ : St)
    refine sem_seq ?_
    refine sem_seq ?_
    refine sem_region rfl ?_
    refine step_r rfl rfl trivial ?_
    refine step_r rfl rfl trivial ?_
    refine step_r rfl rfl trivial ?_
    refine step_bin rfl rfl rfl rfl rfl trivial ?_
    refine step_nil ?_
    refine seqK_n ?_
    refine sem_cond rfl (fun h4 => ?_) (fun h4 => ?_)
    · have hk : k < l.length := by simpa using h4
      obtain ⟨x, hx⟩ : ∃ x, l[k]? = some x := ⟨_, List.getElem?_eq_getElem hk⟩
      refine sem_skip ?_
      refine seqK_n ?_
      refine sem_seq ?_
      refine sem_block ?_
      refine sem_seq ?_
      refine sem_region rfl ?_
      refine step_r rfl rfl trivial ?_
      refine step_r rfl rfl trivial ?_
      refine step_idxS (k := k) rfl rfl rfl rfl hk (flat_ne encS_len (by decide) hk) rfl ?_
      refine step_r rfl rfl (by decide) ?_
      refine step_load_one rfl rfl rfl (flat_get encS_len hx (o := 1) rfl (by decide)) rfl ?_
      refine step_max rfl rfl rfl ?_
      refine step_r rfl rfl trivial ?_
      refine step_min rfl rfl rfl ?_
      refine step_r rfl rfl trivial ?_
      refine step_nil ?_
      refine seqK_n ?_
      refine sem_seq ?_
      refine sem_region rfl ?_
      refine step_r rfl rfl trivial ?_
      refine step_r rfl rfl trivial ?_
      refine step_bin rfl rfl rfl rfl rfl trivial ?_
      refine step_r rfl rfl trivial ?_
      refine step_nil ?_
      refine seqK_n ?_
      refine sem_seq ?_
      refine sem_region rfl ?_
      refine step_r rfl rfl trivial ?_
      refine step_r rfl rfl trivial ?_
      refine step_idxS (k := k) rfl rfl rfl rfl hk (flat_ne encS_len (by decide) hk) rfl ?_
      refine step_r rfl rfl (by decide) ?_
      refine step_load_one rfl rfl rfl (flat_get encS_len hx (o := 1) rfl (by decide)) rfl ?_
      refine step_r rfl rfl trivial ?_
      refine step_bin rfl rfl rfl rfl rfl trivial ?_
      refine step_bin rfl rfl rfl rfl rfl trivial ?_
      refine step_nil ?_
      refine seqK_n ?_
      refine sem_cond rfl (fun h8 => ?_) (fun h8 => ?_)
      · have hle : IntKind.i64.wrap (x.left - partOf x n) > 0 := of_decide_eq_true h8
        refine sem_drawn rfl (by decide +kernel) rfl ?_
        refine step_r rfl rfl trivial ?_
        refine step_r rfl rfl trivial ?_
        refine step_r rfl rfl trivial ?_
        refine step_idxS (k := k) rfl rfl rfl rfl hk (flat_ne encS_len (by decide) hk) rfl ?_
        refine step_r rfl rfl (by decide) ?_
        refine step_load_one rfl rfl rfl (flat_get encS_len hx (o := 0) rfl (by decide)) rfl ?_
        refine step_r rfl rfl trivial ?_
        refine step_r rfl rfl trivial ?_
        refine step_idxS (k := k) rfl rfl rfl rfl hk (flat_ne encS_len (by decide) hk) rfl ?_
        refine step_r rfl rfl (by decide) ?_
        refine step_load_one rfl rfl rfl (flat_get encS_len hx (o := 1) rfl (by decide)) rfl ?_
        refine step_r rfl rfl trivial ?_
        refine step_bin rfl rfl rfl rfl rfl trivial ?_
        refine step_r (v := (.agg [_, _])) rfl rfl trivial ?_
        refine step_n (o := .row _ _ [_, _]) (nx' := 5) rfl rfl rfl (by decide) ?_
        refine step_append (m := 1) (new := [_, _]) (H' := [(4, .row _ _ _), (2, .row _ _ _), (3, .row _ _ _)]) rfl rfl rfl rfl rfl rfl rfl rfl rfl rfl (flat_len encS_len L) (rfl) (by have := hI.2.2; unfold maxGrow; omega) (rfl) (.inr rfl) rfl rfl (.keep rfl (.keep rfl (.keep rfl .nil))) (.keep rfl (.keep rfl (.keep rfl (.keep rfl (.keep rfl (.keep rfl (.keep rfl (.keep rfl (.keep rfl (.keep rfl (.keep rfl (.keep rfl (.keep rfl (.keep rfl (.lose (v' := .undef) rfl (.keep rfl (.keep rfl (.keep rfl (.keep rfl (.keep rfl (.keep rfl (.keep rfl (.keep rfl (.keep rfl (.keep rfl (.keep rfl (.keep rfl (.keep rfl (.keep rfl (.keep rfl (.keep rfl (.keep rfl (.keep rfl (.keep rfl (.keep rfl (.keep rfl (.keep rfl (.keep rfl (.keep rfl (.keep rfl (.keep rfl (.keep rfl (.keep rfl (.lose (v' := .undef) rfl (.keep rfl .nil))))))))))))))))))))))))))))))))))))))))))))) ?_
        refine step_r rfl rfl trivial ?_
        refine step_nil ?_
        refine blkK_n ?_
        refine seqK_n ?_
        refine sem_region rfl ?_
        refine step_r rfl rfl trivial ?_
        refine step_bin rfl rfl rfl rfl rfl trivial ?_
        refine step_r rfl rfl trivial ?_
        refine step_nil ?_
        exact lup_again (k+1, _, L ++ [⟨x.aura, IntKind.i64.wrap (x.left - partOf x n)⟩], G) (⟨hk, by rw [← hI.2.1, drop_cons hx, takeGoR, if_pos hle]; rfl, by simp only [List.length_append, List.length_cons, List.length_nil]; omega⟩) (by show l.length - (k + 1) < l.length - k; omega) (less_of rfl ⟨⟨rfl, rfl⟩, ⟨congrArg (fun n => some (I n)) (wrap_nat hk (by omega)), rfl⟩, ⟨rfl, rfl⟩, ⟨congrArg (fun n => some (AV.ref 2 2 0 n)) (len_snoc L _), rfl⟩, ⟨rfl, rfl⟩, trivial⟩ ⟨⟨congrArg (fun c => some (VObj.row 31 2 c)) (flat_snoc (enc := encS1) (l := L) ⟨x.aura, IntKind.i64.wrap (x.left - partOf x n)⟩).symm, rfl, rfl⟩, ⟨rfl, rfl, rfl⟩, trivial⟩ (fun _ _ => .inr (Nat.zero_le _)))
      · have hle : ¬ IntKind.i64.wrap (x.left - partOf x n) > 0 := of_decide_eq_false h8
        refine sem_region rfl ?_
        refine step_r rfl rfl trivial ?_
        refine step_r rfl rfl trivial ?_
        refine step_r rfl rfl trivial ?_
        refine step_idxS (k := k) rfl rfl rfl rfl hk (flat_ne encS_len (by decide) hk) rfl ?_
        refine step_r rfl rfl (by decide) ?_
        refine step_load_one rfl rfl rfl (flat_get encS_len hx (o := 0) rfl (by decide)) rfl ?_
        refine step_n (o := .row _ _ [_]) (nx' := 5) rfl rfl rfl (by decide) ?_
        refine step_append (m := 1) (new := [_]) (H' := [(4, .row _ _ _), (2, .row _ _ _), (3, .row _ _ _)]) rfl rfl rfl rfl rfl rfl rfl rfl rfl rfl (encI_len G) (rfl) (by have := hI.2.2; unfold maxGrow; omega) (rfl) (.inl rfl) rfl rfl (.keep rfl (.keep rfl (.keep rfl .nil))) (.keep rfl (.keep rfl (.keep rfl (.keep rfl (.keep rfl (.keep rfl (.lose (v' := .undef) rfl (.keep rfl (.keep rfl (.keep rfl (.keep rfl (.keep rfl (.keep rfl (.keep rfl (.keep rfl (.keep rfl (.keep rfl (.keep rfl (.keep rfl (.keep rfl (.keep rfl (.keep rfl (.keep rfl (.keep rfl (.keep rfl (.keep rfl (.keep rfl (.keep rfl (.keep rfl (.keep rfl (.keep rfl (.keep rfl (.keep rfl (.keep rfl (.keep rfl (.keep rfl (.lose (v' := .undef) rfl .nil))))))))))))))))))))))))))))))))))))) ?_
        refine step_r rfl rfl trivial ?_
        refine step_nil ?_
        refine blkK_n ?_
        refine seqK_n ?_
        refine sem_region rfl ?_
        refine step_r rfl rfl trivial ?_
        refine step_bin rfl rfl rfl rfl rfl trivial ?_
        refine step_r rfl rfl trivial ?_
        refine step_nil ?_
        exact lup_again (k+1, _, L, G ++ [x.aura]) (⟨hk, by rw [← hI.2.1, drop_cons hx, takeGoR, if_neg hle]; rfl, by simp only [List.length_append, List.length_cons, List.length_nil]; omega⟩) (by show l.length - (k + 1) < l.length - k; omega) (less_of rfl ⟨⟨rfl, rfl⟩, ⟨congrArg (fun n => some (I n)) (wrap_nat hk (by omega)), rfl⟩, ⟨rfl, rfl⟩, ⟨rfl, rfl⟩, ⟨congrArg (fun n => some (AV.ref 3 1 0 n)) (len_snoc G _), rfl⟩, trivial⟩ ⟨⟨rfl, rfl, rfl⟩, ⟨congrArg (fun c => some (VObj.row 3 1 c)) (encI_snoc G _).symm, rfl, rfl⟩, trivial⟩ (fun _ _ => .inr (Nat.zero_le _)))
    · have hk : k = l.length := by have := of_decide_eq_false h4; have := hI.1; omega
      have e : takeR l n0 = (L, n, G) := by rw [← hI.2.1, hk]; simp [takeGoR]
      rw [e]
      refine sem_exit ?_
      refine seqK_e ?_
      refine lupK_e ?_
      refine blkK_t rfl ?_
      refine seqK_n ?_
      refine sem_seq ?_
      refine sem_region rfl ?_
      refine step_r rfl rfl trivial ?_
      refine step_r rfl rfl trivial ?_
      refine step_r rfl rfl trivial ?_
      refine step_r rfl rfl trivial ?_
      refine step_r rfl rfl trivial ?_
      refine step_r rfl rfl trivial ?_
      refine step_nil ?_
      refine seqK_n ?_
      refine sem_ret ?_
      exact answersNewR [2, 3] rfl (by simp) rfl rfl (by decide) rfl ⟨⟨rfl, rfl⟩, ⟨rfl, rfl⟩, trivial⟩

theorem small14_ok  : Ok Try.prog 10 [] [] (B true) [] [] := by
  refine ok_of_sem Try.func10 rfl ?_
  show Walks Try.prog _ _ ⟨[], [], 0, [], 39, 0⟩
  refine sem_seq ?_
  refine sem_region rfl ?_
  refine step_r rfl rfl trivial ?_
  refine step_nil ?_
  refine seqK_n ?_
  refine sem_seq ?_
  refine sem_region rfl ?_
  refine step_r (v := (.agg [_, _])) rfl rfl trivial ?_
  refine step_r (v := (.agg [_, _])) rfl rfl trivial ?_
  refine step_n (o := .row _ _ [_, _, _, _]) (nx' := 1) rfl rfl rfl (by decide) ?_
  refine step_callB (Hin := [.row _ _ _]) (out' := .tup [.ref 1 _ _ _, _, .ref 2 _ _ _]) (H' := [(1, .row _ _ _), (2, .row _ _ _), (0, .row _ _ _)]) (nx' := 3) [0] rfl rfl rfl rfl rfl rfl rfl rfl (by (repeat' apply And.intro) <;> first | trivial | rfl | exact flat_len encS_len _ | exact encI_len _) (take_ok [⟨1, 5⟩, ⟨2, 10⟩] 8 false (by decide)) rfl (by decide) rfl rfl rfl ⟨encS_solid, encI_solid, trivial⟩ rfl rfl rfl rfl ?_
  refine step_r rfl rfl trivial ?_
  refine step_r rfl rfl trivial ?_
  refine step_r rfl rfl trivial ?_
  refine step_r rfl rfl trivial ?_
  refine step_r rfl rfl trivial ?_
  refine step_r rfl rfl trivial ?_
  refine step_r rfl rfl trivial ?_
  refine step_nil ?_
  refine seqK_n ?_
  refine sem_seq ?_
  refine sem_region rfl ?_
  refine step_r rfl rfl trivial ?_
  refine step_r (v := (.agg [_, _])) rfl rfl trivial ?_
  refine step_n (o := .row _ _ [_, _]) (nx' := 4) rfl rfl rfl (by decide) ?_
  refine step_callB (Hin := [.row _ _ _, .row _ _ _]) (H' := [(3, .row _ _ _), (1, .row _ _ _), (2, .row _ _ _), (0, .row _ _ _)]) (nx' := 4) [1, 3] rfl rfl rfl rfl rfl rfl rfl rfl (by (repeat' apply And.intro) <;> first | trivial | rfl | exact flat_len encS_len _ | exact encI_len _) (same14_ok _ [⟨2, 7⟩] false false (by decide +kernel)) rfl (by decide) rfl rfl rfl trivial rfl rfl rfl rfl ?_
  refine step_r rfl rfl trivial ?_
  refine step_gs rfl (fun h3 => ?_) (fun h3 => ?_)
  · skip
    refine step_g1 rfl h3 ?_
    refine step_r rfl rfl trivial ?_
    refine step_g1 rfl h3 ?_
    refine step_bin rfl rfl rfl rfl rfl trivial ?_
    refine step_pickT rfl h3 rfl rfl ?_
    refine step_r rfl rfl trivial ?_
    refine step_gs rfl (fun h5 => ?_) (fun h5 => ?_)
    · skip
      refine step_g1 rfl h5 ?_
      refine step_r rfl rfl trivial ?_
      refine step_g1 rfl h5 ?_
      refine step_n (o := .row _ _ [_]) (nx' := 5) rfl rfl rfl (by decide) ?_
      refine step_g1 rfl h5 ?_
      refine step_callB (Hin := [.row _ _ _, .row _ _ _]) (H' := [(4, .row _ _ _), (3, .row _ _ _), (1, .row _ _ _), (2, .row _ _ _), (0, .row _ _ _)]) (nx' := 5) [2, 4] rfl rfl rfl rfl rfl rfl rfl rfl (by (repeat' apply And.intro) <;> first | trivial | rfl | exact flat_len encS_len _ | exact encI_len _) (same02_ok _ [1] false false (by decide +kernel)) rfl (by decide) rfl rfl rfl trivial rfl rfl rfl rfl ?_
      refine step_pickT rfl h5 rfl rfl ?_
      refine step_r rfl rfl trivial ?_
      refine step_gs rfl (fun h7 => ?_) (fun h7 => ?_)
      · skip
        refine step_g1 rfl h7 ?_
        refine step_call rfl rfl rfl rfl (more_ok 50 (-20)) rfl rfl rfl ?_
        refine step_g1 rfl h7 ?_
        refine step_bin rfl rfl rfl rfl rfl trivial ?_
        refine step_pickT rfl h7 rfl rfl ?_
        refine step_r rfl rfl trivial ?_
        refine step_gs rfl (fun h9 => ?_) (fun h9 => ?_)
        · skip
          refine step_g1 rfl h9 ?_
          refine step_n (o := .row _ _ [_, _]) (nx' := 6) rfl rfl rfl (by decide) ?_
          refine step_g1 rfl h9 ?_
          refine step_callB (Hin := [.row _ _ _]) (H' := [(5, .row _ _ _), (4, .row _ _ _), (3, .row _ _ _), (1, .row _ _ _), (2, .row _ _ _), (0, .row _ _ _)]) (nx' := 6) [5] rfl rfl rfl rfl rfl rfl rfl rfl (by (repeat' apply And.intro) <;> first | trivial | rfl | exact flat_len encS_len _ | exact encI_len _) (all_ok 100 [50, -50] false (by decide)) rfl (by decide) rfl rfl rfl trivial rfl rfl rfl rfl ?_
          refine step_g1 rfl h9 ?_
          refine step_bin rfl rfl rfl rfl rfl trivial ?_
          refine step_pickT rfl h9 rfl rfl ?_
          refine step_r rfl rfl trivial ?_
          refine step_gs rfl (fun h11 => ?_) (fun h11 => ?_)
          · skip
            refine step_g1 rfl h11 ?_
            refine step_r rfl rfl trivial ?_
            refine step_g1 rfl h11 ?_
            refine step_callB (Hin := [.row _ _ _]) (H' := [(5, .row _ _ _), (4, .row _ _ _), (3, .row _ _ _), (1, .row _ _ _), (2, .row _ _ _), (0, .row _ _ _)]) (nx' := 6) [1] rfl rfl rfl rfl rfl rfl rfl rfl (by (repeat' apply And.intro) <;> first | trivial | rfl | exact flat_len encS_len _ | exact encI_len _) (left_ok _ false (by decide +kernel)) rfl (by decide) rfl rfl rfl trivial rfl rfl rfl rfl ?_
            refine step_g1 rfl h11 ?_
            refine step_bin rfl rfl rfl rfl rfl trivial ?_
            refine step_pickT rfl h11 rfl rfl ?_
            refine step_r rfl rfl trivial ?_
            refine step_nil ?_
            refine seqK_n ?_
            refine sem_ret ?_
            exact answersR rfl (by simp) (congrArg B (by decide +kernel)) rfl
          · exact absurd h11 (by decide +kernel)
        · exact absurd h9 (by decide +kernel)
      · exact absurd h7 (by decide +kernel)
    · exact absurd h5 (by decide +kernel)
  · exact absurd h3 (by decide +kernel)

/-! plain laws -/
theorem addM_eq {a b : Int} (ha : InR a) (hb : InR b) : addM a b = max (min (a + b) 9223372036854775807) (-9223372036854775808) := by
  unfold InR at ha hb
  simp only [addM, IntKind.wrap_i64]
  split
  · omega
  · split <;> omega
theorem addR_eq {a b : Int} (ha : InR a) (hb : InR b) : addR a b = max (min (a + b) 9223372036854775807) (-9223372036854775808) := by
  unfold InR at ha hb
  simp only [addR, IntKind.wrap_i64]
  split
  · omega
  · split <;> omega
theorem add_same {a b : Int} (ha : InR a) (hb : InR b) : addM a b = addR a b := by rw [addM_eq ha hb, addR_eq ha hb]
theorem addM_in {a b : Int} (ha : InR a) (hb : InR b) : InR (addM a b) := by rw [addM_eq ha hb]; unfold InR; omega
theorem clamp_same (a b d : Int) : clampM a b d = clampR a b d := by
  unfold clampM clampR
  split
  · omega
  · split <;> omega
theorem part_same (a b d : Int) : partM a b d = partR a b d := by
  unfold partM partR sideM sideR; simp only [clamp_same]
theorem more_same {n p : Int} (hp : InR p) : moreM n p = moreR n p := by
  unfold moreM moreR; rw [part_same, add_same (by unfold InR; omega) hp]
theorem all_same {n : Int} {l : List Int} (h : ∀ x ∈ l, InR x) : allM n l = allR n l := by
  unfold allM allR
  induction l generalizing n with
  | nil => rfl
  | cons x l ih => simp only [List.foldl_cons]; rw [more_same (h x (by simp)), ih (fun y hy => h y (List.mem_cons_of_mem _ hy))]


theorem shieldParts_ok (n : Int) (l : List Int) (full : Bool) (hls : ∀ x ∈ l, InR x) : Ok Try.prog 4 [I n, sI l full] [] (B true) [] [] := by
  refine ok_of_sem Try.func4 rfl ?_
  show Walks Try.prog _ _ ⟨[(0, I n), (1, sI l full)], [], 0, [], 37, 0⟩
  refine sem_seq ?_
  refine sem_region rfl ?_
  refine step_r rfl rfl trivial ?_
  refine step_nil ?_
  refine seqK_n ?_
  refine sem_seq ?_
  refine sem_region rfl ?_
  refine step_call rfl rfl rfl rfl (small14_ok) rfl rfl rfl ?_
  refine step_r rfl rfl trivial ?_
  refine step_nil ?_
  refine seqK_n ?_
  refine sem_seq ?_
  refine sem_seq ?_
  refine sem_region rfl ?_
  refine step_r rfl rfl trivial ?_
  refine step_r rfl rfl trivial ?_
  refine step_bin rfl rfl rfl rfl rfl trivial ?_
  refine step_nil ?_
  refine seqK_n ?_
  refine sem_cond rfl (fun h1 => ?_) (fun h1 => ?_)
  · skip
    refine sem_seq ?_
    refine sem_region rfl ?_
    refine step_r rfl rfl trivial ?_
    refine step_r rfl rfl trivial ?_
    refine step_nil ?_
    refine seqK_n ?_
    refine sem_ret ?_
    refine seqK_r ?_
    exact answersR rfl (by simp) (rfl) rfl
  · have hl : l.length ≤ 200 := by have := of_decide_eq_false h1; omega
    have hl2 : l.length ≤ 4611686018427387904 := by omega
    refine sem_skip ?_
    refine seqK_n ?_
    refine sem_seq ?_
    refine sem_region rfl ?_
    refine step_r rfl rfl trivial ?_
    refine step_nil ?_
    refine seqK_n ?_
    refine sem_seq ?_
    refine sem_seq ?_
    refine sem_region rfl ?_
    refine step_r rfl rfl trivial ?_
    refine step_r rfl rfl trivial ?_
    refine step_bin rfl rfl rfl rfl rfl trivial ?_
    refine step_nil ?_
    refine seqK_n ?_
    refine sem_cond rfl (fun h2 => ?_) (fun h2 => ?_)
    · have hk : 0 < l.length := by have := of_decide_eq_true h2; omega
      obtain ⟨x, hx⟩ : ∃ x, l[0]? = some x := ⟨_, List.getElem?_eq_getElem hk⟩
      have hp : InR x := hls x (List.mem_of_getElem? hx)
      refine sem_region rfl ?_
      refine step_r rfl rfl trivial ?_
      refine step_idxS (k := 0) rfl rfl rfl rfl hk (encI_ne hk) rfl ?_
      refine step_load_one rfl rfl rfl (encI_get hx) rfl ?_
      refine step_r rfl rfl trivial ?_
      refine step_nil ?_
      refine seqK_n ?_
      refine sem_seq ?_
      refine sem_region rfl ?_
      refine step_r rfl rfl trivial ?_
      refine step_r rfl rfl trivial ?_
      refine step_gt rfl ?_
      refine step_r rfl rfl trivial ?_
      refine step_gt rfl ?_
      refine step_r rfl rfl trivial ?_
      refine step_gt rfl ?_
      refine step_call rfl rfl rfl rfl (all_ok _ _ _ (by assumption)) rfl rfl rfl ?_
      refine step_gt rfl ?_
      refine step_r rfl rfl trivial ?_
      refine step_gt rfl ?_
      refine step_r rfl rfl trivial ?_
      refine step_gt rfl ?_
      refine step_call rfl rfl rfl rfl (allR_ok _ _ _ (by assumption)) rfl rfl rfl ?_
      refine step_gt rfl ?_
      refine step_bin rfl rfl rfl rfl rfl trivial ?_
      refine step_r rfl rfl trivial ?_
      refine step_r rfl rfl trivial ?_
      refine step_gs rfl (fun h6 => ?_) (fun h6 => ?_)
      · skip
        refine step_g1 rfl h6 ?_
        refine step_r rfl rfl trivial ?_
        refine step_g1 rfl h6 ?_
        refine step_r rfl rfl trivial ?_
        refine step_g1 rfl h6 ?_
        refine step_call rfl rfl rfl rfl (more_ok _ _) rfl rfl rfl ?_
        refine step_g1 rfl h6 ?_
        refine step_r rfl rfl trivial ?_
        refine step_g1 rfl h6 ?_
        refine step_r rfl rfl trivial ?_
        refine step_g1 rfl h6 ?_
        refine step_call rfl rfl rfl rfl (moreR_ok _ _) rfl rfl rfl ?_
        refine step_g1 rfl h6 ?_
        refine step_bin rfl rfl rfl rfl rfl trivial ?_
        refine step_pickT rfl h6 rfl rfl ?_
        refine step_r rfl rfl trivial ?_
        refine step_nil ?_
        refine seqK_n ?_
        refine sem_ret ?_
        exact answersR rfl (by simp) (congrArg B (by rw [more_same hp]; simp)) rfl
      · rw [all_same hls] at h6; simp at h6
    · have hp : InR 0 := by unfold InR; omega
      refine sem_skip ?_
      refine seqK_n ?_
      refine sem_seq ?_
      refine sem_region rfl ?_
      refine step_r rfl rfl trivial ?_
      refine step_r rfl rfl trivial ?_
      refine step_gt rfl ?_
      refine step_r rfl rfl trivial ?_
      refine step_gt rfl ?_
      refine step_r rfl rfl trivial ?_
      refine step_gt rfl ?_
      refine step_call rfl rfl rfl rfl (all_ok _ _ _ (by assumption)) rfl rfl rfl ?_
      refine step_gt rfl ?_
      refine step_r rfl rfl trivial ?_
      refine step_gt rfl ?_
      refine step_r rfl rfl trivial ?_
      refine step_gt rfl ?_
      refine step_call rfl rfl rfl rfl (allR_ok _ _ _ (by assumption)) rfl rfl rfl ?_
      refine step_gt rfl ?_
      refine step_bin rfl rfl rfl rfl rfl trivial ?_
      refine step_r rfl rfl trivial ?_
      refine step_r rfl rfl trivial ?_
      refine step_gs rfl (fun h10 => ?_) (fun h10 => ?_)
      · skip
        refine step_g1 rfl h10 ?_
        refine step_r rfl rfl trivial ?_
        refine step_g1 rfl h10 ?_
        refine step_r rfl rfl trivial ?_
        refine step_g1 rfl h10 ?_
        refine step_call rfl rfl rfl rfl (more_ok _ _) rfl rfl rfl ?_
        refine step_g1 rfl h10 ?_
        refine step_r rfl rfl trivial ?_
        refine step_g1 rfl h10 ?_
        refine step_r rfl rfl trivial ?_
        refine step_g1 rfl h10 ?_
        refine step_call rfl rfl rfl rfl (moreR_ok _ _) rfl rfl rfl ?_
        refine step_g1 rfl h10 ?_
        refine step_bin rfl rfl rfl rfl rfl trivial ?_
        refine step_pickT rfl h10 rfl rfl ?_
        refine step_r rfl rfl trivial ?_
        refine step_nil ?_
        refine seqK_n ?_
        refine sem_ret ?_
        exact answersR rfl (by simp) (congrArg B (by rw [more_same hp]; simp)) rfl
      · rw [all_same hls] at h10; simp at h10

theorem left_same {l : List Sh} (h : ∀ x ∈ l, InR x.left) : leftM l = leftR l := by
  unfold leftM leftR
  have key : ∀ (l : List Sh) (a : Int), (∀ x ∈ l, InR x.left) → InR a → l.foldl (fun n x => addM n (max x.left 0)) a = l.foldl (fun n x => addR n (max x.left 0)) a := by
    intro l
    induction l with
    | nil => intros; rfl
    | cons x l ih =>
      intro a h ha
      have hx : InR (max x.left 0) := by have := h x (by simp); unfold InR at *; omega
      simp only [List.foldl_cons]
      rw [← add_same ha hx]
      exact ih _ (fun y hy => h y (List.mem_cons_of_mem _ hy)) (addM_in ha hx)
  exact key l 0 h (by unfold InR; omega)
theorem take_step {x : Sh} {n : Int} (hx : InR x.left) (hn : InR n) (h0 : 0 ≤ n) : clampM n 0 (max x.left 0) = partOf x n ∧ IntKind.i64.wrap (n - partOf x n) = n - partOf x n ∧ IntKind.i64.wrap (x.left - partOf x n) = x.left - partOf x n ∧ 0 ≤ partOf x n ∧ partOf x n ≤ n ∧ partOf x n ≤ max x.left 0 := by
  unfold InR at hx hn
  unfold clampM partOf
  simp only [IntKind.wrap_i64]
  omega
theorem takeGo_same : ∀ {l : List Sh} {n : Int} {L : List Sh} {G : List Int}, (∀ x ∈ l, InR x.left) → InR n → 0 ≤ n → takeGo l n L G = takeGoR l n L G
  | [], _, _, _, _, _, _ => rfl
  | x :: l, n, L, G, h, hn, h0 => by
    obtain ⟨e1, e2, e3, e4, e5, e6⟩ := take_step (h x (by simp)) hn h0
    have hn' : InR (n - partOf x n) := by unfold InR at *; omega
    have hl := fun y (hy : y ∈ l) => h y (List.mem_cons_of_mem x hy)
    simp only [takeGo, takeGoR, e1, e2, e3]
    by_cases hle : x.left ≤ partOf x n
    · rw [if_pos hle, if_neg (by omega)]
      exact takeGo_same hl hn' (by omega)
    · rw [if_neg hle, if_pos (by omega)]
      exact takeGo_same hl hn' (by omega)
theorem take_same {l : List Sh} {n : Int} (h : ∀ x ∈ l, InR x.left) (hn : InR n) : takeM l n = takeR l n := by
  unfold takeM takeR
  split
  · rfl
  · exact takeGo_same h hn (by omega)
theorem takeGo_len : ∀ {l : List Sh} {n : Int} {L : List Sh} {G : List Int}, (takeGo l n L G).1.length + (takeGo l n L G).2.2.length = l.length + L.length + G.length
  | [], _, _, _ => by simp [takeGo]
  | x :: l, n, L, G => by
    simp only [takeGo]
    split
    · rw [takeGo_len]; simp; omega
    · rw [takeGo_len]; simp; omega
theorem takeM_len (l : List Sh) (n : Int) : (takeM l n).1.length + (takeM l n).2.2.length = l.length := by
  unfold takeM
  split
  · simp
  · rw [takeGo_len]; simp


theorem shieldTakes_ok (l : List Sh) (n : Int) (full : Bool) (hls : ∀ x ∈ l, InR x.left) (hn : InR n) : Ok Try.prog 3 [sS l full, I n] [] (B true) [] [] := by
  refine ok_of_sem Try.func3 rfl ?_
  show Walks Try.prog _ _ ⟨[(0, sS l full), (1, I n)], [], 0, [], 76, 0⟩
  refine sem_seq ?_
  refine sem_region rfl ?_
  refine step_r rfl rfl trivial ?_
  refine step_nil ?_
  refine seqK_n ?_
  refine sem_seq ?_
  refine sem_region rfl ?_
  refine step_call rfl rfl rfl rfl (small14_ok) rfl rfl rfl ?_
  refine step_r rfl rfl trivial ?_
  refine step_nil ?_
  refine seqK_n ?_
  refine sem_seq ?_
  refine sem_seq ?_
  refine sem_region rfl ?_
  refine step_r rfl rfl trivial ?_
  refine step_r rfl rfl trivial ?_
  refine step_bin rfl rfl rfl rfl rfl trivial ?_
  refine step_nil ?_
  refine seqK_n ?_
  refine sem_cond rfl (fun h1 => ?_) (fun h1 => ?_)
  · skip
    refine sem_seq ?_
    refine sem_region rfl ?_
    refine step_r rfl rfl trivial ?_
    refine step_r rfl rfl trivial ?_
    refine step_nil ?_
    refine seqK_n ?_
    refine sem_ret ?_
    refine seqK_r ?_
    exact answersR rfl (by simp) (rfl) rfl
  · have hl : l.length ≤ 200 := by have := of_decide_eq_false h1; omega
    have htl := takeM_len l n
    refine sem_skip ?_
    refine seqK_n ?_
    refine sem_seq ?_
    refine sem_region rfl ?_
    refine step_n (o := .row _ _ []) (nx' := 1) rfl rfl rfl (by decide) ?_
    refine step_r rfl rfl trivial ?_
    refine step_append (m := l.length) (new := encS l) (H' := [(0, .row _ _ _)]) rfl rfl rfl rfl rfl rfl rfl rfl rfl rfl (rfl) (flat_len encS_len l) (by unfold maxGrow; omega) (Nat.zero_add _) (.inl rfl) rfl rfl (.keep rfl .nil) (.keep rfl (.lose (v' := .undef) rfl (.keep rfl (.keep rfl (.keep rfl (.keep rfl (.keep rfl (.keep rfl (.keep rfl (.keep rfl .nil)))))))))) ?_
    refine step_r rfl rfl trivial ?_
    refine step_nil ?_
    refine seqK_n ?_
    refine sem_seq ?_
    refine sem_region rfl ?_
    refine step_r rfl rfl trivial ?_
    refine step_r rfl rfl trivial ?_
    refine step_callB (Hin := [.row _ _ _]) (out' := .tup [.ref 1 _ _ _, _, .ref 2 _ _ _]) (H' := [(1, .row _ _ _), (2, .row _ _ _), (0, .row _ _ _)]) (nx' := 3) [0] rfl rfl rfl rfl rfl rfl rfl rfl (by (repeat' apply And.intro) <;> first | trivial | rfl | exact flat_len encS_len _ | exact encI_len _) (take_ok l n false (by omega)) rfl (by decide) rfl rfl rfl ⟨encS_solid, encI_solid, trivial⟩ rfl rfl rfl rfl ?_
    refine step_r rfl rfl trivial ?_
    refine step_r rfl rfl trivial ?_
    refine step_r rfl rfl trivial ?_
    refine step_r rfl rfl trivial ?_
    refine step_r rfl rfl trivial ?_
    refine step_r rfl rfl trivial ?_
    refine step_r rfl rfl trivial ?_
    refine step_nil ?_
    refine seqK_n ?_
    refine sem_seq ?_
    refine sem_region rfl ?_
    refine step_r rfl rfl trivial ?_
    refine step_r rfl rfl trivial ?_
    refine step_callB (Hin := []) (out' := .tup [.ref 3 _ _ _, _, .ref 4 _ _ _]) (H' := [(3, .row _ _ _), (4, .row _ _ _), (1, .row _ _ _), (2, .row _ _ _), (0, .row _ _ _)]) (nx' := 5) [] rfl rfl rfl rfl rfl rfl rfl rfl (by (repeat' apply And.intro) <;> first | trivial | rfl | exact flat_len encS_len _ | exact encI_len _) (takeR_ok l n full (by omega)) rfl (by decide) rfl rfl rfl ⟨encS_solid, encI_solid, trivial⟩ rfl rfl rfl rfl ?_
    refine step_r rfl rfl trivial ?_
    refine step_r rfl rfl trivial ?_
    refine step_r rfl rfl trivial ?_
    refine step_r rfl rfl trivial ?_
    refine step_r rfl rfl trivial ?_
    refine step_r rfl rfl trivial ?_
    refine step_r rfl rfl trivial ?_
    refine step_nil ?_
    refine seqK_n ?_
    refine sem_seq ?_
    refine sem_region rfl ?_
    refine step_r rfl rfl trivial ?_
    refine step_r rfl rfl trivial ?_
    refine step_callB (Hin := [.row _ _ _, .row _ _ _]) (H' := [(3, .row _ _ _), (4, .row _ _ _), (1, .row _ _ _), (2, .row _ _ _), (0, .row _ _ _)]) (nx' := 5) [1, 3] rfl rfl rfl rfl rfl rfl rfl rfl (by (repeat' apply And.intro) <;> first | trivial | rfl | exact flat_len encS_len _ | exact encI_len _) (same14_ok (takeM l n).1 (takeR l n).1 false false (by omega)) rfl (by decide) rfl rfl rfl trivial rfl rfl rfl rfl ?_
    refine step_r rfl rfl trivial ?_
    refine step_gs rfl (fun h6 => ?_) (fun h6 => ?_)
    · skip
      refine step_g1 rfl h6 ?_
      refine step_r rfl rfl trivial ?_
      refine step_g1 rfl h6 ?_
      refine step_r rfl rfl trivial ?_
      refine step_g1 rfl h6 ?_
      refine step_bin rfl rfl rfl rfl rfl trivial ?_
      refine step_pickT rfl h6 rfl rfl ?_
      refine step_r rfl rfl trivial ?_
      refine step_gs rfl (fun h8 => ?_) (fun h8 => ?_)
      · skip
        refine step_g1 rfl h8 ?_
        refine step_r rfl rfl trivial ?_
        refine step_g1 rfl h8 ?_
        refine step_r rfl rfl trivial ?_
        refine step_g1 rfl h8 ?_
        refine step_callB (Hin := [.row _ _ _, .row _ _ _]) (H' := [(3, .row _ _ _), (4, .row _ _ _), (1, .row _ _ _), (2, .row _ _ _), (0, .row _ _ _)]) (nx' := 5) [2, 4] rfl rfl rfl rfl rfl rfl rfl rfl (by (repeat' apply And.intro) <;> first | trivial | rfl | exact flat_len encS_len _ | exact encI_len _) (same02_ok (takeM l n).2.2 (takeR l n).2.2 false false (by omega)) rfl (by decide) rfl rfl rfl trivial rfl rfl rfl rfl ?_
        refine step_pickT rfl h8 rfl rfl ?_
        refine step_r rfl rfl trivial ?_
        refine step_gs rfl (fun h10 => ?_) (fun h10 => ?_)
        · skip
          refine step_g1 rfl h10 ?_
          refine step_r rfl rfl trivial ?_
          refine step_g1 rfl h10 ?_
          refine step_callB (Hin := [.row _ _ _]) (H' := [(3, .row _ _ _), (4, .row _ _ _), (1, .row _ _ _), (2, .row _ _ _), (0, .row _ _ _)]) (nx' := 5) [0] rfl rfl rfl rfl rfl rfl rfl rfl (by (repeat' apply And.intro) <;> first | trivial | rfl | exact flat_len encS_len _ | exact encI_len _) (left_ok l false (by omega)) rfl (by decide) rfl rfl rfl trivial rfl rfl rfl rfl ?_
          refine step_g1 rfl h10 ?_
          refine step_r rfl rfl trivial ?_
          refine step_g1 rfl h10 ?_
          refine step_call rfl rfl rfl rfl (leftR_ok l full (by omega)) rfl rfl rfl ?_
          refine step_g1 rfl h10 ?_
          refine step_bin rfl rfl rfl rfl rfl trivial ?_
          refine step_pickT rfl h10 rfl rfl ?_
          refine step_r rfl rfl trivial ?_
          refine step_nil ?_
          refine seqK_n ?_
          refine sem_seq ?_
          refine sem_seq ?_
          refine sem_region rfl ?_
          refine step_r rfl rfl trivial ?_
          refine step_nil ?_
          refine seqK_n ?_
          refine sem_block ?_
          refine sem_loop_of (fun a : Nat × List PV => match a with | (k, cs) => (⟨[(0, sS l full), (5, B true), (6, .ref 0 2 0 l.length), (7, .ref 1 2 0 (takeM l n).1.length), (13, B true), (14, I k)], [(0, .row 31 2 (encS l)), (1, .row 31 2 cs)], 2, [], 76, 0⟩ : St)) (fun a : Nat × List PV => match a with | (k, cs) => k ≤ (takeM l n).1.length ∧ cs.length = (takeM l n).1.length * 2) (fun a : Nat × List PV => match a with | (k, cs) => (takeM l n).1.length - k) (0, encS (takeM l n).1) (⟨Nat.zero_le _, flat_len encS_len _⟩) (less_of rfl ⟨⟨rfl, rfl⟩, ⟨rfl, rfl⟩, ⟨rfl, rfl⟩, ⟨rfl, rfl⟩, ⟨congrArg (fun b => some (B b)) (by rw [left_same hls]; simp), rfl⟩, ⟨rfl, rfl⟩, trivial⟩ ⟨⟨rfl, rfl, rfl⟩, ⟨rfl, rfl, rfl⟩, trivial⟩ (fun _ _ => .inr (Nat.zero_le _))) (fun a hI => ?_)
          obtain ⟨k, cs⟩ := a
          show Walks Try.prog _ _ (⟨[(0, sS l full), (5, B true), (6, .ref 0 2 0 l.length), (7, .ref 1 2 0 (takeM l n).1.length), (13, B true), (14, I k)], [(0, .row 31 2 (encS l)), (1, .row 31 2 cs)], 2, [], 76, 0⟩ : St)
          refine sem_seq ?_
          refine sem_seq ?_
          refine sem_region rfl ?_
          refine step_r rfl rfl trivial ?_
          refine step_r rfl rfl trivial ?_
          refine step_r rfl rfl trivial ?_
          refine step_bin rfl rfl rfl rfl rfl trivial ?_
          refine step_nil ?_
          refine seqK_n ?_
          refine sem_cond rfl (fun h13 => ?_) (fun h13 => ?_)
          · have hk : k < (takeM l n).1.length := by have := of_decide_eq_true h13; omega
            have hcl := hI.2
            refine sem_skip ?_
            refine seqK_n ?_
            refine sem_seq ?_
            refine sem_block ?_
            refine sem_region rfl ?_
            refine step_r rfl rfl trivial ?_
            refine step_r rfl rfl trivial ?_
            refine step_idxR (k := k) rfl rfl rfl rfl hk rfl ?_
            refine step_r rfl rfl (by decide) ?_
            refine step_storeR rfl rfl rfl rfl (by show k * 2 + 1 < cs.length; omega) rfl (.inl rfl) rfl ?_
            refine step_nil ?_
            refine blkK_n ?_
            refine seqK_n ?_
            refine sem_region rfl ?_
            refine step_r rfl rfl trivial ?_
            refine step_bin rfl rfl rfl rfl rfl trivial ?_
            refine step_r rfl rfl trivial ?_
            refine step_nil ?_
            exact lup_again (k+1, _) (⟨hk, by rw [List.length_set]; exact hI.2⟩) (by show (takeM l n).1.length - (k + 1) < (takeM l n).1.length - k; omega) (less_of rfl ⟨⟨rfl, rfl⟩, ⟨rfl, rfl⟩, ⟨rfl, rfl⟩, ⟨rfl, rfl⟩, ⟨rfl, rfl⟩, ⟨congrArg (fun n => some (I n)) (wrap_nat hk (by omega)), rfl⟩, trivial⟩ ⟨⟨rfl, rfl, rfl⟩, ⟨rfl, rfl, rfl⟩, trivial⟩ (fun _ _ => .inr (Nat.zero_le _)))
          · skip
            refine sem_exit ?_
            refine seqK_e ?_
            refine lupK_e ?_
            refine blkK_t rfl ?_
            refine seqK_n ?_
            refine sem_seq ?_
            refine sem_region rfl ?_
            refine step_r rfl rfl trivial ?_
            refine step_r rfl rfl trivial ?_
            refine step_gt rfl ?_
            refine step_r rfl rfl trivial ?_
            refine step_r rfl rfl trivial ?_
            refine step_r rfl rfl trivial ?_
            refine step_gt rfl ?_
            refine step_r rfl rfl trivial ?_
            refine step_gt rfl ?_
            refine step_r rfl rfl trivial ?_
            refine step_gt rfl ?_
            refine step_callB (Hin := [.row _ _ _]) (H' := [(0, .row _ _ _), (1, .row _ _ _)]) (nx' := 2) [0] rfl rfl rfl rfl rfl rfl rfl rfl (by (repeat' apply And.intro) <;> first | trivial | rfl | exact flat_len encS_len _ | exact encI_len _) (same14_ok l l false full (by omega)) rfl (by decide) rfl rfl rfl trivial rfl rfl rfl rfl ?_
            refine step_r rfl rfl trivial ?_
            refine step_r rfl rfl trivial ?_
            refine step_nil ?_
            refine seqK_n ?_
            refine sem_ret ?_
            exact answersR rfl (by simp) (congrArg B (by simp)) rfl
        · rw [take_same hls hn] at h10; simp at h10
      · rw [take_same hls hn] at h8; simp at h8
    · rw [take_same hls hn] at h6; simp at h6

/-! sums -/
def sumL : List Sh → Int
  | [] => 0
  | x :: l => x.left + sumL l
def Fit (l : List Sh) : Prop := ∀ x ∈ l, 0 ≤ x.left ∧ x.left ≤ 1000000
theorem sumL_bound : ∀ {l : List Sh}, Fit l → 0 ≤ sumL l ∧ sumL l ≤ l.length * 1000000
  | [], _ => by simp [sumL]
  | x :: l, h => by
    have h1 := h x (by simp)
    have h2 := sumL_bound (fun y hy => h y (List.mem_cons_of_mem _ hy))
    simp only [sumL, List.length_cons]
    omega
theorem sumL_append : ∀ (a b : List Sh), sumL (a ++ b) = sumL a + sumL b
  | [], b => by simp [sumL]
  | x :: a, b => by simp only [List.cons_append, sumL, sumL_append a b]; omega
theorem leftM_sum {l : List Sh} (h : Fit l) (hl : l.length ≤ 200) : leftM l = sumL l := by
  unfold leftM
  have key : ∀ (l : List Sh) (a : Int), Fit l → 0 ≤ a → a + l.length * 1000000 ≤ 1000000000 → l.foldl (fun n x => addM n (max x.left 0)) a = a + sumL l := by
    intro l
    induction l with
    | nil => intros; simp [sumL]
    | cons x l ih =>
      intro a h ha hb
      have hx := h x (by simp)
      simp only [List.length_cons] at hb
      have e : addM a (max x.left 0) = a + x.left := by
        rw [addM_eq (by unfold InR; omega) (by unfold InR; omega)]; omega
      simp only [List.foldl_cons, e, sumL]
      rw [ih _ (fun y hy => h y (List.mem_cons_of_mem _ hy)) (by omega) (by omega)]
      omega
  rw [key l 0 h (by omega) (by omega)]; omega
theorem takeGo_sum : ∀ {l : List Sh} {n : Int} {L : List Sh} {G : List Int}, Fit l → Fit L → 0 ≤ n → n ≤ 1000000 →
    Fit (takeGo l n L G).1 ∧ 0 ≤ (takeGo l n L G).2.1 ∧ (takeGo l n L G).2.1 ≤ n ∧ sumL L + sumL l - sumL (takeGo l n L G).1 = n - (takeGo l n L G).2.1 ∧ ((takeGo l n L G).2.1 = 0 ∨ sumL (takeGo l n L G).1 = sumL L)
  | [], n, L, G, _, hL, h0, _ => ⟨hL, h0, Int.le_refl _, by simp only [takeGo, sumL]; omega, .inr rfl⟩
  | x :: l, n, L, G, h, hL, h0, h1 => by
    have hx := h x (by simp)
    obtain ⟨e1, e2, e3, e4, e5, e6⟩ := take_step (x := x) (n := n) (by unfold InR; omega) (by unfold InR; omega) h0
    have hl : Fit l := fun y hy => h y (List.mem_cons_of_mem _ hy)
    have ep : partOf x n = min x.left n := by unfold partOf; omega
    simp only [takeGo, e1, e2, e3, sumL]
    by_cases hle : x.left ≤ partOf x n
    · rw [if_pos hle]
      obtain ⟨a1, a2, a3, a4, a5⟩ := takeGo_sum (G := G ++ [x.aura]) hl hL (show 0 ≤ n - partOf x n by omega) (by omega)
      refine ⟨a1, a2, by omega, by omega, ?_⟩
      rcases a5 with a5 | a5
      · exact .inl a5
      · exact .inr a5
    · rw [if_neg hle]
      have hL' : Fit (L ++ [⟨x.aura, x.left - partOf x n⟩]) := fun y hy => by
        rcases List.mem_append.1 hy with hy | hy
        · exact hL y hy
        · rw [List.mem_singleton] at hy; subst hy; simp only; omega
      obtain ⟨a1, a2, a3, a4, a5⟩ := takeGo_sum (G := G) hl hL' (show 0 ≤ n - partOf x n by omega) (by omega)
      have es : sumL (L ++ [⟨x.aura, x.left - partOf x n⟩]) = sumL L + (x.left - partOf x n) := by rw [sumL_append]; simp [sumL]
      rw [es] at a4 a5
      refine ⟨a1, a2, by omega, by omega, ?_⟩
      left; omega
theorem takeM_sum {l : List Sh} {n : Int} (h : Fit l) (hl : l.length ≤ 200) (h0 : 0 ≤ n) (h1 : n ≤ 1000000) :
    0 ≤ (takeM l n).2.1 ∧ (takeM l n).2.1 ≤ n ∧ leftM l - leftM (takeM l n).1 = n - (takeM l n).2.1 ∧ ((takeM l n).2.1 = 0 ∨ leftM (takeM l n).1 = 0) ∧ 0 ≤ leftM l ∧ leftM l ≤ 1000000000 ∧ 0 ≤ leftM (takeM l n).1 ∧ leftM (takeM l n).1 ≤ 1000000000 := by
  have hb := sumL_bound h
  have hlen := takeM_len l n
  have hf : Fit (takeM l n).1 ∧ 0 ≤ (takeM l n).2.1 ∧ (takeM l n).2.1 ≤ n ∧ sumL l - sumL (takeM l n).1 = n - (takeM l n).2.1 ∧ ((takeM l n).2.1 = 0 ∨ sumL (takeM l n).1 = 0) := by
    unfold takeM
    split
    · exact ⟨h, Int.le_refl _, h0, by simp only; omega, .inl rfl⟩
    · obtain ⟨a1, a2, a3, a4, a5⟩ := takeGo_sum (G := []) h (show Fit [] by intro x hx; simp at hx) h0 h1
      simp only [sumL] at a4 a5
      exact ⟨a1, a2, a3, by omega, a5⟩
  have hb2 := sumL_bound hf.1
  rw [leftM_sum h hl, leftM_sum hf.1 (by omega)]
  refine ⟨hf.2.1, hf.2.2.1, hf.2.2.2.1, hf.2.2.2.2, ?_⟩
  omega


theorem shieldSums_ok (l : List Sh) (n : Int) (full : Bool) : Ok Try.prog 5 [sS l full, I n] [] (B true) [] [] := by
  refine ok_of_sem Try.func5 rfl ?_
  show Walks Try.prog _ _ ⟨[(0, sS l full), (1, I n)], [], 0, [], 94, 0⟩
  refine sem_seq ?_
  refine sem_region rfl ?_
  refine step_r rfl rfl trivial ?_
  refine step_nil ?_
  refine seqK_n ?_
  refine sem_seq ?_
  refine sem_region rfl ?_
  refine step_call rfl rfl rfl rfl (small14_ok) rfl rfl rfl ?_
  refine step_r rfl rfl trivial ?_
  refine step_nil ?_
  refine seqK_n ?_
  refine sem_seq ?_
  refine sem_seq ?_
  refine sem_region rfl ?_
  refine step_r rfl rfl trivial ?_
  refine step_r rfl rfl trivial ?_
  refine step_bin rfl rfl rfl rfl rfl trivial ?_
  refine step_r rfl rfl trivial ?_
  refine step_gs rfl (fun h2 => ?_) (fun h2 => ?_)
  · skip
    refine step_g0 rfl h2 rfl ?_
    refine step_g0 rfl h2 rfl ?_
    refine step_pickT rfl h2 rfl rfl ?_
    refine step_r rfl rfl trivial ?_
    refine step_gf rfl rfl ?_
    refine step_gf rfl rfl ?_
    refine step_r rfl rfl trivial ?_
    refine step_nil ?_
    refine seqK_n ?_
    refine sem_condT rfl ?_
    refine sem_seq ?_
    refine sem_region rfl ?_
    refine step_r rfl rfl trivial ?_
    refine step_r rfl rfl trivial ?_
    refine step_nil ?_
    refine seqK_n ?_
    refine sem_ret ?_
    refine seqK_r ?_
    exact answersR rfl (by simp) rfl rfl
  · have hl : l.length ≤ 200 := by have := of_decide_eq_false h2; omega
    refine step_g1 rfl h2 ?_
    refine step_r rfl rfl trivial ?_
    refine step_g1 rfl h2 ?_
    refine step_bin rfl rfl rfl rfl rfl trivial ?_
    refine step_pickF rfl h2 rfl rfl ?_
    refine step_r rfl rfl trivial ?_
    refine step_gs rfl (fun h5 => ?_) (fun h5 => ?_)
    · skip
      refine step_g0 rfl h5 rfl ?_
      refine step_g0 rfl h5 rfl ?_
      refine step_pickT rfl h5 rfl rfl ?_
      refine step_nil ?_
      refine seqK_n ?_
      refine sem_condT rfl ?_
      refine sem_seq ?_
      refine sem_region rfl ?_
      refine step_r rfl rfl trivial ?_
      refine step_r rfl rfl trivial ?_
      refine step_nil ?_
      refine seqK_n ?_
      refine sem_ret ?_
      refine seqK_r ?_
      exact answersR rfl (by simp) rfl rfl
    · have h0 : 0 ≤ n := by have := of_decide_eq_false h5; omega
      refine step_g1 rfl h5 ?_
      refine step_r rfl rfl trivial ?_
      refine step_g1 rfl h5 ?_
      refine step_bin rfl rfl rfl rfl rfl trivial ?_
      refine step_pickF rfl h5 rfl rfl ?_
      refine step_nil ?_
      refine seqK_n ?_
      refine sem_cond rfl (fun h7 => ?_) (fun h7 => ?_)
      · skip
        refine sem_seq ?_
        refine sem_region rfl ?_
        refine step_r rfl rfl trivial ?_
        refine step_r rfl rfl trivial ?_
        refine step_nil ?_
        refine seqK_n ?_
        refine sem_ret ?_
        refine seqK_r ?_
        exact answersR rfl (by simp) rfl rfl
      · have h1 : n ≤ 1000000 := by have := of_decide_eq_false h7; omega
        refine sem_skip ?_
        refine seqK_n ?_
        refine sem_seq ?_
        refine sem_seq ?_
        refine sem_region rfl ?_
        refine step_r rfl rfl trivial ?_
        refine step_nil ?_
        refine seqK_n ?_
        refine sem_block ?_
        refine sem_loop_of (fun k : Nat => (⟨[(0, sS l full), (1, I n), (5, B true), (6, I k)], [], 0, [], 94, 0⟩ : St)) (fun k : Nat => k ≤ l.length ∧ ∀ i x, i < k → l[i]? = some x → 0 ≤ x.left ∧ x.left ≤ 1000000) (fun k : Nat => l.length - k) 0 (⟨Nat.zero_le _, fun i x h => by omega⟩) (less_of rfl ⟨⟨rfl, rfl⟩, ⟨rfl, rfl⟩, ⟨rfl, rfl⟩, ⟨rfl, rfl⟩, trivial⟩ trivial (fun _ _ => .inr (Nat.zero_le _))) (fun k hI => ?_)
        show Walks Try.prog _ _ (⟨[(0, sS l full), (1, I n), (5, B true), (6, I k)], [], 0, [], 94, 0⟩ : St)
        refine sem_seq ?_
        refine sem_seq ?_
        refine sem_region rfl ?_
        refine step_r rfl rfl trivial ?_
        refine step_r rfl rfl trivial ?_
        refine step_r rfl rfl trivial ?_
        refine step_bin rfl rfl rfl rfl rfl trivial ?_
        refine step_nil ?_
        refine seqK_n ?_
        refine sem_cond rfl (fun h9 => ?_) (fun h9 => ?_)
        · have hk : k < l.length := by simpa using h9
          obtain ⟨x, hx⟩ : ∃ x, l[k]? = some x := ⟨_, List.getElem?_eq_getElem hk⟩
          refine sem_skip ?_
          refine seqK_n ?_
          refine sem_seq ?_
          refine sem_block ?_
          refine sem_seq ?_
          refine sem_region rfl ?_
          refine step_r rfl rfl trivial ?_
          refine step_r rfl rfl trivial ?_
          refine step_idxS (k := k) rfl rfl rfl rfl hk (flat_ne encS_len (by decide) hk) rfl ?_
          refine step_r rfl rfl (by decide) ?_
          refine step_load_one rfl rfl rfl (flat_get encS_len hx (o := 1) rfl (by decide)) rfl ?_
          refine step_bin rfl rfl rfl rfl rfl trivial ?_
          refine step_r rfl rfl trivial ?_
          refine step_gs rfl (fun h11 => ?_) (fun h11 => ?_)
          · skip
            refine step_g0 rfl h11 rfl ?_
            refine step_g0 rfl h11 rfl ?_
            refine step_g0 rfl h11 rfl ?_
            refine step_g0 rfl h11 rfl ?_
            refine step_g0 rfl h11 rfl ?_
            refine step_g0 rfl h11 rfl ?_
            refine step_pickT rfl h11 rfl rfl ?_
            refine step_nil ?_
            refine seqK_n ?_
            refine sem_condT rfl ?_
            refine sem_seq ?_
            refine sem_region rfl ?_
            refine step_r rfl rfl trivial ?_
            refine step_r rfl rfl trivial ?_
            refine step_nil ?_
            refine seqK_n ?_
            refine sem_ret ?_
            refine blkK_r ?_
            refine seqK_r ?_
            refine lupK_r ?_
            refine blkK_r ?_
            refine seqK_r ?_
            exact answersR rfl (by simp) rfl rfl
          · have g1 : 0 ≤ x.left := by have := of_decide_eq_false h11; omega
            refine step_g1 rfl h11 ?_
            refine step_r rfl rfl trivial ?_
            refine step_g1 rfl h11 ?_
            refine step_r rfl rfl trivial ?_
            refine step_g1 rfl h11 ?_
            refine step_idxS (k := k) rfl rfl rfl rfl hk (flat_ne encS_len (by decide) hk) rfl ?_
            refine step_g1 rfl h11 ?_
            refine step_r rfl rfl (by decide) ?_
            refine step_g1 rfl h11 ?_
            refine step_load_one rfl rfl rfl (flat_get encS_len hx (o := 1) rfl (by decide)) rfl ?_
            refine step_g1 rfl h11 ?_
            refine step_bin rfl rfl rfl rfl rfl trivial ?_
            refine step_pickF rfl h11 rfl rfl ?_
            refine step_nil ?_
            refine seqK_n ?_
            refine sem_cond rfl (fun h13 => ?_) (fun h13 => ?_)
            · skip
              refine sem_seq ?_
              refine sem_region rfl ?_
              refine step_r rfl rfl trivial ?_
              refine step_r rfl rfl trivial ?_
              refine step_nil ?_
              refine seqK_n ?_
              refine sem_ret ?_
              refine blkK_r ?_
              refine seqK_r ?_
              refine lupK_r ?_
              refine blkK_r ?_
              refine seqK_r ?_
              exact answersR rfl (by simp) rfl rfl
            · have g2 : x.left ≤ 1000000 := by have := of_decide_eq_false h13; omega
              refine sem_skip ?_
              refine blkK_n ?_
              refine seqK_n ?_
              refine sem_region rfl ?_
              refine step_r rfl rfl trivial ?_
              refine step_bin rfl rfl rfl rfl rfl trivial ?_
              refine step_r rfl rfl trivial ?_
              refine step_nil ?_
              exact lup_again (k+1) (⟨hk, fun i y hi hy => by
                rcases Nat.lt_or_ge i k with h | h
                · exact hI.2 i y h hy
                · obtain rfl : i = k := by omega
                  rw [hx] at hy; cases hy; exact ⟨by omega, by omega⟩⟩) (by omega) (less_of rfl ⟨⟨rfl, rfl⟩, ⟨rfl, rfl⟩, ⟨rfl, rfl⟩, ⟨congrArg (fun n => some (I n)) (wrap_nat hk (by omega)), rfl⟩, trivial⟩ trivial (fun _ _ => .inr (Nat.zero_le _)))
        · have hk : k = l.length := by have := of_decide_eq_false h9; have := hI.1; omega
          have hf : Fit l := fun x hx => by
            obtain ⟨i, hi, rfl⟩ := List.getElem_of_mem hx
            exact hI.2 i _ (by omega) (List.getElem?_eq_getElem hi)
          obtain ⟨t1, t2, t3, t4, t5, t6, t7, t8⟩ := takeM_sum hf hl h0 h1
          have htl := takeM_len l n
          refine sem_exit ?_
          refine seqK_e ?_
          refine lupK_e ?_
          refine blkK_t rfl ?_
          refine seqK_n ?_
          refine sem_seq ?_
          refine sem_region rfl ?_
          refine step_r rfl rfl trivial ?_
          refine step_r rfl rfl trivial ?_
          refine step_callB (Hin := []) (out' := .tup [.ref 0 _ _ _, _, .ref 1 _ _ _]) (H' := [(0, .row _ _ _), (1, .row _ _ _)]) (nx' := 2) [] rfl rfl rfl rfl rfl rfl rfl rfl (by (repeat' apply And.intro) <;> first | trivial | rfl | exact flat_len encS_len _ | exact encI_len _) (take_ok l n full (by omega)) rfl (by decide) rfl rfl rfl ⟨encS_solid, encI_solid, trivial⟩ rfl rfl rfl rfl ?_
          refine step_r rfl rfl trivial ?_
          refine step_r rfl rfl trivial ?_
          refine step_r rfl rfl trivial ?_
          refine step_r rfl rfl trivial ?_
          refine step_r rfl rfl trivial ?_
          refine step_r rfl rfl trivial ?_
          refine step_r rfl rfl trivial ?_
          refine step_nil ?_
          refine seqK_n ?_
          refine sem_seq ?_
          refine sem_region rfl ?_
          refine step_r rfl rfl trivial ?_
          refine step_call rfl rfl rfl rfl (left_ok l full (by omega)) rfl rfl rfl ?_
          refine step_r rfl rfl trivial ?_
          refine step_nil ?_
          refine seqK_n ?_
          refine sem_seq ?_
          refine sem_region rfl ?_
          refine step_r rfl rfl trivial ?_
          refine step_callB (Hin := [.row _ _ _]) (H' := [(0, .row _ _ _), (1, .row _ _ _)]) (nx' := 2) [0] rfl rfl rfl rfl rfl rfl rfl rfl (by (repeat' apply And.intro) <;> first | trivial | rfl | exact flat_len encS_len _ | exact encI_len _) (left_ok (takeM l n).1 false (by omega)) rfl (by decide) rfl rfl rfl trivial rfl rfl rfl rfl ?_
          refine step_r rfl rfl trivial ?_
          refine step_nil ?_
          refine seqK_n ?_
          refine sem_seq ?_
          refine sem_region rfl ?_
          refine step_r rfl rfl trivial ?_
          refine step_r rfl rfl trivial ?_
          refine step_gt rfl ?_
          refine step_r rfl rfl trivial ?_
          refine step_gt rfl ?_
          refine step_bin rfl rfl rfl rfl rfl trivial ?_
          refine step_r rfl rfl trivial ?_
          refine step_r rfl rfl trivial ?_
          refine step_gs rfl (fun h20 => ?_) (fun h20 => ?_)
          · skip
            refine step_g1 rfl h20 ?_
            refine step_r rfl rfl trivial ?_
            refine step_g1 rfl h20 ?_
            refine step_r rfl rfl trivial ?_
            refine step_g1 rfl h20 ?_
            refine step_bin rfl rfl rfl rfl rfl trivial ?_
            refine step_pickT rfl h20 rfl rfl ?_
            refine step_r rfl rfl trivial ?_
            refine step_gs rfl (fun h22 => ?_) (fun h22 => ?_)
            · skip
              refine step_g1 rfl h22 ?_
              refine step_r rfl rfl trivial ?_
              refine step_g1 rfl h22 ?_
              refine step_r rfl rfl trivial ?_
              refine step_g1 rfl h22 ?_
              refine step_bin rfl rfl rfl rfl rfl trivial ?_
              refine step_g1 rfl h22 ?_
              refine step_r rfl rfl trivial ?_
              refine step_g1 rfl h22 ?_
              refine step_r rfl rfl trivial ?_
              refine step_g1 rfl h22 ?_
              refine step_bin rfl rfl rfl rfl rfl trivial ?_
              refine step_g1 rfl h22 ?_
              refine step_bin rfl rfl rfl rfl rfl trivial ?_
              refine step_pickT rfl h22 rfl rfl ?_
              refine step_r rfl rfl trivial ?_
              refine step_gs rfl (fun h24 => ?_) (fun h24 => ?_)
              · skip
                refine step_g1 rfl h24 ?_
                refine step_r rfl rfl trivial ?_
                refine step_g1 rfl h24 ?_
                refine step_bin rfl rfl rfl rfl rfl trivial ?_
                refine step_g1 rfl h24 ?_
                refine step_r rfl rfl trivial ?_
                refine step_gs rfl (fun h26 => ?_) (fun h26 => ?_)
                · skip
                  refine step_g0 rfl h26 rfl ?_
                  refine step_g0 rfl h26 rfl ?_
                  refine step_g1 rfl h24 ?_
                  refine step_pickT rfl h26 rfl rfl ?_
                  refine step_pickT rfl h24 rfl rfl ?_
                  refine step_r rfl rfl trivial ?_
                  refine step_gt rfl ?_
                  refine step_r rfl rfl trivial ?_
                  refine step_gt rfl ?_
                  refine step_r rfl rfl trivial ?_
                  refine step_gt rfl ?_
                  refine step_r rfl rfl trivial ?_
                  refine step_gt rfl ?_
                  refine step_r rfl rfl trivial ?_
                  refine step_gt rfl ?_
                  refine step_bin rfl rfl rfl rfl rfl trivial ?_
                  refine step_gt rfl ?_
                  refine step_r rfl rfl trivial ?_
                  refine step_gt rfl ?_
                  refine step_r rfl rfl trivial ?_
                  refine step_gt rfl ?_
                  refine step_bin rfl rfl rfl rfl rfl trivial ?_
                  refine step_r rfl rfl trivial ?_
                  refine step_r rfl rfl trivial ?_
                  refine step_nil ?_
                  refine seqK_n ?_
                  refine sem_ret ?_
                  exact answersR rfl (by simp) (congrArg B (by rw [beq_iff_eq, wrap_lt (by omega) (by omega)]; omega)) rfl
                · skip
                  refine step_g1 rfl h26 ?_
                  refine step_r rfl rfl trivial ?_
                  refine step_g1 rfl h26 ?_
                  refine step_bin rfl rfl rfl rfl rfl trivial ?_
                  refine step_g1 rfl h24 ?_
                  refine step_pickF rfl h26 rfl rfl ?_
                  refine step_pickT rfl h24 rfl rfl ?_
                  refine step_r rfl rfl trivial ?_
                  refine step_gs rfl (fun h29 => ?_) (fun h29 => ?_)
                  · skip
                    refine step_g1 rfl h29 ?_
                    refine step_r rfl rfl trivial ?_
                    refine step_g1 rfl h29 ?_
                    refine step_r rfl rfl trivial ?_
                    refine step_g1 rfl h29 ?_
                    refine step_r rfl rfl trivial ?_
                    refine step_g1 rfl h29 ?_
                    refine step_r rfl rfl trivial ?_
                    refine step_g1 rfl h29 ?_
                    refine step_bin rfl rfl rfl rfl rfl trivial ?_
                    refine step_g1 rfl h29 ?_
                    refine step_r rfl rfl trivial ?_
                    refine step_g1 rfl h29 ?_
                    refine step_r rfl rfl trivial ?_
                    refine step_g1 rfl h29 ?_
                    refine step_bin rfl rfl rfl rfl rfl trivial ?_
                    refine step_pickT rfl h29 rfl rfl ?_
                    refine step_r rfl rfl trivial ?_
                    refine step_nil ?_
                    refine seqK_n ?_
                    refine sem_ret ?_
                    exact answersR rfl (by simp) (congrArg B (by rw [beq_iff_eq, wrap_lt (by omega) (by omega)]; omega)) rfl
                  · have h := h29
                    rcases t4 with t4 | t4
                    · simp_all
                    · simp_all
              · have h := h24
                rw [wrap_lt (by omega) (by omega), wrap_lt (by omega) (by omega), beq_eq_false_iff_ne] at h
                omega
            · have h := h22
              simp only [decide_eq_false_iff_not] at h
              omega
          · have h := h20
            simp only [decide_eq_false_iff_not] at h
            omega

end Go.Proofs.Ytgopngmofcohnaa

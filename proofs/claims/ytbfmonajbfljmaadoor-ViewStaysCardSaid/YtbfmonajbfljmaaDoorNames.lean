import Derived.Test.YtbfmonajbfljmaaDoorNumc
namespace Go.Proofs.YtbfmonajbfljmaaDoor
open Go Go.RowKit Go.Proofs.YtbfmonajbfljmaaDoorVm
attribute [local irreducible] opsWp AnswersE OpsS
set_option maxHeartbeats 400000
set_option maxRecDepth 100000
set_option linter.all false
def nameC (s : List UInt8) : Bool :=
  if s = ([]) then false else if (s.length : Int) ≤ 24 then ((trim s) == ([])) else false
theorem nameC_ok (s : List UInt8) : Ok Tryd.prog 19 [.pv (.str s)] [] (B (nameC s)) [] [] := by
 refine ok_of_sem Tryd.func19 rfl ?_
 show Walks Tryd.prog _ _ ⟨[(0, .pv (.str s))], [], 0, [], 15, 0⟩
 refine sem_seq (sem_region rfl (step_r rfl rfl trivial (step_nil (seqK_n (sem_seq (sem_region rfl (step_r rfl rfl trivial (step_bin rfl rfl rfl rfl rfl trivial (step_r rfl rfl trivial ?_)))))))))
 refine step_gs rfl (fun h3 => ?_) (fun h3 => ?_)
 ·have g3 : ¬ (s = ([])) := beq_f (not_t h3)
  refine step_g1 rfl h3 (step_r rfl rfl trivial (step_g1 rfl h3 (step_r rfl rfl trivial (step_g1 rfl h3 (step_bin rfl rfl rfl rfl rfl trivial (step_pickT rfl h3 rfl rfl (step_r rfl rfl trivial ?_)))))))
  refine step_gs rfl (fun h5 => ?_) (fun h5 => ?_)
  ·have g5 : (s.length : Int) ≤ 24 := of_decide_eq_true h5
   refine step_g1 rfl h5 (step_r rfl rfl trivial (step_g1 rfl h5 (step_call rfl rfl rfl rfl (trim_ok s (by first | assumption | omega | (simp only [decide_eq_true_eq] at *; omega))) rfl rfl rfl (step_g1 rfl h5 (step_bin rfl rfl rfl rfl rfl trivial (step_pickT rfl h5 rfl rfl (step_r rfl rfl trivial (step_nil (seqK_n (sem_ret ?_))))))))))
   have e7 : nameC s = ((trim s) == ([])) := by
    unfold nameC
    try dsimp only
    rewrite [if_neg g3, if_pos g5]
    all_goals rfl
   rw [e7]
   exact answersR rfl ⟨trivial, trivial⟩ (rfl) rfl
  ·have g5 : ¬ ((s.length : Int) ≤ 24) := of_decide_eq_false h5
   refine step_g0 rfl h5 rfl (step_g0 rfl h5 rfl (step_g0 rfl h5 rfl (step_pickF rfl h5 rfl rfl (step_r rfl rfl trivial (step_nil (seqK_n (sem_ret ?_)))))))
   have e8 : nameC s = false := by
    unfold nameC
    try dsimp only
    rewrite [if_neg g3, if_neg g5]
    all_goals rfl
   rw [e8]
   exact answersR rfl ⟨trivial, trivial⟩ (rfl) rfl
 ·have g3 : s = ([]) := beq_t (not_f h3)
  refine step_g0 rfl h3 rfl (step_g0 rfl h3 rfl (step_g0 rfl h3 rfl (step_pickF rfl h3 rfl rfl (step_r rfl rfl trivial (step_gf rfl rfl (step_gf rfl rfl (step_gf rfl rfl (step_r rfl rfl trivial (step_r rfl rfl trivial (step_nil (seqK_n ?_)))))))))))
  refine sem_ret ?_
  have e9 : nameC s = false := by
   unfold nameC
   try dsimp only
   rewrite [if_pos g3]
   all_goals rfl
  rw [e9]
  exact answersR rfl ⟨trivial, trivial⟩ (rfl) rfl

theorem nameC_len {s : List UInt8} (h : nameC s = true) : s.length ≤ 24 := by
  unfold nameC at h
  split at h
  · cases h
  · split at h
    · omega
    · cases h
theorem putI_len (b : List UInt8) (n : Int) : (putI b n).length ≤ b.length + 11 := put_len _ _

end Go.Proofs.YtbfmonajbfljmaaDoor

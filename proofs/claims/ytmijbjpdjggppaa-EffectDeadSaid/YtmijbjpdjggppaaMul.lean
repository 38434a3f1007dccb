import Derived.Test.YtmijbjpdjggppaaFew
import Derived.Laws.MathBits
namespace Go.Proofs.Ytmijbjpdjggppaa
open Go Go.RowKit Go.Proofs.YtmijbjpdjggppaaVm
attribute [local irreducible] opsWp AnswersE OpsS
set_option maxHeartbeats 400000
set_option maxRecDepth 100000
set_option linter.all false
def mul64 (x_ : Int) (y_ : Int) : Int × Int :=
  ((IntKind.u64.wrap ((IntKind.u64.wrap ((IntKind.u64.wrap ((shrK IntKind.u64 x_ 32) * (shrK IntKind.u64 y_ 32))) + (shrK IntKind.u64 (IntKind.u64.wrap ((IntKind.u64.wrap ((shrK IntKind.u64 x_ 32) * (andK IntKind.u64 y_ 4294967295))) + (shrK IntKind.u64 (IntKind.u64.wrap ((andK IntKind.u64 x_ 4294967295) * (andK IntKind.u64 y_ 4294967295))) 32))) 32))) + (shrK IntKind.u64 (IntKind.u64.wrap ((andK IntKind.u64 (IntKind.u64.wrap ((IntKind.u64.wrap ((shrK IntKind.u64 x_ 32) * (andK IntKind.u64 y_ 4294967295))) + (shrK IntKind.u64 (IntKind.u64.wrap ((andK IntKind.u64 x_ 4294967295) * (andK IntKind.u64 y_ 4294967295))) 32))) 4294967295) + (IntKind.u64.wrap ((andK IntKind.u64 x_ 4294967295) * (shrK IntKind.u64 y_ 32))))) 32))), (IntKind.u64.wrap (x_ * y_)))
theorem mul64_ok (x_ : Int) (y_ : Int) : Ok Try.prog 55 [.pv (.int .u64 x_), .pv (.int .u64 y_)] [] (.tup [.pv (.int .u64 (mul64 x_ y_).1), .pv (.int .u64 (mul64 x_ y_).2)]) [] [] := by
 refine ok_of_sem Try.func55 rfl ?_
 show Walks Try.prog _ _ ⟨[(0, .pv (.int .u64 x_)), (1, .pv (.int .u64 y_))], [], 0, [], 51, 0⟩
 refine sem_seq (sem_region rfl (step_r rfl rfl trivial (step_r rfl rfl trivial (step_nil (seqK_n (sem_seq (sem_region rfl (step_r rfl rfl trivial (step_bin rfl rfl rfl rfl rfl trivial (step_r rfl rfl trivial (step_nil ?_)))))))))))
 refine seqK_n (sem_seq (sem_region rfl (step_r rfl rfl trivial ?_)))
 refine step_bin rfl rfl rfl rfl rfl (by first | decide | omega | simp_all) ?_
 refine step_r rfl rfl trivial (step_nil (seqK_n (sem_seq (sem_region rfl (step_r rfl rfl trivial (step_bin rfl rfl rfl rfl rfl trivial (step_r rfl rfl trivial (step_nil (seqK_n (sem_seq (sem_region rfl ?_)))))))))))
 refine step_r rfl rfl trivial ?_
 refine step_bin rfl rfl rfl rfl rfl (by first | decide | omega | simp_all) ?_
 refine step_r rfl rfl trivial (step_nil (seqK_n (sem_seq (sem_region rfl (step_r rfl rfl trivial (step_r rfl rfl trivial (step_bin rfl rfl rfl rfl rfl trivial (step_r rfl rfl trivial (step_nil (seqK_n (sem_seq ?_)))))))))))
 refine sem_region rfl (step_r rfl rfl trivial (step_r rfl rfl trivial (step_bin rfl rfl rfl rfl rfl trivial (step_r rfl rfl trivial ?_))))
 refine step_bin rfl rfl rfl rfl rfl (by first | decide | omega | simp_all) ?_
 refine step_bin rfl rfl rfl rfl rfl trivial (step_r rfl rfl trivial (step_nil (seqK_n (sem_seq (sem_region rfl (step_r rfl rfl trivial (step_bin rfl rfl rfl rfl rfl trivial (step_r rfl rfl trivial (step_nil (seqK_n (sem_seq ?_)))))))))))
 refine sem_region rfl (step_r rfl rfl trivial ?_)
 refine step_bin rfl rfl rfl rfl rfl (by first | decide | omega | simp_all) ?_
 refine step_r rfl rfl trivial (step_nil (seqK_n (sem_seq (sem_region rfl (step_r rfl rfl trivial (step_r rfl rfl trivial (step_r rfl rfl trivial (step_bin rfl rfl rfl rfl rfl trivial (step_bin rfl rfl rfl rfl rfl trivial (step_r rfl rfl trivial (step_nil ?_)))))))))))
 refine seqK_n (sem_seq (sem_region rfl (step_r rfl rfl trivial (step_r rfl rfl trivial (step_bin rfl rfl rfl rfl rfl trivial (step_r rfl rfl trivial (step_bin rfl rfl rfl rfl rfl trivial (step_r rfl rfl trivial ?_))))))))
 refine step_bin rfl rfl rfl rfl rfl (by first | decide | omega | simp_all) ?_
 refine step_bin rfl rfl rfl rfl rfl trivial (step_r rfl rfl trivial (step_nil (seqK_n (sem_seq (sem_region rfl (step_r rfl rfl trivial (step_r rfl rfl trivial (step_bin rfl rfl rfl rfl rfl trivial (step_r rfl rfl trivial (step_nil (seqK_n ?_)))))))))))
 refine sem_ret ?_
 have e14 : mul64 x_ y_ = ((IntKind.u64.wrap ((IntKind.u64.wrap ((IntKind.u64.wrap ((shrK IntKind.u64 x_ 32) * (shrK IntKind.u64 y_ 32))) + (shrK IntKind.u64 (IntKind.u64.wrap ((IntKind.u64.wrap ((shrK IntKind.u64 x_ 32) * (andK IntKind.u64 y_ 4294967295))) + (shrK IntKind.u64 (IntKind.u64.wrap ((andK IntKind.u64 x_ 4294967295) * (andK IntKind.u64 y_ 4294967295))) 32))) 32))) + (shrK IntKind.u64 (IntKind.u64.wrap ((andK IntKind.u64 (IntKind.u64.wrap ((IntKind.u64.wrap ((shrK IntKind.u64 x_ 32) * (andK IntKind.u64 y_ 4294967295))) + (shrK IntKind.u64 (IntKind.u64.wrap ((andK IntKind.u64 x_ 4294967295) * (andK IntKind.u64 y_ 4294967295))) 32))) 4294967295) + (IntKind.u64.wrap ((andK IntKind.u64 x_ 4294967295) * (shrK IntKind.u64 y_ 32))))) 32))), (IntKind.u64.wrap (x_ * y_))) := by
  unfold mul64
  try dsimp only
  all_goals rfl
 rw [e14]
 exact answersR rfl ⟨trivial, trivial, trivial⟩ (rfl) rfl

def size1 (a : Int) : Int :=
  if (a : Int) < 0 then (IntKind.u64.wrap (0 - (IntKind.u64.wrap a))) else (IntKind.u64.wrap a)
theorem size1_ok (a : Int) : Ok Try.prog 56 [I a] [] (.pv (.int .u64 (size1 a))) [] [] := by
 refine ok_of_sem Try.func56 rfl ?_
 show Walks Try.prog _ _ ⟨[(0, I a)], [], 0, [], 10, 0⟩
 refine sem_seq (sem_region rfl (step_r rfl rfl trivial (step_nil (seqK_n (sem_seq (sem_seq (sem_region rfl (step_r rfl rfl trivial (step_bin rfl rfl rfl rfl rfl trivial (step_nil (seqK_n ?_)))))))))))
 refine sem_cond rfl (fun h2 => ?_) (fun h2 => ?_)
 ·have g2 : (a : Int) < 0 := of_decide_eq_true h2
  refine sem_seq (sem_region rfl (step_r rfl rfl trivial (step_r rfl rfl trivial (step_r rfl rfl trivial (step_r rfl rfl trivial (step_nil (seqK_n (sem_ret (seqK_r ?_)))))))))
  have e4 : size1 a = (IntKind.u64.wrap (0 - (IntKind.u64.wrap a))) := by
   unfold size1
   try dsimp only
   rewrite [if_pos g2]
   all_goals rfl
  rw [e4]
  exact answersR rfl ⟨trivial, trivial⟩ (rfl) rfl
 ·have g2 : ¬ ((a : Int) < 0) := of_decide_eq_false h2
  refine sem_skip (seqK_n (sem_seq (sem_region rfl (step_r rfl rfl trivial (step_r rfl rfl trivial (step_r rfl rfl trivial (step_nil (seqK_n (sem_ret ?_)))))))))
  have e6 : size1 a = (IntKind.u64.wrap a) := by
   unfold size1
   try dsimp only
   rewrite [if_neg g2]
   all_goals rfl
  rw [e6]
  exact answersR rfl ⟨trivial, trivial⟩ (rfl) rfl

def end1 (below : Bool) : Int :=
  if below = true then (-9223372036854775808) else 9223372036854775807
theorem end1_ok (below : Bool) : Ok Try.prog 57 [B below] [] (I (end1 below)) [] [] := by
 refine ok_of_sem Try.func57 rfl ?_
 show Walks Try.prog _ _ ⟨[(0, B below)], [], 0, [], 4, 0⟩
 refine sem_seq (sem_region rfl (step_r rfl rfl trivial (step_nil (seqK_n (sem_seq (sem_seq (sem_region rfl (step_r rfl rfl trivial (step_nil (seqK_n ?_))))))))))
 refine sem_cond rfl (fun h2 => ?_) (fun h2 => ?_)
 ·have g2 : below = true := h2
  refine sem_seq (sem_region rfl (step_r rfl rfl trivial (step_nil (seqK_n (sem_ret (seqK_r ?_))))))
  have e3 : end1 below = (-9223372036854775808) := by
   unfold end1
   try dsimp only
   rewrite [if_pos g2]
   all_goals rfl
  rw [e3]
  exact answersR rfl ⟨trivial, trivial⟩ (rfl) rfl
 ·have g2 : ¬ (below = true) := boo_f h2
  refine sem_skip (seqK_n (sem_seq (sem_region rfl (step_r rfl rfl trivial (step_nil (seqK_n (sem_ret ?_)))))))
  have e4 : end1 below = 9223372036854775807 := by
   unfold end1
   try dsimp only
   rewrite [if_neg g2]
   all_goals rfl
  rw [e4]
  exact answersR rfl ⟨trivial, trivial⟩ (rfl) rfl

def mul1_J23 (a : Int) (b : Int) : Int :=
  if (decide ((a : Int) < 0)) = (decide ((b : Int) < 0)) then (size1 9223372036854775807) else (size1 (-9223372036854775808))
def mul1 (a : Int) (b : Int) : Int :=
  (let most_23 := mul1_J23 a b; if ((mul64 (size1 a) (size1 b)).1 : Int) > 0 then (end1 (!((decide ((a : Int) < 0)) == (decide ((b : Int) < 0))))) else if ((mul64 (size1 a) (size1 b)).2 : Int) > most_23 then (end1 (!((decide ((a : Int) < 0)) == (decide ((b : Int) < 0))))) else if (decide ((a : Int) < 0)) = (decide ((b : Int) < 0)) then (IntKind.i64.wrap ((mul64 (size1 a) (size1 b)).2)) else (IntKind.i64.wrap (IntKind.u64.wrap (0 - ((mul64 (size1 a) (size1 b)).2)))))
theorem mul1_ok (a : Int) (b : Int) : Ok Try.prog 40 [I a, I b] [] (I (mul1 a b)) [] [] := by
 refine ok_of_sem Try.func40 rfl ?_
 show Walks Try.prog _ _ ⟨[(0, I a), (1, I b)], [], 0, [], 42, 0⟩
 refine sem_seq (sem_region rfl (step_r rfl rfl trivial (step_nil (seqK_n (sem_seq (sem_region rfl (step_r rfl rfl trivial (step_bin rfl rfl rfl rfl rfl trivial (step_r rfl rfl trivial (step_bin rfl rfl rfl rfl rfl trivial (step_bin rfl rfl rfl rfl rfl trivial ?_)))))))))))
 refine step_r rfl rfl trivial (step_nil (seqK_n (sem_seq (sem_region rfl (step_r rfl rfl trivial (step_call rfl rfl rfl rfl (size1_ok a) rfl rfl rfl (step_r rfl rfl trivial (step_call rfl rfl rfl rfl (size1_ok b) rfl rfl rfl (step_call rfl rfl rfl rfl (mul64_ok (size1 a) (size1 b)) rfl rfl rfl (step_r rfl rfl trivial (step_r rfl rfl trivial ?_)))))))))))
 refine step_r rfl rfl trivial (step_r rfl rfl trivial (step_r rfl rfl trivial (step_nil (seqK_n (sem_seq (sem_region rfl (step_call rfl rfl rfl rfl (size1_ok 9223372036854775807) rfl rfl rfl (step_r rfl rfl trivial (step_nil (seqK_n (sem_seq ?_)))))))))))
 refine sem_cutW (fun most_23 : Int => (⟨[(5, B (!((decide ((a : Int) < 0)) == (decide ((b : Int) < 0))))), (6, .pv (.int .u64 (mul64 (size1 a) (size1 b)).1)), (7, .pv (.int .u64 (mul64 (size1 a) (size1 b)).2)), (8, .pv (.int .u64 most_23))], [], 0, [], 42, 0⟩ : St)) (fun w_ => mul1_J23 a b = w_) ?_ ?_
 ·refine sem_seq (sem_region rfl (step_r rfl rfl trivial (step_nil (seqK_n ?_))))
  refine sem_cond rfl (fun h8 => ?_) (fun h8 => ?_)
  ·have g8 : ¬ ((decide ((a : Int) < 0)) = (decide ((b : Int) < 0))) := beq_f (not_t h8)
   refine sem_region rfl (step_call rfl rfl rfl rfl (size1_ok (-9223372036854775808)) rfl rfl rfl (step_r rfl rfl trivial (step_nil ?_)))
   have e10 : mul1_J23 a b = (size1 (-9223372036854775808)) := by
    unfold mul1_J23
    try dsimp only
    rewrite [if_neg g8]
    all_goals rfl
   exact cutW_n (size1 (-9223372036854775808)) e10 (Trans.ren [] (by decide +kernel) (by decide +kernel) rfl ⟨⟨rfl, rfl⟩, ⟨rfl, rfl⟩, ⟨rfl, rfl⟩, ⟨rfl, rfl⟩, trivial⟩ trivial (by decide))
  ·have g8 : (decide ((a : Int) < 0)) = (decide ((b : Int) < 0)) := beq_t (not_f h8)
   refine sem_skip ?_
   have e11 : mul1_J23 a b = (size1 9223372036854775807) := by
    unfold mul1_J23
    try dsimp only
    rewrite [if_pos g8]
    all_goals rfl
   exact cutW_n (size1 9223372036854775807) e11 (Trans.ren [] (by decide +kernel) (by decide +kernel) rfl ⟨⟨rfl, rfl⟩, ⟨rfl, rfl⟩, ⟨rfl, rfl⟩, ⟨rfl, rfl⟩, trivial⟩ trivial (by decide))
 ·rintro most_23 (hJ7 : mul1_J23 a b = most_23)
  show seqK _ _ _ .normal (⟨[(5, B (!((decide ((a : Int) < 0)) == (decide ((b : Int) < 0))))), (6, .pv (.int .u64 (mul64 (size1 a) (size1 b)).1)), (7, .pv (.int .u64 (mul64 (size1 a) (size1 b)).2)), (8, .pv (.int .u64 most_23))], [], 0, [], 42, 0⟩ : St)
  refine seqK_n (sem_seq (sem_block (sem_seq (sem_region rfl (step_r rfl rfl trivial (step_bin rfl rfl rfl rfl rfl trivial (step_r rfl rfl trivial ?_)))))))
  refine step_gs rfl (fun h14 => ?_) (fun h14 => ?_)
  ·have g14 : ((mul64 (size1 a) (size1 b)).1 : Int) > 0 := of_decide_eq_true h14
   refine step_g0 rfl h14 rfl (step_g0 rfl h14 rfl (step_g0 rfl h14 rfl (step_pickT rfl h14 rfl rfl (step_r rfl rfl trivial (step_nil (seqK_n (sem_condT rfl (sem_seq (sem_region rfl (step_r rfl rfl trivial (step_call rfl rfl rfl rfl (end1_ok (!((decide ((a : Int) < 0)) == (decide ((b : Int) < 0))))) rfl rfl rfl ?_)))))))))))
   refine step_r rfl rfl trivial (step_nil (seqK_n (sem_ret (blkK_r (seqK_r ?_)))))
   have e17 : mul1 a b = (end1 (!((decide ((a : Int) < 0)) == (decide ((b : Int) < 0))))) := by
    unfold mul1
    try dsimp only
    rewrite [hJ7]
    try dsimp only
    rewrite [if_pos g14]
    all_goals rfl
   rw [e17]
   exact answersR rfl ⟨trivial, trivial⟩ (rfl) rfl
  ·have g14 : ¬ (((mul64 (size1 a) (size1 b)).1 : Int) > 0) := of_decide_eq_false h14
   refine step_g1 rfl h14 (step_r rfl rfl trivial (step_g1 rfl h14 (step_r rfl rfl trivial (step_g1 rfl h14 (step_bin rfl rfl rfl rfl rfl trivial (step_pickF rfl h14 rfl rfl (step_r rfl rfl trivial (step_nil (seqK_n ?_)))))))))
   refine sem_cond rfl (fun h21 => ?_) (fun h21 => ?_)
   ·have g21 : ((mul64 (size1 a) (size1 b)).2 : Int) > most_23 := of_decide_eq_true h21
    refine sem_seq (sem_region rfl (step_r rfl rfl trivial (step_call rfl rfl rfl rfl (end1_ok (!((decide ((a : Int) < 0)) == (decide ((b : Int) < 0))))) rfl rfl rfl (step_r rfl rfl trivial (step_nil (seqK_n (sem_ret (blkK_r (seqK_r ?_)))))))))
    have e24 : mul1 a b = (end1 (!((decide ((a : Int) < 0)) == (decide ((b : Int) < 0))))) := by
     unfold mul1
     try dsimp only
     rewrite [hJ7]
     try dsimp only
     rewrite [if_neg g14, if_pos g21]
     all_goals rfl
    rw [e24]
    exact answersR rfl ⟨trivial, trivial⟩ (rfl) rfl
   ·have g21 : ¬ (((mul64 (size1 a) (size1 b)).2 : Int) > most_23) := of_decide_eq_false h21
    refine sem_seq (sem_region rfl (step_r rfl rfl trivial (step_r rfl rfl trivial (step_nil (seqK_n ?_)))))
    refine sem_cond rfl (fun h26 => ?_) (fun h26 => ?_)
    ·have g26 : ¬ ((decide ((a : Int) < 0)) = (decide ((b : Int) < 0))) := beq_f (not_t h26)
     refine sem_seq (sem_region rfl (step_r rfl rfl trivial (step_r rfl rfl trivial (step_r rfl rfl trivial (step_r rfl rfl trivial (step_nil (seqK_n (sem_ret (blkK_r (seqK_r ?_))))))))))
     have e28 : mul1 a b = (IntKind.i64.wrap (IntKind.u64.wrap (0 - ((mul64 (size1 a) (size1 b)).2)))) := by
      unfold mul1
      try dsimp only
      rewrite [hJ7]
      try dsimp only
      rewrite [if_neg g14, if_neg g21, if_neg g26]
      all_goals rfl
     rw [e28]
     exact answersR rfl ⟨trivial, trivial⟩ (rfl) rfl
    ·have g26 : (decide ((a : Int) < 0)) = (decide ((b : Int) < 0)) := beq_t (not_f h26)
     refine sem_skip (blkK_n (seqK_n (sem_seq (sem_region rfl (step_r rfl rfl trivial (step_r rfl rfl trivial (step_r rfl rfl trivial (step_nil (seqK_n (sem_ret ?_))))))))))
     have e30 : mul1 a b = (IntKind.i64.wrap ((mul64 (size1 a) (size1 b)).2)) := by
      unfold mul1
      try dsimp only
      rewrite [hJ7]
      try dsimp only
      rewrite [if_neg g14, if_neg g21, if_pos g26]
      all_goals rfl
     rw [e30]
     exact answersR rfl ⟨trivial, trivial⟩ (rfl) rfl
end Go.Proofs.Ytmijbjpdjggppaa

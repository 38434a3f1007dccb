import Derived.Test.YtbfmonajbfljmaaDoorPack
namespace Go.Proofs.YtbfmonajbfljmaaDoor
open Go Go.RowKit Go.Proofs.YtbfmonajbfljmaaDoorVm
attribute [local irreducible] opsWp AnswersE OpsS
set_option maxHeartbeats 400000
set_option maxRecDepth 100000
set_option linter.all false
def take_J29 (b : List UInt8) (k0 : Nat) : Bool :=
  if (IntKind.u64.wrap ((b.getD k0 default).toNat) : Int) = 0 then (if (k0 : Int) > 0 then (decide ((k0 : Int) > 0)) else if (k0 : Int) = 9 then (decide ((IntKind.u64.wrap ((b.getD k0 default).toNat) : Int) > 1)) else false) else if (k0 : Int) = 9 then (decide ((IntKind.u64.wrap ((b.getD k0 default).toNat) : Int) > 1)) else false
def take_L0 (b : List UInt8) : Nat → Nat → Int → Sum (Int × Int) Unit
  | 0, k0, n0 => .inr ()
  | n_ + 1, k0, n0 => if (IntKind.u64.wrap ((b.getD k0 default).toNat) : Int) ≥ 128 then take_L0 b n_ (k0 + 1) (orK IntKind.u64 n0 (shlK IntKind.u64 (andK IntKind.u64 (IntKind.u64.wrap ((b.getD k0 default).toNat)) 127) (IntKind.i64.wrap (7 * k0)))) else (let t28_29 := take_J29 b k0; if t28_29 = true then .inl (0, 0) else .inl ((orK IntKind.u64 n0 (shlK IntKind.u64 (andK IntKind.u64 (IntKind.u64.wrap ((b.getD k0 default).toNat)) 127) (IntKind.i64.wrap (7 * k0)))), (IntKind.i64.wrap (k0 + 1))))
def take (b : List UInt8) : Int × Int :=
  (match take_L0 b ((min b.length 10) - 0) 0 0 with
    | .inl r_ => r_
    | .inr () => (0, 0))
theorem take_ok (b : List UInt8) (b_f : Bool) : Ok Tryd.prog 56 [.pv (.slc b.length b_f (encY b))] [] (.tup [.pv (.int .u64 (take b).1), I (take b).2]) [] [] := by
 refine Ok.len fun hlen => ?_
 have hl_b : b.length ≤ maxLen := hlen _ (by simp [lensL, lens, lensP])
 unfold maxLen at hl_b
 refine ok_of_sem Tryd.func56 rfl ?_
 show Walks Tryd.prog _ _ ⟨[(0, .pv (.slc b.length b_f (encY b)))], [], 0, [], 45, 0⟩
 refine sem_seq (sem_region rfl (step_r rfl rfl trivial (step_r rfl rfl trivial (step_nil (seqK_n (sem_seq (sem_region rfl (step_r rfl rfl trivial (step_nil (seqK_n (sem_seq ?_)))))))))))
 refine sem_seq (sem_region rfl (step_r rfl rfl trivial (step_r rfl rfl trivial ?_)))
 refine step_min rfl rfl rfl ?_
 refine step_r rfl rfl trivial (step_nil (seqK_n ?_))
 refine sem_cutW (fun w_ : Unit => match w_ with | () => (⟨[], [], 0, [], 45, 0⟩ : St)) (fun w_ => take_L0 b ((min b.length 10) - 0) 0 0 = .inr w_) ?_ ?_
 ·refine sem_block ?_
  refine sem_loopT (fun w_ : Nat × Int => match w_ with | (k0, n0) => (⟨[(0, .pv (.slc b.length b_f (encY b))), (4, .pv (.int .u64 n0)), (9, I (min (b.length : Int) 10)), (10, I k0)], [], 0, [], 45, 0⟩ : St)) (fun w_ : Nat × Int => match w_ with | (k0, n0) => take_L0 b ((min b.length 10) - k0) k0 n0 = take_L0 b ((min b.length 10) - 0) 0 0 ∧ k0 ≤ min b.length 10) (fun w_ : Nat × Int => match w_ with | (k0, n0) => min b.length 10 - k0) (0, 0) (⟨rfl, (by first | omega | (simp; omega))⟩) ?_ (fun w_ hh_ => ?_)
  ·exact (Trans.ren [] (by decide +kernel) (by decide +kernel) rfl ⟨⟨rfl, rfl⟩, ⟨rfl, rfl⟩, ⟨rfl, rfl⟩, ⟨rfl, rfl⟩, trivial⟩ trivial (by decide))
  obtain ⟨k0, n0⟩ := w_
  obtain ⟨hI0, hb0⟩ := hh_
  show Walks Tryd.prog _ _ (⟨[(0, .pv (.slc b.length b_f (encY b))), (4, .pv (.int .u64 n0)), (9, I (min (b.length : Int) 10)), (10, I k0)], [], 0, [], 45, 0⟩ : St)
  refine sem_seq (sem_region rfl (step_bin rfl rfl rfl rfl rfl trivial (step_nil (seqK_n (sem_seq ?_)))))
  refine sem_cond rfl (fun h2 => ?_) (fun h2 => ?_)
  ·have g2 : (k0 : Int) < (min (b.length : Int) 10) := of_decide_eq_true h2
   have hm0 : min b.length 10 - k0 = (min b.length 10 - (k0 + 1)) + 1 := by omega
   refine sem_skip (seqK_n (sem_seq (sem_block (sem_seq (sem_region rfl (step_r rfl rfl trivial (step_r rfl rfl trivial (step_nil (seqK_n (sem_seq (sem_region rfl ?_)))))))))))
   refine step_r rfl rfl trivial (step_r rfl rfl trivial ?_)
   have jk4 : k0 < b.length := by first | assumption | omega | (simp only [List.length_set, List.length_append]; omega) | (simp only [IntKind.wrap_i64] at *; omega) | (simp; omega) | simp_all
   refine step_idxS (k := k0) rfl rfl rfl rfl jk4 (encY_ne jk4) rfl (step_load_one rfl rfl rfl (encY_get (get_getD jk4)) rfl (step_r rfl rfl trivial (step_r rfl rfl trivial (step_nil (seqK_n (sem_seq (sem_region rfl (step_r rfl rfl trivial (step_r rfl rfl trivial (step_bin rfl rfl rfl rfl rfl trivial (step_r rfl rfl trivial ?_)))))))))))
   refine step_bin rfl rfl rfl rfl rfl trivial ?_
   refine step_bin rfl rfl rfl rfl rfl (by first | decide | omega | (show (0 : Int) ≤ IntKind.i64.wrap _; rw [wrap_lt (by omega) (by omega)]; omega) | simp_all) ?_
   refine step_bin rfl rfl rfl rfl rfl trivial (step_r rfl rfl trivial (step_nil (seqK_n (sem_seq (sem_block (sem_seq (sem_region rfl (step_r rfl rfl trivial (step_bin rfl rfl rfl rfl rfl trivial (step_r rfl rfl trivial (step_nil ?_)))))))))))
   refine seqK_n ?_
   refine sem_cond rfl (fun h9 => ?_) (fun h9 => ?_)
   ·have g9 : (IntKind.u64.wrap ((b.getD k0 default).toNat) : Int) ≥ 128 := of_decide_eq_true h9
    refine sem_exit ?_
    refine blkK_f rfl ?_
    refine seqK_e (blkK_t rfl (seqK_n (sem_region rfl (step_bin rfl rfl rfl rfl rfl trivial (step_r rfl rfl trivial (step_nil ?_))))))
    have e11 : take_L0 b ((min b.length 10) - k0) k0 n0 = take_L0 b ((min b.length 10) - (k0 + 1)) (k0 + 1) (orK IntKind.u64 n0 (shlK IntKind.u64 (andK IntKind.u64 (IntKind.u64.wrap ((b.getD k0 default).toNat)) 127) (IntKind.i64.wrap (7 * k0)))) := by
     rewrite [hm0]
     rewrite [take_L0]
     try dsimp only
     rewrite [if_pos g9]
     all_goals rfl
    exact lup_againT (k0 + 1, (orK IntKind.u64 n0 (shlK IntKind.u64 (andK IntKind.u64 (IntKind.u64.wrap ((b.getD k0 default).toNat)) 127) (IntKind.i64.wrap (7 * k0))))) ⟨e11.symm.trans hI0, (by omega)⟩ (by show min b.length 10 - (k0 + 1) < min b.length 10 - k0; omega) (Trans.ren [] (by decide +kernel) (by decide +kernel) rfl ⟨⟨rfl, rfl⟩, ⟨rfl, rfl⟩, ⟨rfl, rfl⟩, ⟨congrArg (fun n => some (I n)) (wrapI (k := k0) (by first | omega | (simp; omega))), rfl⟩, trivial⟩ trivial (by decide))
   ·have g9 : ¬ ((IntKind.u64.wrap ((b.getD k0 default).toNat) : Int) ≥ 128) := of_decide_eq_false h9
    refine sem_seq ?_
    refine sem_cutW (fun t28_29 : Bool => (⟨[(4, .pv (.int .u64 (orK IntKind.u64 n0 (shlK IntKind.u64 (andK IntKind.u64 (IntKind.u64.wrap ((b.getD k0 default).toNat)) 127) (IntKind.i64.wrap (7 * k0)))))), (5, I k0), (28, B t28_29)], [], 0, [], 45, 0⟩ : St)) (fun w_ => take_J29 b k0 = w_) ?_ ?_
    ·refine sem_seq (sem_region rfl (step_r rfl rfl trivial (step_bin rfl rfl rfl rfl rfl trivial (step_r rfl rfl trivial ?_))))
     refine step_gs rfl (fun h14 => ?_) (fun h14 => ?_)
     ·have g14 : (IntKind.u64.wrap ((b.getD k0 default).toNat) : Int) = 0 := beq_t h14
      refine step_g1 rfl h14 (step_r rfl rfl trivial (step_g1 rfl h14 (step_bin rfl rfl rfl rfl rfl trivial (step_pickT rfl h14 rfl rfl (step_r rfl rfl trivial (step_nil (seqK_n ?_)))))))
      refine sem_cond rfl (fun h16 => ?_) (fun h16 => ?_)
      ·have g16 : (k0 : Int) > 0 := of_decide_eq_true h16
       refine sem_skip ?_
       have e17 : take_J29 b k0 = (decide ((k0 : Int) > 0)) := by
        unfold take_J29
        try dsimp only
        rewrite [if_pos g14, if_pos g16]
        all_goals rfl
       exact cutW_n (decide ((k0 : Int) > 0)) e17 (Trans.ren [] (by decide +kernel) (by decide +kernel) rfl ⟨⟨rfl, rfl⟩, ⟨rfl, rfl⟩, ⟨rfl, rfl⟩, trivial⟩ trivial (by decide))
      ·have g16 : ¬ ((k0 : Int) > 0) := of_decide_eq_false h16
       refine sem_region rfl (step_r rfl rfl trivial (step_bin rfl rfl rfl rfl rfl trivial (step_r rfl rfl trivial ?_)))
       refine step_gs rfl (fun h19 => ?_) (fun h19 => ?_)
       ·have g19 : (k0 : Int) = 9 := beq_t h19
        refine step_g1 rfl h19 (step_r rfl rfl trivial (step_g1 rfl h19 (step_bin rfl rfl rfl rfl rfl trivial (step_pickT rfl h19 rfl rfl (step_r rfl rfl trivial (step_nil ?_))))))
        have e21 : take_J29 b k0 = (decide ((IntKind.u64.wrap ((b.getD k0 default).toNat) : Int) > 1)) := by
         unfold take_J29
         try dsimp only
         rewrite [if_pos g14, if_neg g16, if_pos g19]
         all_goals rfl
        exact cutW_n (decide ((IntKind.u64.wrap ((b.getD k0 default).toNat) : Int) > 1)) e21 (Trans.ren [] (by decide +kernel) (by decide +kernel) rfl ⟨⟨rfl, rfl⟩, ⟨rfl, rfl⟩, ⟨rfl, rfl⟩, trivial⟩ trivial (by decide))
       ·have g19 : ¬ ((k0 : Int) = 9) := beq_f h19
        refine step_g0 rfl h19 rfl (step_g0 rfl h19 rfl (step_pickF rfl h19 rfl rfl (step_r rfl rfl trivial (step_nil ?_))))
        have e22 : take_J29 b k0 = false := by
         unfold take_J29
         try dsimp only
         rewrite [if_pos g14, if_neg g16, if_neg g19]
         all_goals rfl
        exact cutW_n false e22 (Trans.ren [] (by decide +kernel) (by decide +kernel) rfl ⟨⟨rfl, rfl⟩, ⟨rfl, rfl⟩, ⟨rfl, rfl⟩, trivial⟩ trivial (by decide))
     ·have g14 : ¬ ((IntKind.u64.wrap ((b.getD k0 default).toNat) : Int) = 0) := beq_f h14
      refine step_g0 rfl h14 rfl (step_g0 rfl h14 rfl (step_pickF rfl h14 rfl rfl (step_r rfl rfl trivial (step_nil (seqK_n (sem_condF rfl (sem_region rfl (step_r rfl rfl trivial (step_bin rfl rfl rfl rfl rfl trivial (step_r rfl rfl trivial ?_))))))))))
      refine step_gs rfl (fun h24 => ?_) (fun h24 => ?_)
      ·have g24 : (k0 : Int) = 9 := beq_t h24
       refine step_g1 rfl h24 (step_r rfl rfl trivial (step_g1 rfl h24 (step_bin rfl rfl rfl rfl rfl trivial (step_pickT rfl h24 rfl rfl (step_r rfl rfl trivial (step_nil ?_))))))
       have e26 : take_J29 b k0 = (decide ((IntKind.u64.wrap ((b.getD k0 default).toNat) : Int) > 1)) := by
        unfold take_J29
        try dsimp only
        rewrite [if_neg g14, if_pos g24]
        all_goals rfl
       exact cutW_n (decide ((IntKind.u64.wrap ((b.getD k0 default).toNat) : Int) > 1)) e26 (Trans.ren [] (by decide +kernel) (by decide +kernel) rfl ⟨⟨rfl, rfl⟩, ⟨rfl, rfl⟩, ⟨rfl, rfl⟩, trivial⟩ trivial (by decide))
      ·have g24 : ¬ ((k0 : Int) = 9) := beq_f h24
       refine step_g0 rfl h24 rfl (step_g0 rfl h24 rfl (step_pickF rfl h24 rfl rfl (step_r rfl rfl trivial (step_nil ?_))))
       have e27 : take_J29 b k0 = false := by
        unfold take_J29
        try dsimp only
        rewrite [if_neg g14, if_neg g24]
        all_goals rfl
       exact cutW_n false e27 (Trans.ren [] (by decide +kernel) (by decide +kernel) rfl ⟨⟨rfl, rfl⟩, ⟨rfl, rfl⟩, ⟨rfl, rfl⟩, trivial⟩ trivial (by decide))
    ·rintro t28_29 (hJ12 : take_J29 b k0 = t28_29)
     show seqK _ _ _ .normal (⟨[(4, .pv (.int .u64 (orK IntKind.u64 n0 (shlK IntKind.u64 (andK IntKind.u64 (IntKind.u64.wrap ((b.getD k0 default).toNat)) 127) (IntKind.i64.wrap (7 * k0)))))), (5, I k0), (28, B t28_29)], [], 0, [], 45, 0⟩ : St)
     refine seqK_n ?_
     refine sem_cond rfl (fun h28 => ?_) (fun h28 => ?_)
     ·have g28 : t28_29 = true := h28
      refine sem_seq (sem_region rfl (step_r rfl rfl trivial (step_r rfl rfl trivial (step_nil (seqK_n (sem_ret (blkK_r (seqK_r (blkK_r (seqK_r (lupK_r ?_)))))))))))
      refine blkK_r (cutW_r (seqK_r ?_))
      have e29 : take_L0 b ((min b.length 10) - 0) 0 0 = .inl (0, 0) := by
       rewrite [← hI0, hm0]
       rewrite [take_L0]
       try dsimp only
       rewrite [if_neg g9, hJ12]
       try dsimp only
       rewrite [if_pos g28]
       all_goals rfl
      have e30 : take b = (0, 0) := by
       unfold take
       try dsimp only
       rewrite [e29]
       try dsimp only
       all_goals rfl
      rw [e30]
      exact answersR rfl ⟨trivial, trivial, trivial⟩ (rfl) rfl
     ·have g28 : ¬ (t28_29 = true) := boo_f h28
      refine sem_skip (blkK_n (seqK_n (sem_seq (sem_region rfl (step_r rfl rfl trivial (step_r rfl rfl trivial (step_bin rfl rfl rfl rfl rfl trivial (step_r rfl rfl trivial (step_r rfl rfl trivial (step_nil (seqK_n ?_)))))))))))
      refine sem_ret (blkK_r (seqK_r (lupK_r (blkK_r (cutW_r (seqK_r ?_))))))
      have e34 : take_L0 b ((min b.length 10) - 0) 0 0 = .inl ((orK IntKind.u64 n0 (shlK IntKind.u64 (andK IntKind.u64 (IntKind.u64.wrap ((b.getD k0 default).toNat)) 127) (IntKind.i64.wrap (7 * k0)))), (IntKind.i64.wrap (k0 + 1))) := by
       rewrite [← hI0, hm0]
       rewrite [take_L0]
       try dsimp only
       rewrite [if_neg g9, hJ12]
       try dsimp only
       rewrite [if_neg g28]
       all_goals rfl
      have e35 : take b = ((orK IntKind.u64 n0 (shlK IntKind.u64 (andK IntKind.u64 (IntKind.u64.wrap ((b.getD k0 default).toNat)) 127) (IntKind.i64.wrap (7 * k0)))), (IntKind.i64.wrap (k0 + 1))) := by
       unfold take
       try dsimp only
       rewrite [e34]
       try dsimp only
       all_goals rfl
      rw [e35]
      exact answersR rfl ⟨trivial, trivial, trivial⟩ (rfl) rfl
  ·have g2 : ¬ ((k0 : Int) < (min (b.length : Int) 10)) := of_decide_eq_false h2
   have hm0 : min b.length 10 - k0 = 0 := by omega
   refine sem_exit (seqK_e (lupK_e (blkK_t rfl ?_)))
   have e36 : take_L0 b ((min b.length 10) - 0) 0 0 = .inr () := by
    rewrite [← hI0, hm0]
    rewrite [take_L0]
    try dsimp only
    all_goals rfl
   exact cutW_n () e36 (Trans.ren [] (by decide +kernel) (by decide +kernel) rfl trivial trivial (by decide))
 ·rintro ⟨⟩ (hJ1 : take_L0 b ((min b.length 10) - 0) 0 0 = .inr ())
  show seqK _ _ _ .normal (⟨[], [], 0, [], 45, 0⟩ : St)
  refine seqK_n (sem_seq (sem_region rfl (step_r rfl rfl trivial (step_r rfl rfl trivial (step_nil (seqK_n (sem_ret ?_)))))))
  have e37 : take b = (0, 0) := by
   unfold take
   try dsimp only
   rewrite [hJ1]
   try dsimp only
   all_goals rfl
  rw [e37]
  exact answersR rfl ⟨trivial, trivial, trivial⟩ (rfl) rfl

def read (b : List UInt8) (at_ : Int) : Int × Int × Int :=
  if (at_ : Int) < 0 then (0, at_, 2) else if (at_ : Int) > b.length then (0, at_, 2) else if ((take (b.drop at_.toNat)).2 : Int) = 0 then (0, at_, 2) else ((take (b.drop at_.toNat)).1, (IntKind.i64.wrap (at_ + ((take (b.drop at_.toNat)).2))), 0)
theorem read_ok (b : List UInt8) (b_f : Bool) (at_ : Int) : Ok Tryd.prog 45 [.pv (.slc b.length b_f (encY b)), I at_] [] (.tup [.pv (.int .u64 (read b at_).1), I (read b at_).2.1, I (read b at_).2.2]) [] [] := by
 refine Ok.len fun hlen => ?_
 have hl_b : b.length ≤ maxLen := hlen _ (by simp [lensL, lens, lensP])
 unfold maxLen at hl_b
 refine ok_of_sem Tryd.func45 rfl ?_
 show Walks Tryd.prog _ _ ⟨[(0, .pv (.slc b.length b_f (encY b))), (1, I at_)], [], 0, [], 32, 0⟩
 refine sem_seq (sem_region rfl (step_r rfl rfl trivial (step_r rfl rfl trivial (step_r rfl rfl trivial (step_nil (seqK_n (sem_seq (sem_seq (sem_region rfl (step_r rfl rfl trivial (step_bin rfl rfl rfl rfl rfl trivial ?_)))))))))))
 refine step_r rfl rfl trivial ?_
 refine step_gs rfl (fun h3 => ?_) (fun h3 => ?_)
 ·have g3 : (at_ : Int) < 0 := of_decide_eq_true h3
  refine step_g0 rfl h3 rfl (step_g0 rfl h3 rfl (step_g0 rfl h3 rfl (step_g0 rfl h3 rfl (step_pickT rfl h3 rfl rfl (step_nil (seqK_n (sem_condT rfl (sem_seq (sem_region rfl (step_r rfl rfl trivial (step_r rfl rfl trivial ?_)))))))))))
  refine step_r rfl rfl trivial (step_r rfl rfl trivial (step_nil (seqK_n (sem_ret (seqK_r ?_)))))
  have e4 : read b at_ = (0, at_, 2) := by
   unfold read
   try dsimp only
   rewrite [if_pos g3]
   all_goals rfl
  rw [e4]
  exact answersR rfl ⟨trivial, trivial, trivial, trivial⟩ (rfl) rfl
 ·have g3 : ¬ ((at_ : Int) < 0) := of_decide_eq_false h3
  refine step_g1 rfl h3 (step_r rfl rfl trivial (step_g1 rfl h3 (step_r rfl rfl trivial (step_g1 rfl h3 (step_r rfl rfl trivial (step_g1 rfl h3 (step_bin rfl rfl rfl rfl rfl trivial (step_pickF rfl h3 rfl rfl (step_nil (seqK_n ?_))))))))))
  refine sem_cond rfl (fun h6 => ?_) (fun h6 => ?_)
  ·have g6 : (at_ : Int) > b.length := of_decide_eq_true h6
   refine sem_seq (sem_region rfl (step_r rfl rfl trivial (step_r rfl rfl trivial (step_r rfl rfl trivial (step_r rfl rfl trivial (step_nil (seqK_n (sem_ret (seqK_r ?_)))))))))
   have e7 : read b at_ = (0, at_, 2) := by
    unfold read
    try dsimp only
    rewrite [if_neg g3, if_pos g6]
    all_goals rfl
   rw [e7]
   exact answersR rfl ⟨trivial, trivial, trivial, trivial⟩ (rfl) rfl
  ·have g6 : ¬ ((at_ : Int) > b.length) := of_decide_eq_false h6
   refine sem_skip (seqK_n (sem_seq (sem_region rfl (step_r rfl rfl trivial (step_r rfl rfl trivial ?_)))))
   refine step_slcFrom (k := at_.toNat) (n' := (b.drop at_.toNat).length) (cs' := encY (b.drop at_.toNat)) rfl rfl (Int.toNat_of_nonneg (by first | omega | (simp only [IntKind.wrap_i64]; omega))).symm rfl rfl (by first | omega | (simp only [IntKind.wrap_i64]; omega) | (simp; omega)) (List.length_drop ..).symm (encY_from b at_.toNat) rfl ?_
   refine step_call rfl rfl rfl rfl (take_ok (b.drop at_.toNat) b_f) rfl rfl rfl (step_r rfl rfl trivial (step_r rfl rfl trivial (step_r rfl rfl trivial (step_r rfl rfl trivial (step_r rfl rfl trivial (step_nil (seqK_n (sem_seq (sem_seq (sem_region rfl (step_r rfl rfl trivial ?_)))))))))))
   refine step_bin rfl rfl rfl rfl rfl trivial (step_nil (seqK_n ?_))
   refine sem_cond rfl (fun h10 => ?_) (fun h10 => ?_)
   ·have g10 : ((take (b.drop at_.toNat)).2 : Int) = 0 := beq_t h10
    refine sem_seq (sem_region rfl (step_r rfl rfl trivial (step_r rfl rfl trivial (step_r rfl rfl trivial (step_r rfl rfl trivial (step_nil (seqK_n (sem_ret (seqK_r ?_)))))))))
    have e11 : read b at_ = (0, at_, 2) := by
     unfold read
     try dsimp only
     rewrite [if_neg g3, if_neg g6, if_pos g10]
     all_goals rfl
    rw [e11]
    exact answersR rfl ⟨trivial, trivial, trivial, trivial⟩ (rfl) rfl
   ·have g10 : ¬ (((take (b.drop at_.toNat)).2 : Int) = 0) := beq_f h10
    refine sem_skip (seqK_n (sem_seq (sem_region rfl (step_r rfl rfl trivial (step_r rfl rfl trivial (step_r rfl rfl trivial (step_bin rfl rfl rfl rfl rfl trivial (step_r rfl rfl trivial (step_r rfl rfl trivial (step_r rfl rfl trivial (step_nil ?_)))))))))))
    refine seqK_n (sem_ret ?_)
    have e13 : read b at_ = ((take (b.drop at_.toNat)).1, (IntKind.i64.wrap (at_ + ((take (b.drop at_.toNat)).2))), 0) := by
     unfold read
     try dsimp only
     rewrite [if_neg g3, if_neg g6, if_neg g10]
     all_goals rfl
    rw [e13]
    exact answersR rfl ⟨trivial, trivial, trivial, trivial⟩ (rfl) rfl

def readI (b : List UInt8) (at_ : Int) : Int × Int × Int :=
  ((unfo ((read b at_).1)), (read b at_).2.1, (read b at_).2.2)
theorem readI_ok (b : List UInt8) (b_f : Bool) (at_ : Int) : Ok Tryd.prog 31 [.pv (.slc b.length b_f (encY b)), I at_] [] (.tup [I (readI b at_).1, I (readI b at_).2.1, I (readI b at_).2.2]) [] [] := by
 refine Ok.len fun hlen => ?_
 have hl_b : b.length ≤ maxLen := hlen _ (by simp [lensL, lens, lensP])
 unfold maxLen at hl_b
 refine ok_of_sem Tryd.func31 rfl ?_
 show Walks Tryd.prog _ _ ⟨[(0, .pv (.slc b.length b_f (encY b))), (1, I at_)], [], 0, [], 21, 0⟩
 refine sem_seq (sem_region rfl (step_r rfl rfl trivial (step_r rfl rfl trivial (step_r rfl rfl trivial (step_nil (seqK_n (sem_seq (sem_region rfl (step_r rfl rfl trivial (step_r rfl rfl trivial (step_call rfl rfl rfl rfl (read_ok b b_f at_) rfl rfl rfl ?_)))))))))))
 refine step_r rfl rfl trivial (step_r rfl rfl trivial (step_r rfl rfl trivial (step_r rfl rfl trivial (step_r rfl rfl trivial (step_r rfl rfl trivial (step_r rfl rfl trivial (step_nil (seqK_n (sem_seq (sem_region rfl (step_r rfl rfl trivial ?_)))))))))))
 refine step_call rfl rfl rfl rfl (unfo_ok ((read b at_).1)) rfl rfl rfl (step_r rfl rfl trivial (step_r rfl rfl trivial (step_r rfl rfl trivial (step_r rfl rfl trivial (step_r rfl rfl trivial (step_nil (seqK_n (sem_ret ?_))))))))
 have e6 : readI b at_ = ((unfo ((read b at_).1)), (read b at_).2.1, (read b at_).2.2) := by
  unfold readI
  try dsimp only
  all_goals rfl
 rw [e6]
 exact answersR rfl ⟨trivial, trivial, trivial, trivial⟩ (rfl) rfl
end Go.Proofs.YtbfmonajbfljmaaDoor

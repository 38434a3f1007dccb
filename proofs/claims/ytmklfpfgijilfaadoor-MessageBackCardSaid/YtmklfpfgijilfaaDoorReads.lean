import Derived.Test.YtmklfpfgijilfaaDoorPack
namespace Go.Proofs.YtmklfpfgijilfaaDoor
open Go Go.RowKit Go.Proofs.YtmklfpfgijilfaaDoorVm
attribute [local irreducible] opsWp AnswersE OpsS
set_option maxHeartbeats 400000
set_option maxRecDepth 100000
set_option linter.all false
def take_J29 (b : List UInt8) (k0 : Nat) : Bool :=
  if (IntKind.u64.wrap ((b.getD k0 default).toNat) : Int) = 0 then (if (k0 : Int) > 0 then (decide ((k0 : Int) > 0)) else if (k0 : Int) = 9 then (decide ((IntKind.u64.wrap ((b.getD k0 default).toNat) : Int) > 1)) else false) else if (k0 : Int) = 9 then (decide ((IntKind.u64.wrap ((b.getD k0 default).toNat) : Int) > 1)) else false
def take_L0 (b : List UInt8) : Nat → Nat → Int → Sum (Int × Int) Unit
  | 0, k0, n0 => .inr ()
  | n_ + 1, k0, n0 => if (IntKind.u64.wrap ((b.getD k0 default).toNat) : Int) ≥ 128 then take_L0 b n_ (k0 + 1) (orK IntKind.u64 n0 (shlK IntKind.u64 (andK IntKind.u64 (IntKind.u64.wrap ((b.getD k0 default).toNat)) 127) (IntKind.i64.wrap (7 * k0)))) else (let t28_29 := take_J29 b k0; if t28_29 = true then .inl (0, 0) else .inl ((orK IntKind.u64 n0 (shlK IntKind.u64 (andK IntKind.u64 (IntKind.u64.wrap ((b.getD k0 default).toNat)) 127) (IntKind.i64.wrap (7 * k0)))), (IntKind.i64.wrap (k0 + 1))))
def take (b : List UInt8) : Int × Int :=
  (match take_L0 b ((min b.length 10) - 0) 0 0 with
    | .inl r_ => r_
    | .inr () => (0, 0))
theorem take_ok (b : List UInt8) (b_f : Bool) : Ok Tryd.prog 45 [.pv (.slc b.length b_f (encY b))] [] (.tup [.pv (.int .u64 (take b).1), I (take b).2]) [] [] := by
 refine Ok.len fun hlen => ?_
 have hl_b : b.length ≤ maxLen := hlen _ (by simp [lensL, lens, lensP])
 unfold maxLen at hl_b
 refine ok_of_sem Tryd.func45 rfl ?_
 show Walks Tryd.prog _ _ ⟨[(0, .pv (.slc b.length b_f (encY b)))], [], 0, [], 45, 0⟩
 refine sem_seq (sem_region rfl (step_r rfl rfl trivial (step_r rfl rfl trivial (step_nil (seqK_n (sem_seq (sem_region rfl (step_r rfl rfl trivial (step_nil (seqK_n (sem_seq ?_)))))))))))
 refine sem_seq (sem_region rfl (step_r rfl rfl trivial (step_r rfl rfl trivial ?_)))
 refine step_min rfl rfl rfl ?_
 refine step_r rfl rfl trivial (step_nil (seqK_n ?_))
 refine sem_cutW (fun w_ : Unit => match w_ with | () => (⟨[], [], 0, [], 45, 0⟩ : St)) (fun w_ => take_L0 b ((min b.length 10) - 0) 0 0 = .inr w_) ?_ ?_
 ·refine sem_block ?_
  refine sem_loopT (fun w_ : Nat × Int => match w_ with | (k0, n0) => (⟨[(0, .pv (.slc b.length b_f (encY b))), (4, .pv (.int .u64 n0)), (9, I (min (b.length : Int) 10)), (10, I k0)], [], 0, [], 45, 0⟩ : St)) (fun w_ : Nat × Int => match w_ with | (k0, n0) => take_L0 b ((min b.length 10) - k0) k0 n0 = take_L0 b ((min b.length 10) - 0) 0 0 ∧ k0 ≤ min b.length 10) (fun w_ : Nat × Int => match w_ with | (k0, n0) => min b.length 10 - k0) (0, 0) (⟨rfl, (by first | omega | (simp; omega))⟩) ?_ (fun w_ hh_ => ?_)
  ·exact (Trans.ren [] (by decide +kernel) (by decide +kernel) rfl ⟨⟨rfl, rfl⟩, ⟨rfl, rfl⟩, ⟨rfl, rfl⟩, ⟨rfl, rfl⟩, trivial⟩ trivial (by decide))
  obtain ⟨k0, n0⟩ := w_
  obtain ⟨hI0, hb0⟩ := hh_
  show Walks Tryd.prog _ _ (⟨[(0, .pv (.slc b.length b_f (encY b))), (4, .pv (.int .u64 n0)), (9, I (min (b.length : Int) 10)), (10, I k0)], [], 0, [], 45, 0⟩ : St)
  refine sem_seq (sem_region rfl (step_bin rfl rfl rfl rfl rfl trivial (step_nil (seqK_n (sem_seq ?_)))))
  refine sem_cond rfl (fun h2 => ?_) (fun h2 => ?_)
  ·have g2 : (k0 : Int) < (min (b.length : Int) 10) := of_decide_eq_true h2
   have hm0 : min b.length 10 - k0 = (min b.length 10 - (k0 + 1)) + 1 := by omega
   refine sem_skip (seqK_n (sem_seq (sem_block (sem_seq (sem_region rfl (step_r rfl rfl trivial (step_r rfl rfl trivial (step_nil (seqK_n (sem_seq (sem_region rfl ?_)))))))))))
   refine step_r rfl rfl trivial (step_r rfl rfl trivial ?_)
   have jk4 : k0 < b.length := by first | assumption | omega | (simp only [List.length_set, List.length_append]; omega) | (simp only [IntKind.wrap_i64] at *; omega) | (simp; omega) | simp_all
   refine step_idxS (k := k0) rfl rfl rfl rfl jk4 (encY_ne jk4) rfl (step_load_one rfl rfl rfl (encY_get (get_getD jk4)) rfl (step_r rfl rfl trivial (step_r rfl rfl trivial (step_nil (seqK_n (sem_seq (sem_region rfl (step_r rfl rfl trivial (step_r rfl rfl trivial (step_bin rfl rfl rfl rfl rfl trivial (step_r rfl rfl trivial ?_)))))))))))
   refine step_bin rfl rfl rfl rfl rfl trivial ?_
   refine step_bin rfl rfl rfl rfl rfl (by first | decide | omega | (show (0 : Int) ≤ IntKind.i64.wrap _; rw [wrap_lt (by omega) (by omega)]; omega) | simp_all) ?_
   refine step_bin rfl rfl rfl rfl rfl trivial (step_r rfl rfl trivial (step_nil (seqK_n (sem_seq (sem_block (sem_seq (sem_region rfl (step_r rfl rfl trivial (step_bin rfl rfl rfl rfl rfl trivial (step_r rfl rfl trivial (step_nil ?_)))))))))))
   refine seqK_n ?_
   refine sem_cond rfl (fun h9 => ?_) (fun h9 => ?_)
   ·have g9 : (IntKind.u64.wrap ((b.getD k0 default).toNat) : Int) ≥ 128 := of_decide_eq_true h9
    refine sem_exit ?_
    refine blkK_f rfl ?_
    refine seqK_e (blkK_t rfl (seqK_n (sem_region rfl (step_bin rfl rfl rfl rfl rfl trivial (step_r rfl rfl trivial (step_nil ?_))))))
    have e11 : take_L0 b ((min b.length 10) - k0) k0 n0 = take_L0 b ((min b.length 10) - (k0 + 1)) (k0 + 1) (orK IntKind.u64 n0 (shlK IntKind.u64 (andK IntKind.u64 (IntKind.u64.wrap ((b.getD k0 default).toNat)) 127) (IntKind.i64.wrap (7 * k0)))) := by
     rewrite [hm0]
     rewrite [take_L0]
     try dsimp only
     rewrite [if_pos g9]
     all_goals rfl
    exact lup_againT (k0 + 1, (orK IntKind.u64 n0 (shlK IntKind.u64 (andK IntKind.u64 (IntKind.u64.wrap ((b.getD k0 default).toNat)) 127) (IntKind.i64.wrap (7 * k0))))) ⟨e11.symm.trans hI0, (by omega)⟩ (by show min b.length 10 - (k0 + 1) < min b.length 10 - k0; omega) (Trans.ren [] (by decide +kernel) (by decide +kernel) rfl ⟨⟨rfl, rfl⟩, ⟨rfl, rfl⟩, ⟨rfl, rfl⟩, ⟨congrArg (fun n => some (I n)) (wrapI (k := k0) (by first | omega | (simp; omega))), rfl⟩, trivial⟩ trivial (by decide))
   ·have g9 : ¬ ((IntKind.u64.wrap ((b.getD k0 default).toNat) : Int) ≥ 128) := of_decide_eq_false h9
    refine sem_seq ?_
    refine sem_cutW (fun t28_29 : Bool => (⟨[(4, .pv (.int .u64 (orK IntKind.u64 n0 (shlK IntKind.u64 (andK IntKind.u64 (IntKind.u64.wrap ((b.getD k0 default).toNat)) 127) (IntKind.i64.wrap (7 * k0)))))), (5, I k0), (28, B t28_29)], [], 0, [], 45, 0⟩ : St)) (fun w_ => take_J29 b k0 = w_) ?_ ?_
    ·refine sem_seq (sem_region rfl (step_r rfl rfl trivial (step_bin rfl rfl rfl rfl rfl trivial (step_r rfl rfl trivial ?_))))
     refine step_gs rfl (fun h14 => ?_) (fun h14 => ?_)
     ·have g14 : (IntKind.u64.wrap ((b.getD k0 default).toNat) : Int) = 0 := beq_t h14
      refine step_g1 rfl h14 (step_r rfl rfl trivial (step_g1 rfl h14 (step_bin rfl rfl rfl rfl rfl trivial (step_pickT rfl h14 rfl rfl (step_r rfl rfl trivial (step_nil (seqK_n ?_)))))))
      refine sem_cond rfl (fun h16 => ?_) (fun h16 => ?_)
      ·have g16 : (k0 : Int) > 0 := of_decide_eq_true h16
       refine sem_skip ?_
       have e17 : take_J29 b k0 = (decide ((k0 : Int) > 0)) := by
        unfold take_J29
        try dsimp only
        rewrite [if_pos g14, if_pos g16]
        all_goals rfl
       exact cutW_n (decide ((k0 : Int) > 0)) e17 (Trans.ren [] (by decide +kernel) (by decide +kernel) rfl ⟨⟨rfl, rfl⟩, ⟨rfl, rfl⟩, ⟨rfl, rfl⟩, trivial⟩ trivial (by decide))
      ·have g16 : ¬ ((k0 : Int) > 0) := of_decide_eq_false h16
       refine sem_region rfl (step_r rfl rfl trivial (step_bin rfl rfl rfl rfl rfl trivial (step_r rfl rfl trivial ?_)))
       refine step_gs rfl (fun h19 => ?_) (fun h19 => ?_)
       ·have g19 : (k0 : Int) = 9 := beq_t h19
        refine step_g1 rfl h19 (step_r rfl rfl trivial (step_g1 rfl h19 (step_bin rfl rfl rfl rfl rfl trivial (step_pickT rfl h19 rfl rfl (step_r rfl rfl trivial (step_nil ?_))))))
        have e21 : take_J29 b k0 = (decide ((IntKind.u64.wrap ((b.getD k0 default).toNat) : Int) > 1)) := by
         unfold take_J29
         try dsimp only
         rewrite [if_pos g14, if_neg g16, if_pos g19]
         all_goals rfl
        exact cutW_n (decide ((IntKind.u64.wrap ((b.getD k0 default).toNat) : Int) > 1)) e21 (Trans.ren [] (by decide +kernel) (by decide +kernel) rfl ⟨⟨rfl, rfl⟩, ⟨rfl, rfl⟩, ⟨rfl, rfl⟩, trivial⟩ trivial (by decide))
       ·have g19 : ¬ ((k0 : Int) = 9) := beq_f h19
        refine step_g0 rfl h19 rfl (step_g0 rfl h19 rfl (step_pickF rfl h19 rfl rfl (step_r rfl rfl trivial (step_nil ?_))))
        have e22 : take_J29 b k0 = false := by
         unfold take_J29
         try dsimp only
         rewrite [if_pos g14, if_neg g16, if_neg g19]
         all_goals rfl
        exact cutW_n false e22 (Trans.ren [] (by decide +kernel) (by decide +kernel) rfl ⟨⟨rfl, rfl⟩, ⟨rfl, rfl⟩, ⟨rfl, rfl⟩, trivial⟩ trivial (by decide))
     ·have g14 : ¬ ((IntKind.u64.wrap ((b.getD k0 default).toNat) : Int) = 0) := beq_f h14
      refine step_g0 rfl h14 rfl (step_g0 rfl h14 rfl (step_pickF rfl h14 rfl rfl (step_r rfl rfl trivial (step_nil (seqK_n (sem_condF rfl (sem_region rfl (step_r rfl rfl trivial (step_bin rfl rfl rfl rfl rfl trivial (step_r rfl rfl trivial ?_))))))))))
      refine step_gs rfl (fun h24 => ?_) (fun h24 => ?_)
      ·have g24 : (k0 : Int) = 9 := beq_t h24
       refine step_g1 rfl h24 (step_r rfl rfl trivial (step_g1 rfl h24 (step_bin rfl rfl rfl rfl rfl trivial (step_pickT rfl h24 rfl rfl (step_r rfl rfl trivial (step_nil ?_))))))
       have e26 : take_J29 b k0 = (decide ((IntKind.u64.wrap ((b.getD k0 default).toNat) : Int) > 1)) := by
        unfold take_J29
        try dsimp only
        rewrite [if_neg g14, if_pos g24]
        all_goals rfl
       exact cutW_n (decide ((IntKind.u64.wrap ((b.getD k0 default).toNat) : Int) > 1)) e26 (Trans.ren [] (by decide +kernel) (by decide +kernel) rfl ⟨⟨rfl, rfl⟩, ⟨rfl, rfl⟩, ⟨rfl, rfl⟩, trivial⟩ trivial (by decide))
      ·have g24 : ¬ ((k0 : Int) = 9) := beq_f h24
       refine step_g0 rfl h24 rfl (step_g0 rfl h24 rfl (step_pickF rfl h24 rfl rfl (step_r rfl rfl trivial (step_nil ?_))))
       have e27 : take_J29 b k0 = false := by
        unfold take_J29
        try dsimp only
        rewrite [if_neg g14, if_neg g24]
        all_goals rfl
       exact cutW_n false e27 (Trans.ren [] (by decide +kernel) (by decide +kernel) rfl ⟨⟨rfl, rfl⟩, ⟨rfl, rfl⟩, ⟨rfl, rfl⟩, trivial⟩ trivial (by decide))
    ·rintro t28_29 (hJ12 : take_J29 b k0 = t28_29)
     show seqK _ _ _ .normal (⟨[(4, .pv (.int .u64 (orK IntKind.u64 n0 (shlK IntKind.u64 (andK IntKind.u64 (IntKind.u64.wrap ((b.getD k0 default).toNat)) 127) (IntKind.i64.wrap (7 * k0)))))), (5, I k0), (28, B t28_29)], [], 0, [], 45, 0⟩ : St)
     refine seqK_n ?_
     refine sem_cond rfl (fun h28 => ?_) (fun h28 => ?_)
     ·have g28 : t28_29 = true := h28
      refine sem_seq (sem_region rfl (step_r rfl rfl trivial (step_r rfl rfl trivial (step_nil (seqK_n (sem_ret (blkK_r (seqK_r (blkK_r (seqK_r (lupK_r ?_)))))))))))
      refine blkK_r (cutW_r (seqK_r ?_))
      have e29 : take_L0 b ((min b.length 10) - 0) 0 0 = .inl (0, 0) := by
       rewrite [← hI0, hm0]
       rewrite [take_L0]
       try dsimp only
       rewrite [if_neg g9, hJ12]
       try dsimp only
       rewrite [if_pos g28]
       all_goals rfl
      have e30 : take b = (0, 0) := by
       unfold take
       try dsimp only
       rewrite [e29]
       try dsimp only
       all_goals rfl
      rw [e30]
      exact answersR rfl ⟨trivial, trivial, trivial⟩ (rfl) rfl
     ·have g28 : ¬ (t28_29 = true) := boo_f h28
      refine sem_skip (blkK_n (seqK_n (sem_seq (sem_region rfl (step_r rfl rfl trivial (step_r rfl rfl trivial (step_bin rfl rfl rfl rfl rfl trivial (step_r rfl rfl trivial (step_r rfl rfl trivial (step_nil (seqK_n ?_)))))))))))
      refine sem_ret (blkK_r (seqK_r (lupK_r (blkK_r (cutW_r (seqK_r ?_))))))
      have e34 : take_L0 b ((min b.length 10) - 0) 0 0 = .inl ((orK IntKind.u64 n0 (shlK IntKind.u64 (andK IntKind.u64 (IntKind.u64.wrap ((b.getD k0 default).toNat)) 127) (IntKind.i64.wrap (7 * k0)))), (IntKind.i64.wrap (k0 + 1))) := by
       rewrite [← hI0, hm0]
       rewrite [take_L0]
       try dsimp only
       rewrite [if_neg g9, hJ12]
       try dsimp only
       rewrite [if_neg g28]
       all_goals rfl
      have e35 : take b = ((orK IntKind.u64 n0 (shlK IntKind.u64 (andK IntKind.u64 (IntKind.u64.wrap ((b.getD k0 default).toNat)) 127) (IntKind.i64.wrap (7 * k0)))), (IntKind.i64.wrap (k0 + 1))) := by
       unfold take
       try dsimp only
       rewrite [e34]
       try dsimp only
       all_goals rfl
      rw [e35]
      exact answersR rfl ⟨trivial, trivial, trivial⟩ (rfl) rfl
  ·have g2 : ¬ ((k0 : Int) < (min (b.length : Int) 10)) := of_decide_eq_false h2
   have hm0 : min b.length 10 - k0 = 0 := by omega
   refine sem_exit (seqK_e (lupK_e (blkK_t rfl ?_)))
   have e36 : take_L0 b ((min b.length 10) - 0) 0 0 = .inr () := by
    rewrite [← hI0, hm0]
    rewrite [take_L0]
    try dsimp only
    all_goals rfl
   exact cutW_n () e36 (Trans.ren [] (by decide +kernel) (by decide +kernel) rfl trivial trivial (by decide))
 ·rintro ⟨⟩ (hJ1 : take_L0 b ((min b.length 10) - 0) 0 0 = .inr ())
  show seqK _ _ _ .normal (⟨[], [], 0, [], 45, 0⟩ : St)
  refine seqK_n (sem_seq (sem_region rfl (step_r rfl rfl trivial (step_r rfl rfl trivial (step_nil (seqK_n (sem_ret ?_)))))))
  have e37 : take b = (0, 0) := by
   unfold take
   try dsimp only
   rewrite [hJ1]
   try dsimp only
   all_goals rfl
  rw [e37]
  exact answersR rfl ⟨trivial, trivial, trivial⟩ (rfl) rfl

def read (b : List UInt8) (at_ : Int) : Int × Int × Int :=
  if (at_ : Int) < 0 then (0, at_, 2) else if (at_ : Int) > b.length then (0, at_, 2) else if ((take (b.drop at_.toNat)).2 : Int) = 0 then (0, at_, 2) else ((take (b.drop at_.toNat)).1, (IntKind.i64.wrap (at_ + ((take (b.drop at_.toNat)).2))), 0)
theorem read_ok (b : List UInt8) (b_f : Bool) (at_ : Int) : Ok Tryd.prog 36 [.pv (.slc b.length b_f (encY b)), I at_] [] (.tup [.pv (.int .u64 (read b at_).1), I (read b at_).2.1, I (read b at_).2.2]) [] [] := by
 refine Ok.len fun hlen => ?_
 have hl_b : b.length ≤ maxLen := hlen _ (by simp [lensL, lens, lensP])
 unfold maxLen at hl_b
 refine ok_of_sem Tryd.func36 rfl ?_
 show Walks Tryd.prog _ _ ⟨[(0, .pv (.slc b.length b_f (encY b))), (1, I at_)], [], 0, [], 32, 0⟩
 refine sem_seq (sem_region rfl (step_r rfl rfl trivial (step_r rfl rfl trivial (step_r rfl rfl trivial (step_nil (seqK_n (sem_seq (sem_seq (sem_region rfl (step_r rfl rfl trivial (step_bin rfl rfl rfl rfl rfl trivial ?_)))))))))))
 refine step_r rfl rfl trivial ?_
 refine step_gs rfl (fun h3 => ?_) (fun h3 => ?_)
 ·have g3 : (at_ : Int) < 0 := of_decide_eq_true h3
  refine step_g0 rfl h3 rfl (step_g0 rfl h3 rfl (step_g0 rfl h3 rfl (step_g0 rfl h3 rfl (step_pickT rfl h3 rfl rfl (step_nil (seqK_n (sem_condT rfl (sem_seq (sem_region rfl (step_r rfl rfl trivial (step_r rfl rfl trivial ?_)))))))))))
  refine step_r rfl rfl trivial (step_r rfl rfl trivial (step_nil (seqK_n (sem_ret (seqK_r ?_)))))
  have e4 : read b at_ = (0, at_, 2) := by
   unfold read
   try dsimp only
   rewrite [if_pos g3]
   all_goals rfl
  rw [e4]
  exact answersR rfl ⟨trivial, trivial, trivial, trivial⟩ (rfl) rfl
 ·have g3 : ¬ ((at_ : Int) < 0) := of_decide_eq_false h3
  refine step_g1 rfl h3 (step_r rfl rfl trivial (step_g1 rfl h3 (step_r rfl rfl trivial (step_g1 rfl h3 (step_r rfl rfl trivial (step_g1 rfl h3 (step_bin rfl rfl rfl rfl rfl trivial (step_pickF rfl h3 rfl rfl (step_nil (seqK_n ?_))))))))))
  refine sem_cond rfl (fun h6 => ?_) (fun h6 => ?_)
  ·have g6 : (at_ : Int) > b.length := of_decide_eq_true h6
   refine sem_seq (sem_region rfl (step_r rfl rfl trivial (step_r rfl rfl trivial (step_r rfl rfl trivial (step_r rfl rfl trivial (step_nil (seqK_n (sem_ret (seqK_r ?_)))))))))
   have e7 : read b at_ = (0, at_, 2) := by
    unfold read
    try dsimp only
    rewrite [if_neg g3, if_pos g6]
    all_goals rfl
   rw [e7]
   exact answersR rfl ⟨trivial, trivial, trivial, trivial⟩ (rfl) rfl
  ·have g6 : ¬ ((at_ : Int) > b.length) := of_decide_eq_false h6
   refine sem_skip (seqK_n (sem_seq (sem_region rfl (step_r rfl rfl trivial (step_r rfl rfl trivial ?_)))))
   refine step_slcFrom (k := at_.toNat) (n' := (b.drop at_.toNat).length) (cs' := encY (b.drop at_.toNat)) rfl rfl (Int.toNat_of_nonneg (by first | omega | (simp only [IntKind.wrap_i64]; omega))).symm rfl rfl (by first | omega | (simp only [IntKind.wrap_i64]; omega) | (simp; omega)) (List.length_drop ..).symm (encY_from b at_.toNat) rfl ?_
   refine step_call rfl rfl rfl rfl (take_ok (b.drop at_.toNat) b_f) rfl rfl rfl (step_r rfl rfl trivial (step_r rfl rfl trivial (step_r rfl rfl trivial (step_r rfl rfl trivial (step_r rfl rfl trivial (step_nil (seqK_n (sem_seq (sem_seq (sem_region rfl (step_r rfl rfl trivial ?_)))))))))))
   refine step_bin rfl rfl rfl rfl rfl trivial (step_nil (seqK_n ?_))
   refine sem_cond rfl (fun h10 => ?_) (fun h10 => ?_)
   ·have g10 : ((take (b.drop at_.toNat)).2 : Int) = 0 := beq_t h10
    refine sem_seq (sem_region rfl (step_r rfl rfl trivial (step_r rfl rfl trivial (step_r rfl rfl trivial (step_r rfl rfl trivial (step_nil (seqK_n (sem_ret (seqK_r ?_)))))))))
    have e11 : read b at_ = (0, at_, 2) := by
     unfold read
     try dsimp only
     rewrite [if_neg g3, if_neg g6, if_pos g10]
     all_goals rfl
    rw [e11]
    exact answersR rfl ⟨trivial, trivial, trivial, trivial⟩ (rfl) rfl
   ·have g10 : ¬ (((take (b.drop at_.toNat)).2 : Int) = 0) := beq_f h10
    refine sem_skip (seqK_n (sem_seq (sem_region rfl (step_r rfl rfl trivial (step_r rfl rfl trivial (step_r rfl rfl trivial (step_bin rfl rfl rfl rfl rfl trivial (step_r rfl rfl trivial (step_r rfl rfl trivial (step_r rfl rfl trivial (step_nil ?_)))))))))))
    refine seqK_n (sem_ret ?_)
    have e13 : read b at_ = ((take (b.drop at_.toNat)).1, (IntKind.i64.wrap (at_ + ((take (b.drop at_.toNat)).2))), 0) := by
     unfold read
     try dsimp only
     rewrite [if_neg g3, if_neg g6, if_neg g10]
     all_goals rfl
    rw [e13]
    exact answersR rfl ⟨trivial, trivial, trivial, trivial⟩ (rfl) rfl

def readI (b : List UInt8) (at_ : Int) : Int × Int × Int :=
  ((unfo ((read b at_).1)), (read b at_).2.1, (read b at_).2.2)
theorem readI_ok (b : List UInt8) (b_f : Bool) (at_ : Int) : Ok Tryd.prog 26 [.pv (.slc b.length b_f (encY b)), I at_] [] (.tup [I (readI b at_).1, I (readI b at_).2.1, I (readI b at_).2.2]) [] [] := by
 refine Ok.len fun hlen => ?_
 have hl_b : b.length ≤ maxLen := hlen _ (by simp [lensL, lens, lensP])
 unfold maxLen at hl_b
 refine ok_of_sem Tryd.func26 rfl ?_
 show Walks Tryd.prog _ _ ⟨[(0, .pv (.slc b.length b_f (encY b))), (1, I at_)], [], 0, [], 21, 0⟩
 refine sem_seq (sem_region rfl (step_r rfl rfl trivial (step_r rfl rfl trivial (step_r rfl rfl trivial (step_nil (seqK_n (sem_seq (sem_region rfl (step_r rfl rfl trivial (step_r rfl rfl trivial (step_call rfl rfl rfl rfl (read_ok b b_f at_) rfl rfl rfl ?_)))))))))))
 refine step_r rfl rfl trivial (step_r rfl rfl trivial (step_r rfl rfl trivial (step_r rfl rfl trivial (step_r rfl rfl trivial (step_r rfl rfl trivial (step_r rfl rfl trivial (step_nil (seqK_n (sem_seq (sem_region rfl (step_r rfl rfl trivial ?_)))))))))))
 refine step_call rfl rfl rfl rfl (unfo_ok ((read b at_).1)) rfl rfl rfl (step_r rfl rfl trivial (step_r rfl rfl trivial (step_r rfl rfl trivial (step_r rfl rfl trivial (step_r rfl rfl trivial (step_nil (seqK_n (sem_ret ?_))))))))
 have e6 : readI b at_ = ((unfo ((read b at_).1)), (read b at_).2.1, (read b at_).2.2) := by
  unfold readI
  try dsimp only
  all_goals rfl
 rw [e6]
 exact answersR rfl ⟨trivial, trivial, trivial, trivial⟩ (rfl) rfl

def readR_L0 (b : List UInt8) : Nat → Int → Int
  | 0, _ => default
  | n_ + 1, end0 => if (end0 : Int) < b.length then (if ((b.getD end0.toNat default).toNat : Int) ≥ 128 then readR_L0 b n_ (IntKind.i64.wrap (end0 + 1)) else end0) else end0
def readR_J27 (b : List UInt8) (at_ : Int) (end_0 : Int) : Sum (Int × Int × Bool) Unit :=
  if (end_0 : Int) ≥ b.length then .inl (0, at_, false) else if (IntKind.i64.wrap (end_0 - at_) : Int) > 9 then .inl (0, at_, false) else if (end_0 : Int) > at_ then (if ((b.getD end_0.toNat default).toNat : Int) = 0 then .inl (0, at_, false) else if (IntKind.i64.wrap (end_0 - at_) : Int) = 9 then (if ((b.getD end_0.toNat default).toNat : Int) > 1 then .inl (0, at_, false) else .inr ()) else .inr ()) else if (IntKind.i64.wrap (end_0 - at_) : Int) = 9 then (if ((b.getD end_0.toNat default).toNat : Int) > 1 then .inl (0, at_, false) else .inr ()) else .inr ()
def readR_L1 (b : List UInt8) (at_ : Int) : Nat → Int → Int → Int
  | 0, _, _ => default
  | n_ + 1, n1, i1 => if (i1 : Int) ≥ at_ then readR_L1 b at_ n_ (IntKind.u64.wrap ((IntKind.u64.wrap (128 * n1)) + (IntKind.u64.wrap (((b.getD i1.toNat default).toNat : Int).tmod 128)))) (IntKind.i64.wrap (i1 - 1)) else n1
def readR (b : List UInt8) (at_ : Int) : Int × Int × Bool :=
  if (at_ : Int) < 0 then (0, at_, false) else (let end_0 := readR_L0 b (b.length + 1) at_; (match readR_J27 b at_ end_0 with
    | .inl r_ => r_
    | .inr () => (let n_1 := readR_L1 b at_ (b.length+1) 0 end_0; (n_1, (IntKind.i64.wrap (end_0 + 1)), true))))
theorem readR_ok (b : List UInt8) (b_f : Bool) (at_ : Int) : Ok Tryd.prog 35 [.pv (.slc b.length b_f (encY b)), I at_] [] (.tup [.pv (.int .u64 (readR b at_).1), I (readR b at_).2.1, B (readR b at_).2.2]) [] [] := by
 refine Ok.len fun hlen => ?_
 have hl_b : b.length ≤ maxLen := hlen _ (by simp [lensL, lens, lensP])
 unfold maxLen at hl_b
 refine ok_of_sem Tryd.func35 rfl ?_
 show Walks Tryd.prog _ _ ⟨[(0, .pv (.slc b.length b_f (encY b))), (1, I at_)], [], 0, [], 81, 0⟩
 refine sem_seq (sem_region rfl (step_r rfl rfl trivial (step_r rfl rfl trivial (step_r rfl rfl trivial (step_nil (seqK_n (sem_seq (sem_seq (sem_region rfl (step_r rfl rfl trivial (step_bin rfl rfl rfl rfl rfl trivial ?_)))))))))))
 refine step_nil (seqK_n ?_)
 refine sem_cond rfl (fun h2 => ?_) (fun h2 => ?_)
 ·have g2 : (at_ : Int) < 0 := of_decide_eq_true h2
  refine sem_seq (sem_region rfl (step_r rfl rfl trivial (step_r rfl rfl trivial (step_r rfl rfl trivial (step_r rfl rfl trivial (step_nil (seqK_n (sem_ret (seqK_r ?_)))))))))
  have e3 : readR b at_ = (0, at_, false) := by
   unfold readR
   try dsimp only
   rewrite [if_pos g2]
   all_goals rfl
  rw [e3]
  exact answersR rfl ⟨trivial, trivial, trivial, trivial⟩ (rfl) rfl
 ·have g2 : ¬ ((at_ : Int) < 0) := of_decide_eq_false h2
  refine sem_skip (seqK_n (sem_seq (sem_region rfl (step_r rfl rfl trivial (step_r rfl rfl trivial (step_nil (seqK_n (sem_seq ?_))))))))
  refine sem_cutW (fun end_0 : Int => (⟨[(0, .pv (.slc b.length b_f (encY b))), (1, I at_), (7, I end_0)], [], 0, [], 81, 0⟩ : St)) (fun end_0 : Int => readR_L0 b (b.length + 1) at_ = end_0 ∧ (0 ≤ at_ ∧ 0 ≤ end_0 ∧ at_ ≤ end_0)) ?_ ?_
  ·refine sem_block ?_
   refine sem_loopT (fun w_ : Nat × Int => match w_ with | (f0, end0) => (⟨[(0, .pv (.slc b.length b_f (encY b))), (1, I at_), (7, I end0)], [], 0, [], 81, 0⟩ : St)) (fun w_ : Nat × Int => match w_ with | (f0, end0) => readR_L0 b f0 end0 = readR_L0 b (b.length + 1) at_ ∧ b.length - end0.toNat < f0 ∧ 0 ≤ at_ ∧ 0 ≤ end0 ∧ at_ ≤ end0) (fun w_ : Nat × Int => match w_ with | (f0, end0) => f0) (b.length + 1, at_) (⟨rfl, (by first | omega | (simp; omega)), by first | omega | simp | (simp; omega)⟩) ?_ (fun w_ hh_ => ?_)
   ·exact (Trans.ren [] (by decide +kernel) (by decide +kernel) rfl ⟨⟨rfl, rfl⟩, ⟨rfl, rfl⟩, ⟨rfl, rfl⟩, trivial⟩ trivial (by decide))
   obtain ⟨f0, end0⟩ := w_
   obtain ⟨hI0, hb0, hv0⟩ := hh_
   obtain ⟨f0, rfl⟩ : ∃ z_, f0 = z_ + 1 := ⟨f0 - 1, by omega⟩
   show Walks Tryd.prog _ _ (⟨[(0, .pv (.slc b.length b_f (encY b))), (1, I at_), (7, I end0)], [], 0, [], 81, 0⟩ : St)
   refine sem_seq (sem_seq (sem_region rfl (step_r rfl rfl trivial (step_r rfl rfl trivial (step_r rfl rfl trivial (step_bin rfl rfl rfl rfl rfl trivial (step_r rfl rfl trivial ?_)))))))
   refine step_gs rfl (fun h7 => ?_) (fun h7 => ?_)
   ·have g7 : (end0 : Int) < b.length := of_decide_eq_true h7
    refine step_g1 rfl h7 (step_r rfl rfl trivial (step_g1 rfl h7 (step_r rfl rfl trivial (step_g1 rfl h7 ?_))))
    have jk8 : end0.toNat < b.length := by first | assumption | omega | (simp only [List.length_set, List.length_append]; omega) | (simp only [IntKind.wrap_i64] at *; omega) | (simp; omega) | simp_all
    refine step_idxS' (k := end0.toNat) rfl rfl (Int.toNat_of_nonneg (by first | omega | (simp only [IntKind.wrap_i64]; omega) | (simp only [IntKind.wrap_i64] at *; omega) | (simp; omega))).symm rfl rfl jk8 (encY_ne jk8) rfl ?_
    refine step_g1 rfl h7 (step_load_one rfl rfl rfl (encY_get (get_getD jk8)) rfl (step_g1 rfl h7 (step_bin rfl rfl rfl rfl rfl trivial (step_pickT rfl h7 rfl rfl (step_nil (seqK_n ?_))))))
    refine sem_cond rfl (fun h10 => ?_) (fun h10 => ?_)
    ·have g10 : ((b.getD end0.toNat default).toNat : Int) ≥ 128 := of_decide_eq_true h10
     refine sem_skip (seqK_n (sem_block (sem_region rfl (step_r rfl rfl trivial (step_bin rfl rfl rfl rfl rfl trivial (step_r rfl rfl trivial (step_nil (blkK_n ?_))))))))
     have e12 : readR_L0 b (f0 + 1) end0 = readR_L0 b f0 (IntKind.i64.wrap (end0 + 1)) := by
      rewrite [readR_L0]
      try dsimp only
      rewrite [if_pos g7, if_pos g10]
      all_goals rfl
     exact lup_againT (f0, (IntKind.i64.wrap (end0 + 1))) ⟨e12.symm.trans hI0, (by simp only [IntKind.wrap_i64]; omega), (by simp only [IntKind.wrap_i64] at *; omega)⟩ (Nat.lt_succ_self _) (Trans.ren [] (by decide +kernel) (by decide +kernel) rfl ⟨⟨rfl, rfl⟩, ⟨rfl, rfl⟩, ⟨rfl, rfl⟩, trivial⟩ trivial (by decide))
    ·have g10 : ¬ (((b.getD end0.toNat default).toNat : Int) ≥ 128) := of_decide_eq_false h10
     refine sem_exit (seqK_e (lupK_e (blkK_t rfl ?_)))
     have e13 : readR_L0 b (b.length + 1) at_ = end0 := by
      rewrite [← hI0]
      rewrite [readR_L0]
      try dsimp only
      rewrite [if_pos g7, if_neg g10]
      all_goals rfl
     exact cutW_n end0 ⟨e13, by first | assumption | omega | (simp; omega) | simp_all | grind⟩ (Trans.ren [] (by decide +kernel) (by decide +kernel) rfl ⟨⟨rfl, rfl⟩, ⟨rfl, rfl⟩, ⟨rfl, rfl⟩, trivial⟩ trivial (by decide))
   ·have g7 : ¬ ((end0 : Int) < b.length) := of_decide_eq_false h7
    refine step_g0 rfl h7 rfl (step_g0 rfl h7 rfl (step_g0 rfl h7 rfl (step_g0 rfl h7 rfl (step_g0 rfl h7 rfl (step_pickF rfl h7 rfl rfl (step_nil (seqK_n (sem_condF rfl (sem_exit (seqK_e (lupK_e ?_)))))))))))
    refine blkK_t rfl ?_
    have e14 : readR_L0 b (b.length + 1) at_ = end0 := by
     rewrite [← hI0]
     rewrite [readR_L0]
     try dsimp only
     rewrite [if_neg g7]
     all_goals rfl
    exact cutW_n end0 ⟨e14, by first | assumption | omega | (simp; omega) | simp_all | grind⟩ (Trans.ren [] (by decide +kernel) (by decide +kernel) rfl ⟨⟨rfl, rfl⟩, ⟨rfl, rfl⟩, ⟨rfl, rfl⟩, trivial⟩ trivial (by decide))
  ·rintro end_0 ⟨(hJ4 : readR_L0 b (b.length + 1) at_ = end_0), hE0⟩
   show seqK _ _ _ .normal (⟨[(0, .pv (.slc b.length b_f (encY b))), (1, I at_), (7, I end_0)], [], 0, [], 81, 0⟩ : St)
   refine seqK_n (sem_seq ?_)
   refine sem_cutW (fun w_ : Unit => match w_ with | () => (⟨[(0, .pv (.slc b.length b_f (encY b))), (1, I at_), (7, I end_0)], [], 0, [], 81, 0⟩ : St)) (fun w_ : Unit => match w_ with | () => readR_J27 b at_ end_0 = .inr () ∧ (0 ≤ end_0 ∧ at_ ≤ end_0 ∧ end_0 < b.length ∧ 0 ≤ at_)) ?_ ?_
   ·refine sem_seq (sem_region rfl (step_r rfl rfl trivial (step_r rfl rfl trivial (step_r rfl rfl trivial (step_bin rfl rfl rfl rfl rfl trivial (step_r rfl rfl trivial ?_))))))
    refine step_gs rfl (fun h18 => ?_) (fun h18 => ?_)
    ·have g18 : (end_0 : Int) ≥ b.length := of_decide_eq_true h18
     refine step_g0 rfl h18 rfl (step_g0 rfl h18 rfl (step_g0 rfl h18 rfl (step_g0 rfl h18 rfl (step_pickT rfl h18 rfl rfl (step_r rfl rfl trivial (step_gf rfl rfl (step_gf rfl rfl (step_gf rfl rfl (step_gf rfl rfl (step_gf rfl rfl (step_gf rfl rfl ?_)))))))))))
     refine step_gf rfl rfl (step_gf rfl rfl (step_gf rfl rfl (step_gf rfl rfl (step_r rfl rfl trivial (step_r rfl rfl trivial (step_gf rfl rfl (step_gf rfl rfl (step_gf rfl rfl (step_gf rfl rfl (step_gf rfl rfl (step_gf rfl rfl ?_)))))))))))
     refine step_gf rfl rfl (step_gf rfl rfl (step_gf rfl rfl (step_gf rfl rfl (step_gf rfl rfl (step_r rfl rfl trivial (step_nil (seqK_n (sem_condT rfl (sem_seq (sem_region rfl (step_r rfl rfl trivial ?_)))))))))))
     refine step_r rfl rfl trivial (step_r rfl rfl trivial (step_r rfl rfl trivial (step_nil (seqK_n (sem_ret (cutW_r (seqK_r ?_)))))))
     have e20 : readR_J27 b at_ end_0 = .inl (0, at_, false) := by
      unfold readR_J27
      try dsimp only
      rewrite [if_pos g18]
      all_goals rfl
     have e21 : readR b at_ = (0, at_, false) := by
      unfold readR
      try dsimp only
      rewrite [if_neg g2, hJ4]
      try dsimp only
      rewrite [e20]
      try dsimp only
      all_goals rfl
     rw [e21]
     exact answersR rfl ⟨trivial, trivial, trivial, trivial⟩ (rfl) rfl
    ·have g18 : ¬ ((end_0 : Int) ≥ b.length) := of_decide_eq_false h18
     refine step_g1 rfl h18 (step_r rfl rfl trivial (step_g1 rfl h18 (step_r rfl rfl trivial (step_g1 rfl h18 (step_bin rfl rfl rfl rfl rfl trivial (step_g1 rfl h18 (step_bin rfl rfl rfl rfl rfl trivial (step_pickF rfl h18 rfl rfl (step_r rfl rfl trivial ?_)))))))))
     refine step_gs rfl (fun h24 => ?_) (fun h24 => ?_)
     ·have g24 : (IntKind.i64.wrap (end_0 - at_) : Int) > 9 := of_decide_eq_true h24
      refine step_g0 rfl h24 rfl (step_g0 rfl h24 rfl (step_g0 rfl h24 rfl (step_g0 rfl h24 rfl (step_gf rfl rfl (step_gf rfl rfl (step_gf rfl rfl (step_gf rfl rfl (step_gf rfl rfl (step_g0 rfl h24 rfl (step_pickT rfl h24 rfl rfl (step_r rfl rfl trivial ?_)))))))))))
      refine step_gf rfl rfl (step_gf rfl rfl (step_gf rfl rfl (step_gf rfl rfl (step_gf rfl rfl (step_gf rfl rfl (step_gf rfl rfl (step_gf rfl rfl (step_gf rfl rfl (step_gf rfl rfl (step_gf rfl rfl (step_r rfl rfl trivial ?_)))))))))))
      refine step_nil (seqK_n (sem_condT rfl (sem_seq (sem_region rfl (step_r rfl rfl trivial (step_r rfl rfl trivial (step_r rfl rfl trivial (step_r rfl rfl trivial (step_nil (seqK_n (sem_ret ?_)))))))))))
      refine cutW_r (seqK_r ?_)
      have e25 : readR_J27 b at_ end_0 = .inl (0, at_, false) := by
       unfold readR_J27
       try dsimp only
       rewrite [if_neg g18, if_pos g24]
       all_goals rfl
      have e26 : readR b at_ = (0, at_, false) := by
       unfold readR
       try dsimp only
       rewrite [if_neg g2, hJ4]
       try dsimp only
       rewrite [e25]
       try dsimp only
       all_goals rfl
      rw [e26]
      exact answersR rfl ⟨trivial, trivial, trivial, trivial⟩ (rfl) rfl
     ·have g24 : ¬ ((IntKind.i64.wrap (end_0 - at_) : Int) > 9) := of_decide_eq_false h24
      refine step_g1 rfl h24 (step_r rfl rfl trivial (step_g1 rfl h24 (step_r rfl rfl trivial (step_g1 rfl h24 (step_bin rfl rfl rfl rfl rfl trivial (step_g1 rfl h24 (step_r rfl rfl trivial ?_)))))))
      refine step_gs rfl (fun h28 => ?_) (fun h28 => ?_)
      ·have g28 : (end_0 : Int) > at_ := of_decide_eq_true h28
       refine step_g1 rfl h28 (step_r rfl rfl trivial (step_g1 rfl h28 (step_r rfl rfl trivial (step_g1 rfl h28 ?_))))
       have jk29 : end_0.toNat < b.length := by first | assumption | omega | (simp only [List.length_set, List.length_append]; omega) | (simp only [IntKind.wrap_i64] at *; omega) | (simp; omega) | simp_all
       refine step_idxS' (k := end_0.toNat) rfl rfl (Int.toNat_of_nonneg (by first | omega | (simp only [IntKind.wrap_i64]; omega) | (simp only [IntKind.wrap_i64] at *; omega) | (simp; omega))).symm rfl rfl jk29 (encY_ne jk29) rfl ?_
       refine step_g1 rfl h28 (step_load_one rfl rfl rfl (encY_get (get_getD jk29)) rfl (step_g1 rfl h28 (step_bin rfl rfl rfl rfl rfl trivial (step_g1 rfl h24 (step_pickT rfl h28 rfl rfl (step_pickF rfl h24 rfl rfl (step_r rfl rfl trivial ?_)))))))
       refine step_gs rfl (fun h31 => ?_) (fun h31 => ?_)
       ·have g31 : ((b.getD end_0.toNat default).toNat : Int) = 0 := beq_t h31
        refine step_g0 rfl h31 rfl (step_g0 rfl h31 rfl (step_g0 rfl h31 rfl (step_g0 rfl h31 rfl (step_g0 rfl h31 rfl (step_gf rfl rfl (step_gf rfl rfl (step_gf rfl rfl (step_gf rfl rfl (step_gf rfl rfl (step_g0 rfl h31 rfl (step_pickT rfl h31 rfl rfl ?_)))))))))))
        refine step_nil (seqK_n (sem_condT rfl (sem_seq (sem_region rfl (step_r rfl rfl trivial (step_r rfl rfl trivial (step_r rfl rfl trivial (step_r rfl rfl trivial (step_nil (seqK_n (sem_ret ?_)))))))))))
        refine cutW_r (seqK_r ?_)
        have e32 : readR_J27 b at_ end_0 = .inl (0, at_, false) := by
         unfold readR_J27
         try dsimp only
         rewrite [if_neg g18, if_neg g24, if_pos g28, if_pos g31]
         all_goals rfl
        have e33 : readR b at_ = (0, at_, false) := by
         unfold readR
         try dsimp only
         rewrite [if_neg g2, hJ4]
         try dsimp only
         rewrite [e32]
         try dsimp only
         all_goals rfl
        rw [e33]
        exact answersR rfl ⟨trivial, trivial, trivial, trivial⟩ (rfl) rfl
       ·have g31 : ¬ (((b.getD end_0.toNat default).toNat : Int) = 0) := beq_f h31
        refine step_g1 rfl h31 (step_r rfl rfl trivial (step_g1 rfl h31 (step_r rfl rfl trivial (step_g1 rfl h31 (step_bin rfl rfl rfl rfl rfl trivial (step_g1 rfl h31 (step_bin rfl rfl rfl rfl rfl trivial (step_g1 rfl h31 (step_r rfl rfl trivial ?_)))))))))
        refine step_gs rfl (fun h35 => ?_) (fun h35 => ?_)
        ·have g35 : (IntKind.i64.wrap (end_0 - at_) : Int) = 9 := beq_t h35
         refine step_g1 rfl h35 (step_r rfl rfl trivial (step_g1 rfl h35 (step_r rfl rfl trivial (step_g1 rfl h35 ?_))))
         refine step_idxS' (k := end_0.toNat) rfl rfl (Int.toNat_of_nonneg (by first | omega | (simp only [IntKind.wrap_i64]; omega) | (simp only [IntKind.wrap_i64] at *; omega) | (simp; omega))).symm rfl rfl jk29 (encY_ne jk29) rfl ?_
         refine step_g1 rfl h35 (step_load_one rfl rfl rfl (encY_get (get_getD jk29)) rfl (step_g1 rfl h35 (step_bin rfl rfl rfl rfl rfl trivial (step_g1 rfl h31 (step_pickT rfl h35 rfl rfl (step_pickF rfl h31 rfl rfl (step_nil (seqK_n ?_))))))))
         refine sem_cond rfl (fun h37 => ?_) (fun h37 => ?_)
         ·have g37 : ((b.getD end_0.toNat default).toNat : Int) > 1 := of_decide_eq_true h37
          refine sem_seq (sem_region rfl (step_r rfl rfl trivial (step_r rfl rfl trivial (step_r rfl rfl trivial (step_r rfl rfl trivial (step_nil (seqK_n (sem_ret (cutW_r (seqK_r ?_))))))))))
          have e38 : readR_J27 b at_ end_0 = .inl (0, at_, false) := by
           unfold readR_J27
           try dsimp only
           rewrite [if_neg g18, if_neg g24, if_pos g28, if_neg g31, if_pos g35, if_pos g37]
           all_goals rfl
          have e39 : readR b at_ = (0, at_, false) := by
           unfold readR
           try dsimp only
           rewrite [if_neg g2, hJ4]
           try dsimp only
           rewrite [e38]
           try dsimp only
           all_goals rfl
          rw [e39]
          exact answersR rfl ⟨trivial, trivial, trivial, trivial⟩ (rfl) rfl
         ·have g37 : ¬ (((b.getD end_0.toNat default).toNat : Int) > 1) := of_decide_eq_false h37
          refine sem_skip ?_
          have e40 : readR_J27 b at_ end_0 = .inr () := by
           unfold readR_J27
           try dsimp only
           rewrite [if_neg g18, if_neg g24, if_pos g28, if_neg g31, if_pos g35, if_neg g37]
           all_goals rfl
          exact cutW_n () ⟨e40, by first | assumption | omega | (simp; omega) | simp_all | grind⟩ (Trans.ren [] (by decide +kernel) (by decide +kernel) rfl ⟨⟨rfl, rfl⟩, ⟨rfl, rfl⟩, ⟨rfl, rfl⟩, trivial⟩ trivial (by decide))
        ·have g35 : ¬ ((IntKind.i64.wrap (end_0 - at_) : Int) = 9) := beq_f h35
         refine step_g0 rfl h35 rfl (step_g0 rfl h35 rfl (step_g0 rfl h35 rfl (step_g0 rfl h35 rfl (step_g0 rfl h35 rfl (step_g1 rfl h31 (step_pickF rfl h35 rfl rfl (step_pickF rfl h31 rfl rfl (step_nil (seqK_n (sem_condF rfl (sem_skip ?_)))))))))))
         have e41 : readR_J27 b at_ end_0 = .inr () := by
          unfold readR_J27
          try dsimp only
          rewrite [if_neg g18, if_neg g24, if_pos g28, if_neg g31, if_neg g35]
          all_goals rfl
         exact cutW_n () ⟨e41, by first | assumption | omega | (simp; omega) | simp_all | grind⟩ (Trans.ren [] (by decide +kernel) (by decide +kernel) rfl ⟨⟨rfl, rfl⟩, ⟨rfl, rfl⟩, ⟨rfl, rfl⟩, trivial⟩ trivial (by decide))
      ·have g28 : ¬ ((end_0 : Int) > at_) := of_decide_eq_false h28
       refine step_g0 rfl h28 rfl (step_g0 rfl h28 rfl (step_g0 rfl h28 rfl (step_g0 rfl h28 rfl (step_g0 rfl h28 rfl (step_g1 rfl h24 (step_pickF rfl h28 rfl rfl (step_pickF rfl h24 rfl rfl (step_r rfl rfl trivial (step_gt rfl (step_r rfl rfl trivial (step_gt rfl ?_)))))))))))
       refine step_r rfl rfl trivial (step_gt rfl (step_bin rfl rfl rfl rfl rfl trivial (step_gt rfl (step_bin rfl rfl rfl rfl rfl trivial (step_gt rfl (step_r rfl rfl trivial ?_))))))
       refine step_gs rfl (fun h43 => ?_) (fun h43 => ?_)
       ·have g43 : (IntKind.i64.wrap (end_0 - at_) : Int) = 9 := beq_t h43
        refine step_g1 rfl h43 (step_r rfl rfl trivial (step_g1 rfl h43 (step_r rfl rfl trivial (step_g1 rfl h43 ?_))))
        have jk44 : end_0.toNat < b.length := by first | assumption | omega | (simp only [List.length_set, List.length_append]; omega) | (simp only [IntKind.wrap_i64] at *; omega) | (simp; omega) | simp_all
        refine step_idxS' (k := end_0.toNat) rfl rfl (Int.toNat_of_nonneg (by first | omega | (simp only [IntKind.wrap_i64]; omega) | (simp only [IntKind.wrap_i64] at *; omega) | (simp; omega))).symm rfl rfl jk44 (encY_ne jk44) rfl ?_
        refine step_g1 rfl h43 (step_load_one rfl rfl rfl (encY_get (get_getD jk44)) rfl (step_g1 rfl h43 (step_bin rfl rfl rfl rfl rfl trivial (step_gt rfl (step_pickT rfl h43 rfl rfl (step_r rfl rfl trivial (step_nil (seqK_n ?_))))))))
        refine sem_cond rfl (fun h46 => ?_) (fun h46 => ?_)
        ·have g46 : ((b.getD end_0.toNat default).toNat : Int) > 1 := of_decide_eq_true h46
         refine sem_seq (sem_region rfl (step_r rfl rfl trivial (step_r rfl rfl trivial (step_r rfl rfl trivial (step_r rfl rfl trivial (step_nil (seqK_n (sem_ret (cutW_r (seqK_r ?_))))))))))
         have e47 : readR_J27 b at_ end_0 = .inl (0, at_, false) := by
          unfold readR_J27
          try dsimp only
          rewrite [if_neg g18, if_neg g24, if_neg g28, if_pos g43, if_pos g46]
          all_goals rfl
         have e48 : readR b at_ = (0, at_, false) := by
          unfold readR
          try dsimp only
          rewrite [if_neg g2, hJ4]
          try dsimp only
          rewrite [e47]
          try dsimp only
          all_goals rfl
         rw [e48]
         exact answersR rfl ⟨trivial, trivial, trivial, trivial⟩ (rfl) rfl
        ·have g46 : ¬ (((b.getD end_0.toNat default).toNat : Int) > 1) := of_decide_eq_false h46
         refine sem_skip ?_
         have e49 : readR_J27 b at_ end_0 = .inr () := by
          unfold readR_J27
          try dsimp only
          rewrite [if_neg g18, if_neg g24, if_neg g28, if_pos g43, if_neg g46]
          all_goals rfl
         exact cutW_n () ⟨e49, by first | assumption | omega | (simp; omega) | simp_all | grind⟩ (Trans.ren [] (by decide +kernel) (by decide +kernel) rfl ⟨⟨rfl, rfl⟩, ⟨rfl, rfl⟩, ⟨rfl, rfl⟩, trivial⟩ trivial (by decide))
       ·have g43 : ¬ ((IntKind.i64.wrap (end_0 - at_) : Int) = 9) := beq_f h43
        refine step_g0 rfl h43 rfl (step_g0 rfl h43 rfl (step_g0 rfl h43 rfl (step_g0 rfl h43 rfl (step_g0 rfl h43 rfl (step_gt rfl (step_pickF rfl h43 rfl rfl (step_r rfl rfl trivial (step_nil (seqK_n (sem_condF rfl (sem_skip ?_)))))))))))
        have e50 : readR_J27 b at_ end_0 = .inr () := by
         unfold readR_J27
         try dsimp only
         rewrite [if_neg g18, if_neg g24, if_neg g28, if_neg g43]
         all_goals rfl
        exact cutW_n () ⟨e50, by first | assumption | omega | (simp; omega) | simp_all | grind⟩ (Trans.ren [] (by decide +kernel) (by decide +kernel) rfl ⟨⟨rfl, rfl⟩, ⟨rfl, rfl⟩, ⟨rfl, rfl⟩, trivial⟩ trivial (by decide))
   ·rintro ⟨⟩ ⟨(hJ15 : readR_J27 b at_ end_0 = .inr ()), hK27⟩
    show seqK _ _ _ .normal (⟨[(0, .pv (.slc b.length b_f (encY b))), (1, I at_), (7, I end_0)], [], 0, [], 81, 0⟩ : St)
    refine seqK_n (sem_seq (sem_region rfl (step_r rfl rfl trivial (step_nil (seqK_n (sem_seq (sem_seq (sem_region rfl (step_r rfl rfl trivial (step_r rfl rfl trivial (step_nil ?_)))))))))))
    refine seqK_n ?_
    refine sem_cutW (fun n_1 : Int => (⟨[(7, I end_0), (8, .pv (.int .u64 n_1))], [], 0, [], 81, 0⟩ : St)) (fun w_ => readR_L1 b at_ (b.length+1) 0 end_0 = w_) ?_ ?_
    ·refine sem_block ?_
     refine sem_loopT (fun w_ : Nat × Int × Int => match w_ with | (f1, n1, i1) => (⟨[(0, .pv (.slc b.length b_f (encY b))), (1, I at_), (7, I end_0), (8, .pv (.int .u64 n1)), (9, I i1)], [], 0, [], 81, 0⟩ : St)) (fun w_ : Nat × Int × Int => match w_ with | (f1, n1, i1) => readR_L1 b at_ f1 n1 i1 = readR_L1 b at_ (b.length+1) 0 end_0 ∧ (i1 + 1 - at_).toNat < f1 ∧ at_ - 1 ≤ i1 ∧ i1 < b.length ∧ 0 ≤ at_) (fun w_ : Nat × Int × Int => match w_ with | (f1, n1, i1) => f1) (b.length+1, 0, end_0) (⟨rfl, (by first | omega | (simp; omega)), by first | omega | simp | (simp; omega)⟩) ?_ (fun w_ hh_ => ?_)
     ·exact (Trans.ren [] (by decide +kernel) (by decide +kernel) rfl ⟨⟨rfl, rfl⟩, ⟨rfl, rfl⟩, ⟨rfl, rfl⟩, ⟨rfl, rfl⟩, ⟨rfl, rfl⟩, trivial⟩ trivial (by decide))
     obtain ⟨f1, n1, i1⟩ := w_
     obtain ⟨hI1, hb1, hv1⟩ := hh_
     obtain ⟨f1, rfl⟩ : ∃ z_, f1 = z_ + 1 := ⟨f1 - 1, by omega⟩
     show Walks Tryd.prog _ _ (⟨[(0, .pv (.slc b.length b_f (encY b))), (1, I at_), (7, I end_0), (8, .pv (.int .u64 n1)), (9, I i1)], [], 0, [], 81, 0⟩ : St)
     refine sem_seq (sem_seq (sem_region rfl (step_r rfl rfl trivial (step_r rfl rfl trivial (step_bin rfl rfl rfl rfl rfl trivial (step_nil (seqK_n ?_)))))))
     refine sem_cond rfl (fun h55 => ?_) (fun h55 => ?_)
     ·have g55 : (i1 : Int) ≥ at_ := of_decide_eq_true h55
      refine sem_skip (seqK_n (sem_seq (sem_block (sem_region rfl (step_r rfl rfl trivial (step_bin rfl rfl rfl rfl rfl trivial (step_r rfl rfl trivial (step_r rfl rfl trivial ?_))))))))
      have jk57 : i1.toNat < b.length := by first | assumption | omega | (simp only [List.length_set, List.length_append]; omega) | (simp only [IntKind.wrap_i64] at *; omega) | (simp; omega) | simp_all
      refine step_idxS' (k := i1.toNat) rfl rfl (Int.toNat_of_nonneg (by first | omega | (simp only [IntKind.wrap_i64]; omega) | (simp only [IntKind.wrap_i64] at *; omega) | (simp; omega))).symm rfl rfl jk57 (encY_ne jk57) rfl ?_
      refine step_load_one rfl rfl rfl (encY_get (get_getD jk57)) rfl ?_
      refine step_bin rfl rfl rfl rfl rfl (by first | decide | omega | (show (0 : Int) ≤ IntKind.i64.wrap _; rw [wrap_lt (by omega) (by omega)]; omega) | simp_all) ?_
      refine step_r rfl rfl trivial (step_bin rfl rfl rfl rfl rfl trivial (step_r rfl rfl trivial (step_nil (blkK_n (seqK_n (sem_region rfl (step_r rfl rfl trivial (step_bin rfl rfl rfl rfl rfl trivial (step_r rfl rfl trivial (step_nil ?_))))))))))
      have e60 : readR_L1 b at_ (f1 + 1) n1 i1 = readR_L1 b at_ f1 (IntKind.u64.wrap ((IntKind.u64.wrap (128 * n1)) + (IntKind.u64.wrap (((b.getD i1.toNat default).toNat : Int).tmod 128)))) (IntKind.i64.wrap (i1 - 1)) := by
       rewrite [readR_L1]
       try dsimp only
       rewrite [if_pos g55]
       all_goals rfl
      exact lup_againT (f1, (IntKind.u64.wrap ((IntKind.u64.wrap (128 * n1)) + (IntKind.u64.wrap (((b.getD i1.toNat default).toNat : Int).tmod 128)))), (IntKind.i64.wrap (i1 - 1))) ⟨e60.symm.trans hI1, (by simp only [IntKind.wrap_i64]; omega), (by simp only [IntKind.wrap_i64] at *; omega)⟩ (Nat.lt_succ_self _) (Trans.ren [] (by decide +kernel) (by decide +kernel) rfl ⟨⟨rfl, rfl⟩, ⟨rfl, rfl⟩, ⟨rfl, rfl⟩, ⟨rfl, rfl⟩, ⟨rfl, rfl⟩, trivial⟩ trivial (by decide))
     ·have g55 : ¬ ((i1 : Int) ≥ at_) := of_decide_eq_false h55
      refine sem_exit (seqK_e (lupK_e (blkK_t rfl ?_)))
      have e61 : readR_L1 b at_ (b.length+1) 0 end_0 = n1 := by
       rewrite [← hI1]
       rewrite [readR_L1]
       try dsimp only
       rewrite [if_neg g55]
       all_goals rfl
      exact cutW_n n1 e61 (Trans.ren [] (by decide +kernel) (by decide +kernel) rfl ⟨⟨rfl, rfl⟩, ⟨rfl, rfl⟩, trivial⟩ trivial (by decide))
    ·rintro n_1 (hJ52 : readR_L1 b at_ (b.length+1) 0 end_0 = n_1)
     show seqK _ _ _ .normal (⟨[(7, I end_0), (8, .pv (.int .u64 n_1))], [], 0, [], 81, 0⟩ : St)
     refine seqK_n (sem_seq (sem_region rfl (step_r rfl rfl trivial (step_r rfl rfl trivial (step_bin rfl rfl rfl rfl rfl trivial (step_r rfl rfl trivial (step_r rfl rfl trivial (step_r rfl rfl trivial (step_nil (seqK_n (sem_ret ?_)))))))))))
     have e65 : readR b at_ = (n_1, (IntKind.i64.wrap (end_0 + 1)), true) := by
      unfold readR
      try dsimp only
      rewrite [if_neg g2, hJ4]
      try dsimp only
      rewrite [hJ15]
      try dsimp only
      rewrite [hJ52]
      try dsimp only
      all_goals rfl
     rw [e65]
     exact answersR rfl ⟨trivial, trivial, trivial, trivial⟩ (rfl) rfl

def readRI (b : List UInt8) (at_ : Int) : Int × Int × Int :=
  if (readR b at_).2.2 = true then (if (((readR b at_).1 : Int).tmod 2 : Int) = 1 then ((IntKind.i64.wrap ((IntKind.i64.wrap (0 - (IntKind.i64.wrap (IntKind.u64.wrap (((readR b at_).1 : Int).tdiv 2))))) - 1)), (readR b at_).2.1, 0) else ((IntKind.i64.wrap (IntKind.u64.wrap (((readR b at_).1 : Int).tdiv 2))), (readR b at_).2.1, 0)) else (0, at_, 2)
theorem readRI_ok (b : List UInt8) (b_f : Bool) (at_ : Int) : Ok Tryd.prog 25 [.pv (.slc b.length b_f (encY b)), I at_] [] (.tup [I (readRI b at_).1, I (readRI b at_).2.1, I (readRI b at_).2.2]) [] [] := by
 refine Ok.len fun hlen => ?_
 have hl_b : b.length ≤ maxLen := hlen _ (by simp [lensL, lens, lensP])
 unfold maxLen at hl_b
 refine ok_of_sem Tryd.func25 rfl ?_
 show Walks Tryd.prog _ _ ⟨[(0, .pv (.slc b.length b_f (encY b))), (1, I at_)], [], 0, [], 33, 0⟩
 refine sem_seq (sem_region rfl (step_r rfl rfl trivial (step_r rfl rfl trivial (step_r rfl rfl trivial (step_nil (seqK_n (sem_seq (sem_region rfl (step_r rfl rfl trivial (step_r rfl rfl trivial (step_call rfl rfl rfl rfl (readR_ok b b_f at_) rfl rfl rfl ?_)))))))))))
 refine step_r rfl rfl trivial (step_r rfl rfl trivial (step_r rfl rfl trivial (step_r rfl rfl trivial (step_r rfl rfl trivial (step_r rfl rfl trivial (step_r rfl rfl trivial (step_nil (seqK_n (sem_seq (sem_seq (sem_region rfl ?_)))))))))))
 refine step_r rfl rfl trivial (step_r rfl rfl trivial (step_nil (seqK_n ?_)))
 refine sem_cond rfl (fun h5 => ?_) (fun h5 => ?_)
 ·have g5 : ¬ ((readR b at_).2.2 = true) := boo_f (not_t h5)
  refine sem_seq (sem_region rfl (step_r rfl rfl trivial (step_r rfl rfl trivial (step_r rfl rfl trivial (step_r rfl rfl trivial (step_nil (seqK_n (sem_ret (seqK_r ?_)))))))))
  have e6 : readRI b at_ = (0, at_, 2) := by
   unfold readRI
   try dsimp only
   rewrite [if_neg g5]
   all_goals rfl
  rw [e6]
  exact answersR rfl ⟨trivial, trivial, trivial, trivial⟩ (rfl) rfl
 ·have g5 : (readR b at_).2.2 = true := (not_f h5)
  refine sem_skip (seqK_n (sem_seq (sem_seq (sem_region rfl (step_r rfl rfl trivial ?_)))))
  refine step_bin rfl rfl rfl rfl rfl (by first | decide | omega | (show (0 : Int) ≤ IntKind.i64.wrap _; rw [wrap_lt (by omega) (by omega)]; omega) | simp_all) ?_
  refine step_bin rfl rfl rfl rfl rfl trivial (step_nil (seqK_n ?_))
  refine sem_cond rfl (fun h7 => ?_) (fun h7 => ?_)
  ·have g7 : (((readR b at_).1 : Int).tmod 2 : Int) = 1 := beq_t h7
   refine sem_seq (sem_region rfl (step_r rfl rfl trivial ?_))
   refine step_bin rfl rfl rfl rfl rfl (by first | decide | omega | (show (0 : Int) ≤ IntKind.i64.wrap _; rw [wrap_lt (by omega) (by omega)]; omega) | simp_all) ?_
   refine step_r rfl rfl trivial (step_r rfl rfl trivial (step_bin rfl rfl rfl rfl rfl trivial (step_r rfl rfl trivial (step_r rfl rfl trivial (step_r rfl rfl trivial (step_r rfl rfl trivial (step_nil (seqK_n (sem_ret (seqK_r ?_))))))))))
   have e9 : readRI b at_ = ((IntKind.i64.wrap ((IntKind.i64.wrap (0 - (IntKind.i64.wrap (IntKind.u64.wrap (((readR b at_).1 : Int).tdiv 2))))) - 1)), (readR b at_).2.1, 0) := by
    unfold readRI
    try dsimp only
    rewrite [if_pos g5, if_pos g7]
    all_goals rfl
   rw [e9]
   exact answersR rfl ⟨trivial, trivial, trivial, trivial⟩ (rfl) rfl
  ·have g7 : ¬ ((((readR b at_).1 : Int).tmod 2 : Int) = 1) := beq_f h7
   refine sem_skip (seqK_n (sem_seq (sem_region rfl (step_r rfl rfl trivial ?_))))
   refine step_bin rfl rfl rfl rfl rfl (by first | decide | omega | (show (0 : Int) ≤ IntKind.i64.wrap _; rw [wrap_lt (by omega) (by omega)]; omega) | simp_all) ?_
   refine step_r rfl rfl trivial (step_r rfl rfl trivial (step_r rfl rfl trivial (step_r rfl rfl trivial (step_r rfl rfl trivial (step_nil (seqK_n (sem_ret ?_)))))))
   have e11 : readRI b at_ = ((IntKind.i64.wrap (IntKind.u64.wrap (((readR b at_).1 : Int).tdiv 2))), (readR b at_).2.1, 0) := by
    unfold readRI
    try dsimp only
    rewrite [if_pos g5, if_neg g7]
    all_goals rfl
   rw [e11]
   exact answersR rfl ⟨trivial, trivial, trivial, trivial⟩ (rfl) rfl
end Go.Proofs.YtmklfpfgijilfaaDoor

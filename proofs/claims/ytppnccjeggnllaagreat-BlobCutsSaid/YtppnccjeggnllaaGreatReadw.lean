import Derived.Test.YtppnccjeggnllaaGreatBlobr
namespace Go.Proofs.YtppnccjeggnllaaGreat
open Go Go.RowKit Go.Proofs.YtppnccjeggnllaaGreatVm
attribute [local irreducible] opsWp AnswersE OpsS
set_option maxHeartbeats 400000
set_option maxRecDepth 100000
set_option linter.all false
def take_J29 (b : List UInt8) (k0 : Nat) : Bool :=
  if (IntKind.u64.wrap ((b.getD k0 default).toNat) : Int) = 0 then (if (k0 : Int) > 0 then (decide ((k0 : Int) > 0)) else if (k0 : Int) = 9 then (decide ((IntKind.u64.wrap ((b.getD k0 default).toNat) : Int) > 1)) else false) else if (k0 : Int) = 9 then (decide ((IntKind.u64.wrap ((b.getD k0 default).toNat) : Int) > 1)) else false
def take_L0 (b : List UInt8) : Nat → Nat → Int → Sum (Int × Int) Unit
  | 0, k0, n0 => .inr ()
  | n_ + 1, k0, n0 => if (IntKind.u64.wrap ((b.getD k0 default).toNat) : Int) ≥ 128 then take_L0 b n_ (k0 + 1) (orK IntKind.u64 n0 (shlK IntKind.u64 (andK IntKind.u64 (IntKind.u64.wrap ((b.getD k0 default).toNat)) 127) (IntKind.i64.wrap (7 * k0)))) else (let t28_29 := take_J29 b k0; if t28_29 = true then .inl (0, 0) else .inl ((orK IntKind.u64 n0 (shlK IntKind.u64 (andK IntKind.u64 (IntKind.u64.wrap ((b.getD k0 default).toNat)) 127) (IntKind.i64.wrap (7 * k0)))), (IntKind.i64.wrap (k0 + 1))))
def take (b : List UInt8) : Int × Int :=
  (match take_L0 b ((min b.length 10) - 0) 0 0 with
    | .inl r_ => r_
    | .inr () => (0, 0))
theorem take_ok (b : List UInt8) (b_f : Bool) : Ok Tryz.prog 132 [.pv (.slc b.length b_f (encY b))] [] (.tup [.pv (.int .u64 (take b).1), I (take b).2]) [] [] := by
 refine Ok.len fun hlen => ?_
 have hl_b : b.length ≤ maxLen := hlen _ (by simp [lensL, lens, lensP])
 unfold maxLen at hl_b
 refine ok_of_sem Tryz.func132 rfl ?_
 show Walks Tryz.prog _ _ ⟨[(0, .pv (.slc b.length b_f (encY b)))], [], 0, [], 45, 0⟩
 refine sem_seq (sem_region rfl (step_r rfl rfl trivial (step_r rfl rfl trivial (step_nil (seqK_n (sem_seq (sem_region rfl (step_r rfl rfl trivial (step_nil (seqK_n (sem_seq ?_)))))))))))
 refine sem_seq (sem_region rfl (step_r rfl rfl trivial (step_r rfl rfl trivial ?_)))
 refine step_min rfl rfl rfl ?_
 refine step_r rfl rfl trivial (step_nil (seqK_n ?_))
 refine sem_cutW (fun w_ : Unit => match w_ with | () => (⟨[], [], 0, [], 45, 0⟩ : St)) (fun w_ => take_L0 b ((min b.length 10) - 0) 0 0 = .inr w_) ?_ ?_
 ·refine sem_block ?_
  refine sem_loopT (fun w_ : Nat × Int => match w_ with | (k0, n0) => (⟨[(0, .pv (.slc b.length b_f (encY b))), (4, .pv (.int .u64 n0)), (9, I (min (b.length : Int) 10)), (10, I k0)], [], 0, [], 45, 0⟩ : St)) (fun w_ : Nat × Int => match w_ with | (k0, n0) => take_L0 b ((min b.length 10) - k0) k0 n0 = take_L0 b ((min b.length 10) - 0) 0 0 ∧ k0 ≤ min b.length 10) (fun w_ : Nat × Int => match w_ with | (k0, n0) => min b.length 10 - k0) (0, 0) (⟨rfl, (by first | omega | (simp; omega))⟩) ?_ (fun w_ hh_ => ?_)
  ·exact (Trans.ren [] (by decide +kernel) (by decide +kernel) rfl ⟨⟨rfl, rfl⟩, ⟨rfl, rfl⟩, ⟨rfl, rfl⟩, ⟨rfl, rfl⟩, trivial⟩ trivial (by decide))
  obtain ⟨k0, n0⟩ := w_
  obtain ⟨hI0, hb0⟩ := hh_
  show Walks Tryz.prog _ _ (⟨[(0, .pv (.slc b.length b_f (encY b))), (4, .pv (.int .u64 n0)), (9, I (min (b.length : Int) 10)), (10, I k0)], [], 0, [], 45, 0⟩ : St)
  refine sem_seq (sem_region rfl (step_bin rfl rfl rfl rfl rfl trivial (step_nil (seqK_n (sem_seq ?_)))))
  refine sem_cond rfl (fun h2 => ?_) (fun h2 => ?_)
  ·have g2 : (k0 : Int) < (min (b.length : Int) 10) := of_decide_eq_true h2
   have hm0 : min b.length 10 - k0 = (min b.length 10 - (k0 + 1)) + 1 := by omega
   refine sem_skip (seqK_n (sem_seq (sem_block (sem_seq (sem_region rfl (step_r rfl rfl trivial (step_r rfl rfl trivial (step_nil (seqK_n (sem_seq (sem_region rfl ?_)))))))))))
   refine step_r rfl rfl trivial (step_r rfl rfl trivial ?_)
   have jk4 : k0 < b.length := by first | assumption | omega | (simp only [List.length_set, List.length_append]; omega) | (simp only [IntKind.wrap_i64] at *; omega) | (simp; omega) | simp_all
   refine step_idxS (k := k0) rfl rfl rfl rfl jk4 (encY_ne jk4) rfl (step_load_one rfl rfl rfl (encY_get (get_getD jk4)) rfl (step_r rfl rfl trivial (step_r rfl rfl trivial (step_nil (seqK_n (sem_seq (sem_region rfl (step_r rfl rfl trivial (step_r rfl rfl trivial (step_bin rfl rfl rfl rfl rfl trivial (step_r rfl rfl trivial ?_)))))))))))
   refine step_bin rfl rfl rfl rfl rfl trivial ?_
   refine step_bin rfl rfl rfl rfl rfl (by first | decide | omega | (show (0 : Int) ≤ IntKind.i64.wrap _; rw [wrap_lt (by omega) (by omega)]; omega) | simp_all) ?_
   refine step_bin rfl rfl rfl rfl rfl trivial (step_r rfl rfl trivial (step_nil (seqK_n (sem_seq (sem_block (sem_seq (sem_region rfl (step_r rfl rfl trivial (step_bin rfl rfl rfl rfl rfl trivial (step_r rfl rfl trivial (step_nil ?_)))))))))))
   refine seqK_n ?_
   refine sem_cond rfl (fun h9 => ?_) (fun h9 => ?_)
   ·have g9 : (IntKind.u64.wrap ((b.getD k0 default).toNat) : Int) ≥ 128 := of_decide_eq_true h9
    refine sem_exit ?_
    refine blkK_f rfl ?_
    refine seqK_e (blkK_t rfl (seqK_n (sem_region rfl (step_bin rfl rfl rfl rfl rfl trivial (step_r rfl rfl trivial (step_nil ?_))))))
    have e11 : take_L0 b ((min b.length 10) - k0) k0 n0 = take_L0 b ((min b.length 10) - (k0 + 1)) (k0 + 1) (orK IntKind.u64 n0 (shlK IntKind.u64 (andK IntKind.u64 (IntKind.u64.wrap ((b.getD k0 default).toNat)) 127) (IntKind.i64.wrap (7 * k0)))) := by
     rewrite [hm0]
     rewrite [take_L0]
     try dsimp only
     rewrite [if_pos g9]
     all_goals rfl
    exact lup_againT (k0 + 1, (orK IntKind.u64 n0 (shlK IntKind.u64 (andK IntKind.u64 (IntKind.u64.wrap ((b.getD k0 default).toNat)) 127) (IntKind.i64.wrap (7 * k0))))) ⟨e11.symm.trans hI0, (by omega)⟩ (by show min b.length 10 - (k0 + 1) < min b.length 10 - k0; omega) (Trans.ren [] (by decide +kernel) (by decide +kernel) rfl ⟨⟨rfl, rfl⟩, ⟨rfl, rfl⟩, ⟨rfl, rfl⟩, ⟨congrArg (fun n => some (I n)) (wrapI (k := k0) (by first | omega | (simp; omega))), rfl⟩, trivial⟩ trivial (by decide))
   ·have g9 : ¬ ((IntKind.u64.wrap ((b.getD k0 default).toNat) : Int) ≥ 128) := of_decide_eq_false h9
    refine sem_seq ?_
    refine sem_cutW (fun t28_29 : Bool => (⟨[(4, .pv (.int .u64 (orK IntKind.u64 n0 (shlK IntKind.u64 (andK IntKind.u64 (IntKind.u64.wrap ((b.getD k0 default).toNat)) 127) (IntKind.i64.wrap (7 * k0)))))), (5, I k0), (28, B t28_29)], [], 0, [], 45, 0⟩ : St)) (fun w_ => take_J29 b k0 = w_) ?_ ?_
    ·refine sem_seq (sem_region rfl (step_r rfl rfl trivial (step_bin rfl rfl rfl rfl rfl trivial (step_r rfl rfl trivial ?_))))
     refine step_gs rfl (fun h14 => ?_) (fun h14 => ?_)
     ·have g14 : (IntKind.u64.wrap ((b.getD k0 default).toNat) : Int) = 0 := beq_t h14
      refine step_g1 rfl h14 (step_r rfl rfl trivial (step_g1 rfl h14 (step_bin rfl rfl rfl rfl rfl trivial (step_pickT rfl h14 rfl rfl (step_r rfl rfl trivial (step_nil (seqK_n ?_)))))))
      refine sem_cond rfl (fun h16 => ?_) (fun h16 => ?_)
      ·have g16 : (k0 : Int) > 0 := of_decide_eq_true h16
       refine sem_skip ?_
       have e17 : take_J29 b k0 = (decide ((k0 : Int) > 0)) := by
        unfold take_J29
        try dsimp only
        rewrite [if_pos g14, if_pos g16]
        all_goals rfl
       exact cutW_n (decide ((k0 : Int) > 0)) e17 (Trans.ren [] (by decide +kernel) (by decide +kernel) rfl ⟨⟨rfl, rfl⟩, ⟨rfl, rfl⟩, ⟨rfl, rfl⟩, trivial⟩ trivial (by decide))
      ·have g16 : ¬ ((k0 : Int) > 0) := of_decide_eq_false h16
       refine sem_region rfl (step_r rfl rfl trivial (step_bin rfl rfl rfl rfl rfl trivial (step_r rfl rfl trivial ?_)))
       refine step_gs rfl (fun h19 => ?_) (fun h19 => ?_)
       ·have g19 : (k0 : Int) = 9 := beq_t h19
        refine step_g1 rfl h19 (step_r rfl rfl trivial (step_g1 rfl h19 (step_bin rfl rfl rfl rfl rfl trivial (step_pickT rfl h19 rfl rfl (step_r rfl rfl trivial (step_nil ?_))))))
        have e21 : take_J29 b k0 = (decide ((IntKind.u64.wrap ((b.getD k0 default).toNat) : Int) > 1)) := by
         unfold take_J29
         try dsimp only
         rewrite [if_pos g14, if_neg g16, if_pos g19]
         all_goals rfl
        exact cutW_n (decide ((IntKind.u64.wrap ((b.getD k0 default).toNat) : Int) > 1)) e21 (Trans.ren [] (by decide +kernel) (by decide +kernel) rfl ⟨⟨rfl, rfl⟩, ⟨rfl, rfl⟩, ⟨rfl, rfl⟩, trivial⟩ trivial (by decide))
       ·have g19 : ¬ ((k0 : Int) = 9) := beq_f h19
        refine step_g0 rfl h19 rfl (step_g0 rfl h19 rfl (step_pickF rfl h19 rfl rfl (step_r rfl rfl trivial (step_nil ?_))))
        have e22 : take_J29 b k0 = false := by
         unfold take_J29
         try dsimp only
         rewrite [if_pos g14, if_neg g16, if_neg g19]
         all_goals rfl
        exact cutW_n false e22 (Trans.ren [] (by decide +kernel) (by decide +kernel) rfl ⟨⟨rfl, rfl⟩, ⟨rfl, rfl⟩, ⟨rfl, rfl⟩, trivial⟩ trivial (by decide))
     ·have g14 : ¬ ((IntKind.u64.wrap ((b.getD k0 default).toNat) : Int) = 0) := beq_f h14
      refine step_g0 rfl h14 rfl (step_g0 rfl h14 rfl (step_pickF rfl h14 rfl rfl (step_r rfl rfl trivial (step_nil (seqK_n (sem_condF rfl (sem_region rfl (step_r rfl rfl trivial (step_bin rfl rfl rfl rfl rfl trivial (step_r rfl rfl trivial ?_))))))))))
      refine step_gs rfl (fun h24 => ?_) (fun h24 => ?_)
      ·have g24 : (k0 : Int) = 9 := beq_t h24
       refine step_g1 rfl h24 (step_r rfl rfl trivial (step_g1 rfl h24 (step_bin rfl rfl rfl rfl rfl trivial (step_pickT rfl h24 rfl rfl (step_r rfl rfl trivial (step_nil ?_))))))
       have e26 : take_J29 b k0 = (decide ((IntKind.u64.wrap ((b.getD k0 default).toNat) : Int) > 1)) := by
        unfold take_J29
        try dsimp only
        rewrite [if_neg g14, if_pos g24]
        all_goals rfl
       exact cutW_n (decide ((IntKind.u64.wrap ((b.getD k0 default).toNat) : Int) > 1)) e26 (Trans.ren [] (by decide +kernel) (by decide +kernel) rfl ⟨⟨rfl, rfl⟩, ⟨rfl, rfl⟩, ⟨rfl, rfl⟩, trivial⟩ trivial (by decide))
      ·have g24 : ¬ ((k0 : Int) = 9) := beq_f h24
       refine step_g0 rfl h24 rfl (step_g0 rfl h24 rfl (step_pickF rfl h24 rfl rfl (step_r rfl rfl trivial (step_nil ?_))))
       have e27 : take_J29 b k0 = false := by
        unfold take_J29
        try dsimp only
        rewrite [if_neg g14, if_neg g24]
        all_goals rfl
       exact cutW_n false e27 (Trans.ren [] (by decide +kernel) (by decide +kernel) rfl ⟨⟨rfl, rfl⟩, ⟨rfl, rfl⟩, ⟨rfl, rfl⟩, trivial⟩ trivial (by decide))
    ·rintro t28_29 (hJ12 : take_J29 b k0 = t28_29)
     show seqK _ _ _ .normal (⟨[(4, .pv (.int .u64 (orK IntKind.u64 n0 (shlK IntKind.u64 (andK IntKind.u64 (IntKind.u64.wrap ((b.getD k0 default).toNat)) 127) (IntKind.i64.wrap (7 * k0)))))), (5, I k0), (28, B t28_29)], [], 0, [], 45, 0⟩ : St)
     refine seqK_n ?_
     refine sem_cond rfl (fun h28 => ?_) (fun h28 => ?_)
     ·have g28 : t28_29 = true := h28
      refine sem_seq (sem_region rfl (step_r rfl rfl trivial (step_r rfl rfl trivial (step_nil (seqK_n (sem_ret (blkK_r (seqK_r (blkK_r (seqK_r (lupK_r ?_)))))))))))
      refine blkK_r (cutW_r (seqK_r ?_))
      have e29 : take_L0 b ((min b.length 10) - 0) 0 0 = .inl (0, 0) := by
       rewrite [← hI0, hm0]
       rewrite [take_L0]
       try dsimp only
       rewrite [if_neg g9, hJ12]
       try dsimp only
       rewrite [if_pos g28]
       all_goals rfl
      have e30 : take b = (0, 0) := by
       unfold take
       try dsimp only
       rewrite [e29]
       try dsimp only
       all_goals rfl
      rw [e30]
      exact answersR rfl ⟨trivial, trivial, trivial⟩ (rfl) rfl
     ·have g28 : ¬ (t28_29 = true) := boo_f h28
      refine sem_skip (blkK_n (seqK_n (sem_seq (sem_region rfl (step_r rfl rfl trivial (step_r rfl rfl trivial (step_bin rfl rfl rfl rfl rfl trivial (step_r rfl rfl trivial (step_r rfl rfl trivial (step_nil (seqK_n ?_)))))))))))
      refine sem_ret (blkK_r (seqK_r (lupK_r (blkK_r (cutW_r (seqK_r ?_))))))
      have e34 : take_L0 b ((min b.length 10) - 0) 0 0 = .inl ((orK IntKind.u64 n0 (shlK IntKind.u64 (andK IntKind.u64 (IntKind.u64.wrap ((b.getD k0 default).toNat)) 127) (IntKind.i64.wrap (7 * k0)))), (IntKind.i64.wrap (k0 + 1))) := by
       rewrite [← hI0, hm0]
       rewrite [take_L0]
       try dsimp only
       rewrite [if_neg g9, hJ12]
       try dsimp only
       rewrite [if_neg g28]
       all_goals rfl
      have e35 : take b = ((orK IntKind.u64 n0 (shlK IntKind.u64 (andK IntKind.u64 (IntKind.u64.wrap ((b.getD k0 default).toNat)) 127) (IntKind.i64.wrap (7 * k0)))), (IntKind.i64.wrap (k0 + 1))) := by
       unfold take
       try dsimp only
       rewrite [e34]
       try dsimp only
       all_goals rfl
      rw [e35]
      exact answersR rfl ⟨trivial, trivial, trivial⟩ (rfl) rfl
  ·have g2 : ¬ ((k0 : Int) < (min (b.length : Int) 10)) := of_decide_eq_false h2
   have hm0 : min b.length 10 - k0 = 0 := by omega
   refine sem_exit (seqK_e (lupK_e (blkK_t rfl ?_)))
   have e36 : take_L0 b ((min b.length 10) - 0) 0 0 = .inr () := by
    rewrite [← hI0, hm0]
    rewrite [take_L0]
    try dsimp only
    all_goals rfl
   exact cutW_n () e36 (Trans.ren [] (by decide +kernel) (by decide +kernel) rfl trivial trivial (by decide))
 ·rintro ⟨⟩ (hJ1 : take_L0 b ((min b.length 10) - 0) 0 0 = .inr ())
  show seqK _ _ _ .normal (⟨[], [], 0, [], 45, 0⟩ : St)
  refine seqK_n (sem_seq (sem_region rfl (step_r rfl rfl trivial (step_r rfl rfl trivial (step_nil (seqK_n (sem_ret ?_)))))))
  have e37 : take b = (0, 0) := by
   unfold take
   try dsimp only
   rewrite [hJ1]
   try dsimp only
   all_goals rfl
  rw [e37]
  exact answersR rfl ⟨trivial, trivial, trivial⟩ (rfl) rfl

def read (b : List UInt8) (at_ : Int) : Int × Int × Int :=
  if (at_ : Int) < 0 then (0, at_, 2) else if (at_ : Int) > b.length then (0, at_, 2) else if ((take (b.drop at_.toNat)).2 : Int) = 0 then (0, at_, 2) else ((take (b.drop at_.toNat)).1, (IntKind.i64.wrap (at_ + ((take (b.drop at_.toNat)).2))), 0)
theorem read_ok (b : List UInt8) (b_f : Bool) (at_ : Int) : Ok Tryz.prog 112 [.pv (.slc b.length b_f (encY b)), I at_] [] (.tup [.pv (.int .u64 (read b at_).1), I (read b at_).2.1, I (read b at_).2.2]) [] [] := by
 refine Ok.len fun hlen => ?_
 have hl_b : b.length ≤ maxLen := hlen _ (by simp [lensL, lens, lensP])
 unfold maxLen at hl_b
 refine ok_of_sem Tryz.func112 rfl ?_
 show Walks Tryz.prog _ _ ⟨[(0, .pv (.slc b.length b_f (encY b))), (1, I at_)], [], 0, [], 32, 0⟩
 refine sem_seq (sem_region rfl (step_r rfl rfl trivial (step_r rfl rfl trivial (step_r rfl rfl trivial (step_nil (seqK_n (sem_seq (sem_seq (sem_region rfl (step_r rfl rfl trivial (step_bin rfl rfl rfl rfl rfl trivial ?_)))))))))))
 refine step_r rfl rfl trivial ?_
 refine step_gs rfl (fun h3 => ?_) (fun h3 => ?_)
 ·have g3 : (at_ : Int) < 0 := of_decide_eq_true h3
  refine step_g0 rfl h3 rfl (step_g0 rfl h3 rfl (step_g0 rfl h3 rfl (step_g0 rfl h3 rfl (step_pickT rfl h3 rfl rfl (step_nil (seqK_n (sem_condT rfl (sem_seq (sem_region rfl (step_r rfl rfl trivial (step_r rfl rfl trivial ?_)))))))))))
  refine step_r rfl rfl trivial (step_r rfl rfl trivial (step_nil (seqK_n (sem_ret (seqK_r ?_)))))
  have e4 : read b at_ = (0, at_, 2) := by
   unfold read
   try dsimp only
   rewrite [if_pos g3]
   all_goals rfl
  rw [e4]
  exact answersR rfl ⟨trivial, trivial, trivial, trivial⟩ (rfl) rfl
 ·have g3 : ¬ ((at_ : Int) < 0) := of_decide_eq_false h3
  refine step_g1 rfl h3 (step_r rfl rfl trivial (step_g1 rfl h3 (step_r rfl rfl trivial (step_g1 rfl h3 (step_r rfl rfl trivial (step_g1 rfl h3 (step_bin rfl rfl rfl rfl rfl trivial (step_pickF rfl h3 rfl rfl (step_nil (seqK_n ?_))))))))))
  refine sem_cond rfl (fun h6 => ?_) (fun h6 => ?_)
  ·have g6 : (at_ : Int) > b.length := of_decide_eq_true h6
   refine sem_seq (sem_region rfl (step_r rfl rfl trivial (step_r rfl rfl trivial (step_r rfl rfl trivial (step_r rfl rfl trivial (step_nil (seqK_n (sem_ret (seqK_r ?_)))))))))
   have e7 : read b at_ = (0, at_, 2) := by
    unfold read
    try dsimp only
    rewrite [if_neg g3, if_pos g6]
    all_goals rfl
   rw [e7]
   exact answersR rfl ⟨trivial, trivial, trivial, trivial⟩ (rfl) rfl
  ·have g6 : ¬ ((at_ : Int) > b.length) := of_decide_eq_false h6
   refine sem_skip (seqK_n (sem_seq (sem_region rfl (step_r rfl rfl trivial (step_r rfl rfl trivial ?_)))))
   refine step_slcFrom (k := at_.toNat) (n' := (b.drop at_.toNat).length) (cs' := encY (b.drop at_.toNat)) rfl rfl (Int.toNat_of_nonneg (by first | omega | (simp only [IntKind.wrap_i64]; omega))).symm rfl rfl (by first | omega | (simp only [IntKind.wrap_i64]; omega) | (simp; omega)) (List.length_drop ..).symm (encY_from b at_.toNat) rfl ?_
   refine step_call rfl rfl rfl rfl (take_ok (b.drop at_.toNat) b_f) rfl rfl rfl (step_r rfl rfl trivial (step_r rfl rfl trivial (step_r rfl rfl trivial (step_r rfl rfl trivial (step_r rfl rfl trivial (step_nil (seqK_n (sem_seq (sem_seq (sem_region rfl (step_r rfl rfl trivial ?_)))))))))))
   refine step_bin rfl rfl rfl rfl rfl trivial (step_nil (seqK_n ?_))
   refine sem_cond rfl (fun h10 => ?_) (fun h10 => ?_)
   ·have g10 : ((take (b.drop at_.toNat)).2 : Int) = 0 := beq_t h10
    refine sem_seq (sem_region rfl (step_r rfl rfl trivial (step_r rfl rfl trivial (step_r rfl rfl trivial (step_r rfl rfl trivial (step_nil (seqK_n (sem_ret (seqK_r ?_)))))))))
    have e11 : read b at_ = (0, at_, 2) := by
     unfold read
     try dsimp only
     rewrite [if_neg g3, if_neg g6, if_pos g10]
     all_goals rfl
    rw [e11]
    exact answersR rfl ⟨trivial, trivial, trivial, trivial⟩ (rfl) rfl
   ·have g10 : ¬ (((take (b.drop at_.toNat)).2 : Int) = 0) := beq_f h10
    refine sem_skip (seqK_n (sem_seq (sem_region rfl (step_r rfl rfl trivial (step_r rfl rfl trivial (step_r rfl rfl trivial (step_bin rfl rfl rfl rfl rfl trivial (step_r rfl rfl trivial (step_r rfl rfl trivial (step_r rfl rfl trivial (step_nil ?_)))))))))))
    refine seqK_n (sem_ret ?_)
    have e13 : read b at_ = ((take (b.drop at_.toNat)).1, (IntKind.i64.wrap (at_ + ((take (b.drop at_.toNat)).2))), 0) := by
     unfold read
     try dsimp only
     rewrite [if_neg g3, if_neg g6, if_neg g10]
     all_goals rfl
    rw [e13]
    exact answersR rfl ⟨trivial, trivial, trivial, trivial⟩ (rfl) rfl

def readI (b : List UInt8) (at_ : Int) : Int × Int × Int :=
  ((unfo ((read b at_).1)), (read b at_).2.1, (read b at_).2.2)
theorem readI_ok (b : List UInt8) (b_f : Bool) (at_ : Int) : Ok Tryz.prog 86 [.pv (.slc b.length b_f (encY b)), I at_] [] (.tup [I (readI b at_).1, I (readI b at_).2.1, I (readI b at_).2.2]) [] [] := by
 refine Ok.len fun hlen => ?_
 have hl_b : b.length ≤ maxLen := hlen _ (by simp [lensL, lens, lensP])
 unfold maxLen at hl_b
 refine ok_of_sem Tryz.func86 rfl ?_
 show Walks Tryz.prog _ _ ⟨[(0, .pv (.slc b.length b_f (encY b))), (1, I at_)], [], 0, [], 21, 0⟩
 refine sem_seq (sem_region rfl (step_r rfl rfl trivial (step_r rfl rfl trivial (step_r rfl rfl trivial (step_nil (seqK_n (sem_seq (sem_region rfl (step_r rfl rfl trivial (step_r rfl rfl trivial (step_call rfl rfl rfl rfl (read_ok b b_f at_) rfl rfl rfl ?_)))))))))))
 refine step_r rfl rfl trivial (step_r rfl rfl trivial (step_r rfl rfl trivial (step_r rfl rfl trivial (step_r rfl rfl trivial (step_r rfl rfl trivial (step_r rfl rfl trivial (step_nil (seqK_n (sem_seq (sem_region rfl (step_r rfl rfl trivial ?_)))))))))))
 refine step_call rfl rfl rfl rfl (unfo_ok ((read b at_).1)) rfl rfl rfl (step_r rfl rfl trivial (step_r rfl rfl trivial (step_r rfl rfl trivial (step_r rfl rfl trivial (step_r rfl rfl trivial (step_nil (seqK_n (sem_ret ?_))))))))
 have e6 : readI b at_ = ((unfo ((read b at_).1)), (read b at_).2.1, (read b at_).2.2) := by
  unfold readI
  try dsimp only
  all_goals rfl
 rw [e6]
 exact answersR rfl ⟨trivial, trivial, trivial, trivial⟩ (rfl) rfl

def readU (b : List UInt8) (at_ : Int) : Int × Int × Int :=
  if ((read b at_).2.2 : Int) = 0 then (if ((read b at_).1 : Int) > 9223372036854775807 then (0, at_, 2) else ((IntKind.i64.wrap ((read b at_).1)), (read b at_).2.1, 0)) else (0, at_, 2)
theorem readU_ok (b : List UInt8) (b_f : Bool) (at_ : Int) : Ok Tryz.prog 111 [.pv (.slc b.length b_f (encY b)), I at_] [] (.tup [I (readU b at_).1, I (readU b at_).2.1, I (readU b at_).2.2]) [] [] := by
 refine Ok.len fun hlen => ?_
 have hl_b : b.length ≤ maxLen := hlen _ (by simp [lensL, lens, lensP])
 unfold maxLen at hl_b
 refine ok_of_sem Tryz.func111 rfl ?_
 show Walks Tryz.prog _ _ ⟨[(0, .pv (.slc b.length b_f (encY b))), (1, I at_)], [], 0, [], 27, 0⟩
 refine sem_seq (sem_region rfl (step_r rfl rfl trivial (step_r rfl rfl trivial (step_r rfl rfl trivial (step_nil (seqK_n (sem_seq (sem_region rfl (step_r rfl rfl trivial (step_r rfl rfl trivial (step_call rfl rfl rfl rfl (read_ok b b_f at_) rfl rfl rfl ?_)))))))))))
 refine step_r rfl rfl trivial (step_r rfl rfl trivial (step_r rfl rfl trivial (step_r rfl rfl trivial (step_r rfl rfl trivial (step_r rfl rfl trivial (step_r rfl rfl trivial (step_nil (seqK_n (sem_seq (sem_seq (sem_region rfl ?_)))))))))))
 refine step_r rfl rfl trivial (step_bin rfl rfl rfl rfl rfl trivial (step_r rfl rfl trivial ?_))
 refine step_gs rfl (fun h6 => ?_) (fun h6 => ?_)
 ·have g6 : ¬ (((read b at_).2.2 : Int) = 0) := bne_t h6
  refine step_g0 rfl h6 rfl (step_g0 rfl h6 rfl (step_pickT rfl h6 rfl rfl (step_nil (seqK_n (sem_condT rfl (sem_seq (sem_region rfl (step_r rfl rfl trivial (step_r rfl rfl trivial (step_r rfl rfl trivial (step_r rfl rfl trivial ?_)))))))))))
  refine step_nil (seqK_n (sem_ret (seqK_r ?_)))
  have e7 : readU b at_ = (0, at_, 2) := by
   unfold readU
   try dsimp only
   rewrite [if_neg g6]
   all_goals rfl
  rw [e7]
  exact answersR rfl ⟨trivial, trivial, trivial, trivial⟩ (rfl) rfl
 ·have g6 : ((read b at_).2.2 : Int) = 0 := bne_f h6
  refine step_g1 rfl h6 (step_r rfl rfl trivial (step_g1 rfl h6 (step_bin rfl rfl rfl rfl rfl trivial (step_pickF rfl h6 rfl rfl (step_nil (seqK_n ?_))))))
  refine sem_cond rfl (fun h9 => ?_) (fun h9 => ?_)
  ·have g9 : ((read b at_).1 : Int) > 9223372036854775807 := of_decide_eq_true h9
   refine sem_seq (sem_region rfl (step_r rfl rfl trivial (step_r rfl rfl trivial (step_r rfl rfl trivial (step_r rfl rfl trivial (step_nil (seqK_n (sem_ret (seqK_r ?_)))))))))
   have e10 : readU b at_ = (0, at_, 2) := by
    unfold readU
    try dsimp only
    rewrite [if_pos g6, if_pos g9]
    all_goals rfl
   rw [e10]
   exact answersR rfl ⟨trivial, trivial, trivial, trivial⟩ (rfl) rfl
  ·have g9 : ¬ (((read b at_).1 : Int) > 9223372036854775807) := of_decide_eq_false h9
   refine sem_skip (seqK_n (sem_seq (sem_region rfl (step_r rfl rfl trivial (step_r rfl rfl trivial (step_r rfl rfl trivial (step_r rfl rfl trivial (step_r rfl rfl trivial (step_r rfl rfl trivial (step_nil (seqK_n ?_)))))))))))
   refine sem_ret ?_
   have e12 : readU b at_ = ((IntKind.i64.wrap ((read b at_).1)), (read b at_).2.1, 0) := by
    unfold readU
    try dsimp only
    rewrite [if_pos g6, if_neg g9]
    all_goals rfl
   rw [e12]
   exact answersR rfl ⟨trivial, trivial, trivial, trivial⟩ (rfl) rfl

def cntP (b : List UInt8) (at_ : Int) (most : Int) : Int × Int × Int :=
  if ((readU b at_).2.2 : Int) = 0 then (if ((readU b at_).1 : Int) > most then (0, at_, 3) else ((readU b at_).1, (readU b at_).2.1, (readU b at_).2.2)) else ((readU b at_).1, (readU b at_).2.1, (readU b at_).2.2)
theorem cntP_ok (b : List UInt8) (b_f : Bool) (at_ : Int) (most : Int) : Ok Tryz.prog 85 [.pv (.slc b.length b_f (encY b)), I at_, I most] [] (.tup [I (cntP b at_ most).1, I (cntP b at_ most).2.1, I (cntP b at_ most).2.2]) [] [] := by
 refine Ok.len fun hlen => ?_
 have hl_b : b.length ≤ maxLen := hlen _ (by simp [lensL, lens, lensP])
 unfold maxLen at hl_b
 refine ok_of_sem Tryz.func85 rfl ?_
 show Walks Tryz.prog _ _ ⟨[(0, .pv (.slc b.length b_f (encY b))), (1, I at_), (2, I most)], [], 0, [], 30, 0⟩
 refine sem_seq (sem_region rfl (step_r rfl rfl trivial (step_r rfl rfl trivial (step_r rfl rfl trivial (step_nil (seqK_n (sem_seq (sem_region rfl (step_r rfl rfl trivial (step_r rfl rfl trivial (step_call rfl rfl rfl rfl (readU_ok b b_f at_) rfl rfl rfl ?_)))))))))))
 refine step_r rfl rfl trivial (step_r rfl rfl trivial (step_r rfl rfl trivial (step_r rfl rfl trivial (step_r rfl rfl trivial (step_r rfl rfl trivial (step_r rfl rfl trivial (step_nil (seqK_n (sem_seq (sem_seq (sem_region rfl ?_)))))))))))
 refine step_r rfl rfl trivial (step_bin rfl rfl rfl rfl rfl trivial (step_r rfl rfl trivial ?_))
 refine step_gs rfl (fun h6 => ?_) (fun h6 => ?_)
 ·have g6 : ((readU b at_).2.2 : Int) = 0 := beq_t h6
  refine step_g1 rfl h6 (step_r rfl rfl trivial (step_g1 rfl h6 (step_r rfl rfl trivial (step_g1 rfl h6 (step_bin rfl rfl rfl rfl rfl trivial (step_pickT rfl h6 rfl rfl (step_nil (seqK_n ?_))))))))
  refine sem_cond rfl (fun h9 => ?_) (fun h9 => ?_)
  ·have g9 : ((readU b at_).1 : Int) > most := of_decide_eq_true h9
   refine sem_seq (sem_region rfl (step_r rfl rfl trivial (step_r rfl rfl trivial (step_r rfl rfl trivial (step_r rfl rfl trivial (step_nil (seqK_n (sem_ret (seqK_r ?_)))))))))
   have e10 : cntP b at_ most = (0, at_, 3) := by
    unfold cntP
    try dsimp only
    rewrite [if_pos g6, if_pos g9]
    all_goals rfl
   rw [e10]
   exact answersR rfl ⟨trivial, trivial, trivial, trivial⟩ (rfl) rfl
  ·have g9 : ¬ (((readU b at_).1 : Int) > most) := of_decide_eq_false h9
   refine sem_skip (seqK_n (sem_seq (sem_region rfl (step_r rfl rfl trivial (step_r rfl rfl trivial (step_r rfl rfl trivial (step_r rfl rfl trivial (step_r rfl rfl trivial (step_r rfl rfl trivial (step_nil (seqK_n ?_)))))))))))
   refine sem_ret ?_
   have e11 : cntP b at_ most = ((readU b at_).1, (readU b at_).2.1, (readU b at_).2.2) := by
    unfold cntP
    try dsimp only
    rewrite [if_pos g6, if_neg g9]
    all_goals rfl
   rw [e11]
   exact answersR rfl ⟨trivial, trivial, trivial, trivial⟩ (rfl) rfl
 ·have g6 : ¬ (((readU b at_).2.2 : Int) = 0) := beq_f h6
  refine step_g0 rfl h6 rfl (step_g0 rfl h6 rfl (step_g0 rfl h6 rfl (step_pickF rfl h6 rfl rfl (step_nil (seqK_n (sem_condF rfl (sem_skip (seqK_n (sem_seq (sem_region rfl (step_r rfl rfl trivial ?_)))))))))))
  refine step_r rfl rfl trivial (step_r rfl rfl trivial (step_r rfl rfl trivial (step_r rfl rfl trivial (step_r rfl rfl trivial (step_nil (seqK_n (sem_ret ?_)))))))
  have e12 : cntP b at_ most = ((readU b at_).1, (readU b at_).2.1, (readU b at_).2.2) := by
   unfold cntP
   try dsimp only
   rewrite [if_neg g6]
   all_goals rfl
  rw [e12]
  exact answersR rfl ⟨trivial, trivial, trivial, trivial⟩ (rfl) rfl

theorem cnt_le (b : List UInt8) (at_ most : Int) (h : (cntP b at_ most).2.2 = 0) : (cntP b at_ most).1 ≤ most := by
  unfold cntP at h ⊢
  by_cases h1 : (readU b at_).2.2 = 0
  · rw [if_pos h1] at h ⊢
    by_cases h2 : (readU b at_).1 > most
    · rw [if_pos h2] at h; exact absurd h (show ¬ ((3 : Int) = 0) by decide)
    · rw [if_neg h2] at h ⊢; dsimp only; omega
  · rw [if_neg h1] at h; exact absurd h h1

def readIs_L0 (b : List UInt8) (at_ : Int) : Nat → Nat → (List Int) → Int → Sum ((List Int) × Int × Int) ((List Int) × Int)
  | 0, k0, out0, next0 => .inr (out0, next0)
  | n_ + 1, k0, out0, next0 => if ((readI b next0).2.2 : Int) = 0 then readIs_L0 b at_ n_ (k0 + 1) (out0 ++ [(readI b next0).1]) ((readI b next0).2.1) else .inl ([], at_, (readI b next0).2.2)
def readIs (b : List UInt8) (at_ : Int) (most : Int) : (List Int) × Int × Int :=
  if ((cntP b at_ most).2.2 : Int) = 0 then (match readIs_L0 b at_ (((cntP b at_ most).1.toNat) - 0) 0 ([]) ((cntP b at_ most).2.1) with
    | .inl r_ => r_
    | .inr (out_0, next_0) => (out_0, next_0, 0)) else ([], at_, (cntP b at_ most).2.2)
theorem readIs_ok (b : List UInt8) (b_f : Bool) (at_ : Int) (most : Int) (hm : most ≤ 16000000) : Ok Tryz.prog 54 [.pv (.slc b.length b_f (encY b)), I at_, I most] [] (.tup [.ref 0 1 0 (readIs b at_ most).1.length, I (readIs b at_ most).2.1, I (readIs b at_ most).2.2]) [.row 3 1 (encI (readIs b at_ most).1)] [] := by
 refine Ok.len fun hlen => ?_
 have hl_b : b.length ≤ maxLen := hlen _ (by simp [lensL, lens, lensP])
 unfold maxLen at hl_b
 refine ok_of_sem Tryz.func54 rfl ?_
 show Walks Tryz.prog _ _ ⟨[(0, .pv (.slc b.length b_f (encY b))), (1, I at_), (2, I most)], [], 0, [], 50, 0⟩
 refine sem_seq (sem_region rfl (step_n (nx' := 1) rfl rfl rfl trivial (step_r rfl rfl trivial (step_r rfl rfl trivial (step_nil (seqK_n (sem_seq (sem_region rfl (step_r rfl rfl trivial (step_r rfl rfl trivial (step_r rfl rfl trivial ?_)))))))))))
 refine step_call rfl rfl rfl rfl (cntP_ok b b_f at_ most) rfl rfl rfl (step_r rfl rfl trivial (step_r rfl rfl trivial (step_r rfl rfl trivial (step_r rfl rfl trivial (step_r rfl rfl trivial (step_r rfl rfl trivial (step_r rfl rfl trivial (step_nil (seqK_n (sem_seq (sem_seq ?_)))))))))))
 refine sem_region rfl (step_r rfl rfl trivial (step_bin rfl rfl rfl rfl rfl trivial (step_nil (seqK_n ?_))))
 refine sem_cond rfl (fun h6 => ?_) (fun h6 => ?_)
 ·have g6 : ¬ (((cntP b at_ most).2.2 : Int) = 0) := bne_t h6
  refine sem_seq (sem_region rfl (step_r rfl rfl trivial (step_r rfl rfl trivial (step_n (nx' := 2) rfl rfl rfl trivial (step_r rfl rfl trivial (step_r rfl rfl trivial (step_nil (seqK_n (sem_ret (seqK_r ?_))))))))))
  have e7 : readIs b at_ most = ([], at_, (cntP b at_ most).2.2) := by
   unfold readIs
   try dsimp only
   rewrite [if_neg g6]
   all_goals rfl
  rw [e7]
  exact answersGR [] [1] rfl ⟨trivial, trivial, trivial, trivial⟩ rfl (by (repeat' apply And.intro) <;> first | trivial | rfl | exact flat_len (fun _ => rfl) _ | exact encI_len _ | exact encB_len _ | exact encY_len _ | assumption) (rfl) rfl rfl rfl (by decide) rfl rfl ⟨⟨rfl, rfl⟩, trivial⟩
 ·have g6 : ((cntP b at_ most).2.2 : Int) = 0 := bne_f h6
  refine sem_skip (seqK_n (sem_seq (sem_region rfl (step_n (nx' := 2) rfl rfl rfl trivial (step_nil (seqK_n (sem_seq (sem_seq (sem_region rfl (step_r rfl rfl trivial (step_r rfl rfl trivial ?_)))))))))))
  refine step_nil (seqK_n ?_)
  refine sem_cutW (fun w_ : (List Int) × Int => match w_ with | (out_0, next_0) => (⟨[(10, I next_0), (12, .ref 0 1 0 out_0.length)], [(0, .row 3 1 (encI out_0))], 1, [], 50, 0⟩ : St)) (fun w_ => readIs_L0 b at_ (((cntP b at_ most).1.toNat) - 0) 0 ([]) ((cntP b at_ most).2.1) = .inr w_) ?_ ?_
  ·refine sem_block ?_
   refine sem_loopT (fun w_ : Nat × (List Int) × Int => match w_ with | (k0, out0, next0) => (⟨[(0, .pv (.slc b.length b_f (encY b))), (1, I at_), (10, I next0), (12, .ref 0 1 0 out0.length), (28, I (cntP b at_ most).1), (29, I k0)], [(0, .row 3 1 (encI out0))], 1, [], 50, 0⟩ : St)) (fun w_ : Nat × (List Int) × Int => match w_ with | (k0, out0, next0) => readIs_L0 b at_ (((cntP b at_ most).1.toNat) - k0) k0 out0 next0 = readIs_L0 b at_ (((cntP b at_ most).1.toNat) - 0) 0 ([]) ((cntP b at_ most).2.1) ∧ k0 ≤ (cntP b at_ most).1.toNat ∧ out0.length ≤ k0) (fun w_ : Nat × (List Int) × Int => match w_ with | (k0, out0, next0) => (cntP b at_ most).1.toNat - k0) (0, [], (cntP b at_ most).2.1) (⟨rfl, (by first | omega | (simp; omega)), by first | omega | simp | (simp; omega)⟩) ?_ (fun w_ hh_ => ?_)
   ·exact (Trans.ren [(0, 1), (1, 0)] (by decide +kernel) (by decide +kernel) rfl ⟨⟨rfl, rfl⟩, ⟨rfl, rfl⟩, ⟨rfl, rfl⟩, ⟨congrArg (fun n => some (AV.ref 1 1 0 n)) (by first | rfl | simp only [List.length_set] | simp | omega | (simp; omega)), rfl⟩, ⟨rfl, rfl⟩, ⟨rfl, rfl⟩, trivial⟩ ⟨⟨rfl, rfl, rfl⟩, trivial⟩ (by decide))
   obtain ⟨k0, out0, next0⟩ := w_
   obtain ⟨hI0, hb0, hv0⟩ := hh_
   show Walks Tryz.prog _ _ (⟨[(0, .pv (.slc b.length b_f (encY b))), (1, I at_), (10, I next0), (12, .ref 0 1 0 out0.length), (28, I (cntP b at_ most).1), (29, I k0)], [(0, .row 3 1 (encI out0))], 1, [], 50, 0⟩ : St)
   have hq0 := cnt_le b at_ most (by assumption)
   refine sem_seq (sem_region rfl (step_bin rfl rfl rfl rfl rfl trivial (step_nil (seqK_n (sem_seq ?_)))))
   refine sem_cond rfl (fun h9 => ?_) (fun h9 => ?_)
   ·have g9 : (k0 : Int) < ((cntP b at_ most).1) := of_decide_eq_true h9
    have hm0 : (cntP b at_ most).1.toNat - k0 = ((cntP b at_ most).1.toNat - (k0 + 1)) + 1 := by omega
    refine sem_skip (seqK_n (sem_seq (sem_block (sem_seq (sem_region rfl (step_r rfl rfl trivial (step_r rfl rfl trivial (step_call rfl rfl rfl rfl (readI_ok b b_f next0) rfl rfl rfl (step_r rfl rfl trivial (step_r rfl rfl trivial (step_r rfl rfl trivial ?_)))))))))))
    refine step_r rfl rfl trivial (step_r rfl rfl trivial (step_r rfl rfl trivial (step_r rfl rfl trivial (step_nil (seqK_n (sem_seq (sem_seq (sem_region rfl (step_r rfl rfl trivial (step_bin rfl rfl rfl rfl rfl trivial (step_nil ?_)))))))))))
    refine seqK_n ?_
    refine sem_cond rfl (fun h14 => ?_) (fun h14 => ?_)
    ·have g14 : ¬ (((readI b next0).2.2 : Int) = 0) := bne_t h14
     refine sem_seq (sem_region rfl (step_r rfl rfl trivial (step_r rfl rfl trivial (step_n (nx' := 2) rfl rfl rfl trivial (step_r rfl rfl trivial (step_r rfl rfl trivial (step_nil (seqK_n (sem_ret (seqK_r (blkK_r ?_)))))))))))
     refine seqK_r (lupK_r (blkK_r (cutW_r (seqK_r ?_))))
     have e16 : readIs_L0 b at_ (((cntP b at_ most).1.toNat) - 0) 0 ([]) ((cntP b at_ most).2.1) = .inl ([], at_, (readI b next0).2.2) := by
      rewrite [← hI0, hm0]
      rewrite [readIs_L0]
      try dsimp only
      rewrite [if_neg g14]
      all_goals rfl
     have e17 : readIs b at_ most = ([], at_, (readI b next0).2.2) := by
      unfold readIs
      try dsimp only
      rewrite [if_pos g6, e16]
      try dsimp only
      all_goals rfl
     rw [e17]
     exact answersGR [] [1] rfl ⟨trivial, trivial, trivial, trivial⟩ rfl (by (repeat' apply And.intro) <;> first | trivial | rfl | exact flat_len (fun _ => rfl) _ | exact encI_len _ | exact encB_len _ | exact encY_len _ | assumption) (rfl) rfl rfl rfl (by decide) rfl rfl ⟨⟨rfl, rfl⟩, trivial⟩
    ·have g14 : ((readI b next0).2.2 : Int) = 0 := bne_f h14
     refine sem_skip (seqK_n (sem_region rfl (step_r rfl rfl trivial (step_r rfl rfl trivial (step_n (o := .row _ _ [_]) (nx' := 2) rfl rfl rfl (by decide) ?_)))))
     refine step_appendC (m := 1) (new := [_]) (cs' := encI (out0 ++ [(readI b next0).1])) (n' := (out0 ++ [(readI b next0).1]).length) (H' := [(1, .row _ _ _), (0, .row _ _ _)]) rfl rfl rfl (rfl) rfl rfl rfl rfl rfl rfl (encI_len out0) (rfl) (by first | decide | (unfold maxGrow; omega) | (unfold maxGrow; simp; omega) | (unfold maxGrow; simp only [List.length_append, List.length_take, List.length_drop, List.length_cons, List.length_nil, IntKind.wrap_i64] at *; omega)) (len_snoc out0 _) (((encI_snoc out0 ((readI b next0).1))).symm) (.inl rfl) rfl rfl (.keep rfl (.keep rfl .nil)) (.keep rfl (.keep rfl (.lose (v' := .undef) rfl (.keep rfl (.keep rfl (.keep rfl (.keep rfl (.keep rfl (.keep rfl (.keep rfl (.keep rfl (.keep rfl (.keep rfl (.keep rfl (.keep rfl (.keep rfl (.keep rfl (.keep rfl (.keep rfl (.lose (v' := .undef) rfl (.keep rfl (.keep rfl .nil)))))))))))))))))))))) ?_
     refine step_r rfl rfl trivial (step_r rfl rfl trivial (step_r rfl rfl trivial (step_nil (blkK_n (seqK_n (sem_region rfl (step_bin rfl rfl rfl rfl rfl trivial (step_r rfl rfl trivial (step_nil ?_)))))))))
     have e19 : readIs_L0 b at_ (((cntP b at_ most).1.toNat) - k0) k0 out0 next0 = readIs_L0 b at_ (((cntP b at_ most).1.toNat) - (k0 + 1)) (k0 + 1) (out0 ++ [(readI b next0).1]) ((readI b next0).2.1) := by
      rewrite [hm0]
      rewrite [readIs_L0]
      try dsimp only
      rewrite [if_pos g14]
      all_goals rfl
     exact lup_againT (k0 + 1, (out0 ++ [(readI b next0).1]), (readI b next0).2.1) ⟨e19.symm.trans hI0, (by omega), by first | omega | assumption | (simp only [List.length_append, List.length_cons, List.length_nil, List.length_set]; omega) | (simp; omega) | grind⟩ (by show (cntP b at_ most).1.toNat - (k0 + 1) < (cntP b at_ most).1.toNat - k0; omega) (Trans.ren [] (by decide +kernel) (by decide +kernel) rfl ⟨⟨rfl, rfl⟩, ⟨rfl, rfl⟩, ⟨rfl, rfl⟩, ⟨rfl, rfl⟩, ⟨rfl, rfl⟩, ⟨congrArg (fun n => some (I n)) (wrapI (k := k0) (by first | omega | (simp; omega))), rfl⟩, trivial⟩ ⟨⟨rfl, rfl, rfl⟩, trivial⟩ (by decide))
   ·have g9 : ¬ ((k0 : Int) < ((cntP b at_ most).1)) := of_decide_eq_false h9
    have hm0 : (cntP b at_ most).1.toNat - k0 = 0 := by omega
    refine sem_exit (seqK_e (lupK_e (blkK_t rfl ?_)))
    have e20 : readIs_L0 b at_ (((cntP b at_ most).1.toNat) - 0) 0 ([]) ((cntP b at_ most).2.1) = .inr (out0, next0) := by
     rewrite [← hI0, hm0]
     rewrite [readIs_L0]
     try dsimp only
     all_goals rfl
    exact cutW_n (out0, next0) e20 (Trans.ren [] (by decide +kernel) (by decide +kernel) rfl ⟨⟨rfl, rfl⟩, ⟨rfl, rfl⟩, trivial⟩ ⟨⟨rfl, rfl, rfl⟩, trivial⟩ (by decide))
  ·rintro ⟨out_0, next_0⟩ (hJ8 : readIs_L0 b at_ (((cntP b at_ most).1.toNat) - 0) 0 ([]) ((cntP b at_ most).2.1) = .inr (out_0, next_0))
   show seqK _ _ _ .normal (⟨[(10, I next_0), (12, .ref 0 1 0 out_0.length)], [(0, .row 3 1 (encI out_0))], 1, [], 50, 0⟩ : St)
   refine seqK_n (sem_seq (sem_region rfl (step_r rfl rfl trivial (step_r rfl rfl trivial (step_r rfl rfl trivial (step_r rfl rfl trivial (step_r rfl rfl trivial (step_nil (seqK_n (sem_ret ?_))))))))))
   have e22 : readIs b at_ most = (out_0, next_0, 0) := by
    unfold readIs
    try dsimp only
    rewrite [if_pos g6, hJ8]
    try dsimp only
    all_goals rfl
   rw [e22]
   exact answersGR [] [0] rfl ⟨trivial, trivial, trivial, trivial⟩ rfl (by (repeat' apply And.intro) <;> first | trivial | rfl | exact flat_len (fun _ => rfl) _ | exact encI_len _ | exact encB_len _ | exact encY_len _ | assumption) (rfl) rfl rfl rfl (by decide) rfl rfl ⟨⟨rfl, rfl⟩, trivial⟩

theorem readIs_L0_len (b : List UInt8) (at_ : Int) : ∀ (m k : Nat) (out : List Int) (next : Int) (o : List Int) (n : Int), readIs_L0 b at_ m k out next = .inr (o, n) → o.length = out.length + m
  | 0, k, out, next, o, n, h => by rw [readIs_L0] at h; cases h; rfl
  | m + 1, k, out, next, o, n, h => by
    rw [readIs_L0] at h
    by_cases h1 : (readI b next).2.2 = 0
    · rw [if_pos h1] at h
      have := readIs_L0_len b at_ m (k + 1) _ _ o n h
      simp only [List.length_append, List.length_cons, List.length_nil] at this; omega
    · rw [if_neg h1] at h; cases h
theorem readIs_L0_bad (b : List UInt8) (at_ : Int) : ∀ (m k : Nat) (out : List Int) (next : Int) (r : (List Int) × Int × Int), readIs_L0 b at_ m k out next = .inl r → r.1 = []
  | 0, k, out, next, r, h => by rw [readIs_L0] at h; cases h
  | m + 1, k, out, next, r, h => by
    rw [readIs_L0] at h
    by_cases h1 : (readI b next).2.2 = 0
    · rw [if_pos h1] at h; exact readIs_L0_bad b at_ m (k + 1) _ _ r h
    · rw [if_neg h1] at h; cases h; rfl
theorem readIs_len (b : List UInt8) (at_ most : Int) : (readIs b at_ most).1.length ≤ most.toNat := by
  unfold readIs
  by_cases h1 : (cntP b at_ most).2.2 = 0
  · rw [if_pos h1]
    have h2 := cnt_le b at_ most h1
    cases h3 : readIs_L0 b at_ ((cntP b at_ most).1.toNat - 0) 0 [] (cntP b at_ most).2.1 with
    | inl r => dsimp only; rw [readIs_L0_bad _ _ _ _ _ _ _ h3]; exact Nat.zero_le _
    | inr r =>
      obtain ⟨o, n⟩ := r
      dsimp only
      have h4 := readIs_L0_len _ _ _ _ _ _ _ _ h3
      simp only [List.length_nil] at h4; omega
  · rw [if_neg h1]; exact Nat.zero_le _

def hasPre0 (s : List UInt8) (prefix_ : List UInt8) : Bool :=
  if (s.length : Int) ≥ prefix_.length then ((s.take prefix_.length) == prefix_) else false
theorem hasPre0_ok (s : List UInt8) (prefix_ : List UInt8) : Ok Tryz.prog 84 [.pv (.str s), .pv (.str prefix_)] [] (B (hasPre0 s prefix_)) [] [] := by
 refine ok_of_sem Tryz.func84 rfl ?_
 show Walks Tryz.prog _ _ ⟨[(0, .pv (.str s)), (1, .pv (.str prefix_))], [], 0, [], 18, 0⟩
 refine sem_seq (sem_region rfl (step_r rfl rfl trivial (step_nil (seqK_n (sem_seq (sem_region rfl (step_r rfl rfl trivial (step_r rfl rfl trivial (step_r rfl rfl trivial (step_r rfl rfl trivial (step_bin rfl rfl rfl rfl rfl trivial ?_)))))))))))
 refine step_r rfl rfl trivial ?_
 refine step_gs rfl (fun h4 => ?_) (fun h4 => ?_)
 ·have g4 : (s.length : Int) ≥ prefix_.length := of_decide_eq_true h4
  refine step_g1 rfl h4 (step_r rfl rfl trivial (step_g1 rfl h4 (step_r rfl rfl trivial (step_g1 rfl h4 (step_r rfl rfl trivial (step_g1 rfl h4 ?_))))))
  refine step_strTo (k := prefix_.length) rfl rfl rfl rfl (by first | omega | (simp only [IntKind.wrap_i64]; omega) | (simp only [IntKind.wrap_i64] at *; omega) | (simp; omega)) rfl ?_
  refine step_g1 rfl h4 (step_r rfl rfl trivial (step_g1 rfl h4 (step_bin rfl rfl rfl rfl rfl trivial (step_pickT rfl h4 rfl rfl (step_r rfl rfl trivial (step_nil (seqK_n (sem_ret ?_))))))))
  have e6 : hasPre0 s prefix_ = ((s.take prefix_.length) == prefix_) := by
   unfold hasPre0
   try dsimp only
   rewrite [if_pos g4]
   all_goals rfl
  rw [e6]
  exact answersR rfl ⟨trivial, trivial⟩ (rfl) rfl
 ·have g4 : ¬ ((s.length : Int) ≥ prefix_.length) := of_decide_eq_false h4
  refine step_g0 rfl h4 rfl (step_g0 rfl h4 rfl (step_g0 rfl h4 rfl (step_g0 rfl h4 rfl (step_g0 rfl h4 rfl (step_g0 rfl h4 rfl (step_pickF rfl h4 rfl rfl (step_r rfl rfl trivial (step_nil (seqK_n (sem_ret ?_))))))))))
  have e7 : hasPre0 s prefix_ = false := by
   unfold hasPre0
   try dsimp only
   rewrite [if_neg g4]
   all_goals rfl
  rw [e7]
  exact answersR rfl ⟨trivial, trivial⟩ (rfl) rfl

def hasPre (s : List UInt8) (prefix_ : List UInt8) : Bool :=
  (hasPre0 s prefix_)
theorem hasPre_ok (s : List UInt8) (prefix_ : List UInt8) : Ok Tryz.prog 53 [.pv (.str s), .pv (.str prefix_)] [] (B (hasPre s prefix_)) [] [] := by
 refine ok_of_sem Tryz.func53 rfl ?_
 show Walks Tryz.prog _ _ ⟨[(0, .pv (.str s)), (1, .pv (.str prefix_))], [], 0, [], 8, 0⟩
 refine sem_seq (sem_region rfl (step_r rfl rfl trivial (step_nil (seqK_n (sem_seq (sem_region rfl (step_r rfl rfl trivial (step_r rfl rfl trivial (step_call rfl rfl rfl rfl (hasPre0_ok s prefix_) rfl rfl rfl (step_r rfl rfl trivial (step_nil ?_)))))))))))
 refine seqK_n (sem_ret ?_)
 have e4 : hasPre s prefix_ = (hasPre0 s prefix_) := by
  unfold hasPre
  try dsimp only
  all_goals rfl
 rw [e4]
 exact answersR rfl ⟨trivial, trivial⟩ (rfl) rfl

attribute [local irreducible] unflat readIs right9
def dec (b : List UInt8) : GContent × Int :=
  if hasPre b ([66, 82, 87, 49]) = true then (if ((readIs b 4 b.length).2.2 : Int) = 0 then (if ((readIs b 4 b.length).2.1 : Int) = b.length then (if (unflat ((readIs b 4 b.length).1)).2 = true then (if right9 ((unflat ((readIs b 4 b.length).1)).1) = true then (((unflat ((readIs b 4 b.length).1)).1), 0) else ((⟨[], [], [], (⟨0, 0, []⟩ : GGrid), (⟨0, 0⟩ : GPos), (⟨0, 0⟩ : GPos)⟩ : GContent), 1)) else ((⟨[], [], [], (⟨0, 0, []⟩ : GGrid), (⟨0, 0⟩ : GPos), (⟨0, 0⟩ : GPos)⟩ : GContent), 2)) else ((⟨[], [], [], (⟨0, 0, []⟩ : GGrid), (⟨0, 0⟩ : GPos), (⟨0, 0⟩ : GPos)⟩ : GContent), 2)) else ((⟨[], [], [], (⟨0, 0, []⟩ : GGrid), (⟨0, 0⟩ : GPos), (⟨0, 0⟩ : GPos)⟩ : GContent), 2)) else ((⟨[], [], [], (⟨0, 0, []⟩ : GGrid), (⟨0, 0⟩ : GPos), (⟨0, 0⟩ : GPos)⟩ : GContent), 2)
theorem dec_ok (b : List UInt8) (b_f : Bool) (hb : b.length ≤ 16000000) : Ok Tryz.prog 18 [.pv (.slc b.length b_f (encY b))] [] (.tup [aGContent (dec b).1, I (dec b).2]) [] [] := by
 refine Ok.len fun hlen => ?_
 have hl_b : b.length ≤ maxLen := hlen _ (by simp [lensL, lens, lensP])
 unfold maxLen at hl_b
 refine ok_of_sem Tryz.func18 rfl ?_
 show Walks Tryz.prog _ _ ⟨[(0, .pv (.slc b.length b_f (encY b)))], [], 0, [], 47, 0⟩
 refine sem_seq (sem_region rfl (step_n (o := .box [_, _, _, _, _, _, _, _, _, _]) (nx' := 1) rfl rfl rfl trivial (step_r rfl rfl trivial (step_nil (seqK_n (sem_seq (sem_seq (sem_region rfl (step_r rfl rfl trivial ?_)))))))))
 refine step_cstr (l := b) rfl rfl rfl rfl rfl ?_
 refine step_call rfl rfl rfl rfl (hasPre_ok b ([66, 82, 87, 49])) rfl rfl rfl (step_r rfl rfl trivial (step_nil (seqK_n ?_)))
 refine sem_cond rfl (fun h1 => ?_) (fun h1 => ?_)
 ·have g1 : ¬ (hasPre b ([66, 82, 87, 49]) = true) := boo_f (not_t h1)
  refine sem_seq (sem_region rfl (step_r (v := (.agg [_, _, _, _, _, _, _, _, _, _])) rfl rfl trivial ?_))
  refine step_storeB (H' := [(0, .box [_, _, _, _, _, _, _, _, _, _])]) rfl rfl rfl rfl rfl rfl (.inl rfl) rfl ?_
  refine step_r rfl rfl trivial (step_nil (seqK_n ?_))
  refine sem_trans (Trans.loose (T' := [(2, .ptr 0 0), (3, I 2)]) (H' := [(0, .box [.pv (.slc 0 false []), .pv (.slc 0 false []), .pv (.slc 0 false []), I 0, I 0, .pv (.slc 0 false []), I 0, I 0, I 0, I 0])]) ⟨⟨_, rfl, .inl rfl⟩, ⟨_, rfl, .inl rfl⟩, trivial⟩ ⟨⟨_, rfl, .inr rfl⟩, trivial⟩) ?_
  refine sem_ret (seqK_r ?_)
  have e2 : dec b = ((⟨[], [], [], (⟨0, 0, []⟩ : GGrid), (⟨0, 0⟩ : GPos), (⟨0, 0⟩ : GPos)⟩ : GContent), 2) := by
   unfold dec
   try dsimp only
   rewrite [if_neg g1]
   all_goals rfl
  rw [e2]
  exact answersR rfl ⟨Nat.le_of_ble_eq_true rfl, trivial, trivial⟩ (rfl) rfl
 ·have g1 : hasPre b ([66, 82, 87, 49]) = true := (not_f h1)
  refine sem_skip (seqK_n (sem_seq (sem_region rfl (step_r rfl rfl trivial (step_r rfl rfl trivial (step_r rfl rfl trivial ?_))))))
  refine step_callN (out' := .tup [.ref 1 _ _ _, _, _]) (H' := [(1, .row _ _ _), (0, _)]) (nx' := 2) rfl rfl rfl rfl rfl rfl rfl (by (repeat' apply And.intro) <;> first | trivial | rfl | exact flat_len (fun _ => rfl) _ | exact encI_len _ | exact encB_len _ | exact encY_len _ | exact Nat.le_of_ble_eq_true rfl | assumption) (readIs_ok b false 4 b.length (by first | assumption | omega)) rfl rfl rfl rfl ?_
  have p3 := readIs_len (b : List UInt8) (4 : Int) (b.length : Int)
  refine step_r rfl rfl trivial (step_r rfl rfl trivial (step_r rfl rfl trivial (step_r rfl rfl trivial (step_r rfl rfl trivial (step_r rfl rfl trivial (step_r rfl rfl trivial (step_nil (seqK_n (sem_seq (sem_region rfl (step_r rfl rfl trivial ?_)))))))))))
  refine step_callM (Hin := [.row _ _ _]) (out' := .tup [(.agg [_, _, _, _, _, _, _, _, _, _]), _]) (H' := [(1, .row _ _ _), (0, .box [_, _, _, _, _, _, _, _, _, _])]) (nx' := 2) [1] rfl rfl rfl rfl (.inl rfl) rfl rfl rfl rfl (unflat_ok ((readIs b 4 b.length).1) (by first | assumption | omega)) rfl (by decide) rfl rfl rfl rfl rfl ?_
  have p6 := unflat_9 ((readIs b 4 b.length).1) (by first | assumption | omega)
  refine step_r rfl rfl trivial (step_r rfl rfl trivial (step_r rfl rfl trivial (step_n (o := .box [_, _, _, _, _, _, _, _, _, _]) (nx' := 3) rfl rfl rfl trivial ?_)))
  refine step_storeB (H' := [(2, .box [_, _, _, _, _, _, _, _, _, _]), (1, _), (0, _)]) rfl rfl rfl rfl rfl rfl (.inl rfl) rfl ?_
  refine step_r rfl rfl trivial (step_nil (seqK_n (sem_seq (sem_block (sem_seq (sem_region rfl (step_r rfl rfl trivial (step_bin rfl rfl rfl rfl rfl trivial (step_r rfl rfl trivial ?_)))))))))
  refine step_gs rfl (fun h9 => ?_) (fun h9 => ?_)
  ·have g9 : ¬ (((readIs b 4 b.length).2.2 : Int) = 0) := bne_t h9
   refine step_g0 rfl h9 rfl (step_g0 rfl h9 rfl (step_g0 rfl h9 rfl (step_g0 rfl h9 rfl (step_pickT rfl h9 rfl rfl (step_r rfl rfl trivial (step_gf rfl rfl (step_gf rfl rfl (step_r rfl rfl trivial (step_r rfl rfl trivial (step_nil (seqK_n ?_)))))))))))
   refine sem_condT rfl (sem_seq (sem_region rfl (step_r (v := (.agg [_, _, _, _, _, _, _, _, _, _])) rfl rfl trivial ?_)))
   refine step_storeB (H' := [(2, _), (1, _), (0, .box [_, _, _, _, _, _, _, _, _, _])]) rfl rfl rfl rfl rfl rfl (.inl rfl) rfl ?_
   refine step_r rfl rfl trivial (step_nil (seqK_n ?_))
   refine sem_trans (Trans.loose (T' := [(2, .ptr 0 0), (3, I 2)]) (H' := [(0, .box [.pv (.slc 0 false []), .pv (.slc 0 false []), .pv (.slc 0 false []), I 0, I 0, .pv (.slc 0 false []), I 0, I 0, I 0, I 0])]) ⟨⟨_, rfl, .inl rfl⟩, ⟨_, rfl, .inl rfl⟩, trivial⟩ ⟨⟨_, rfl, .inr rfl⟩, trivial⟩) ?_
   refine sem_ret (blkK_r (seqK_r ?_))
   have e10 : dec b = ((⟨[], [], [], (⟨0, 0, []⟩ : GGrid), (⟨0, 0⟩ : GPos), (⟨0, 0⟩ : GPos)⟩ : GContent), 2) := by
    unfold dec
    try dsimp only
    rewrite [if_pos g1, if_neg g9]
    all_goals rfl
   rw [e10]
   exact answersR rfl ⟨Nat.le_of_ble_eq_true rfl, trivial, trivial⟩ (rfl) rfl
  ·have g9 : ((readIs b 4 b.length).2.2 : Int) = 0 := bne_f h9
   refine step_g1 rfl h9 (step_r rfl rfl trivial (step_g1 rfl h9 (step_r rfl rfl trivial (step_g1 rfl h9 (step_r rfl rfl trivial (step_g1 rfl h9 (step_bin rfl rfl rfl rfl rfl trivial (step_pickF rfl h9 rfl rfl (step_r rfl rfl trivial ?_)))))))))
   refine step_gs rfl (fun h12 => ?_) (fun h12 => ?_)
   ·have g12 : ¬ (((readIs b 4 b.length).2.1 : Int) = b.length) := bne_t h12
    refine step_g0 rfl h12 rfl (step_g0 rfl h12 rfl (step_pickT rfl h12 rfl rfl (step_r rfl rfl trivial (step_nil (seqK_n (sem_condT rfl (sem_seq (sem_region rfl (step_r (v := (.agg [_, _, _, _, _, _, _, _, _, _])) rfl rfl trivial ?_)))))))))
    refine step_storeB (H' := [(2, _), (1, _), (0, .box [_, _, _, _, _, _, _, _, _, _])]) rfl rfl rfl rfl rfl rfl (.inl rfl) rfl ?_
    refine step_r rfl rfl trivial (step_nil (seqK_n ?_))
    refine sem_trans (Trans.loose (T' := [(2, .ptr 0 0), (3, I 2)]) (H' := [(0, .box [.pv (.slc 0 false []), .pv (.slc 0 false []), .pv (.slc 0 false []), I 0, I 0, .pv (.slc 0 false []), I 0, I 0, I 0, I 0])]) ⟨⟨_, rfl, .inl rfl⟩, ⟨_, rfl, .inl rfl⟩, trivial⟩ ⟨⟨_, rfl, .inr rfl⟩, trivial⟩) ?_
    refine sem_ret (blkK_r (seqK_r ?_))
    have e13 : dec b = ((⟨[], [], [], (⟨0, 0, []⟩ : GGrid), (⟨0, 0⟩ : GPos), (⟨0, 0⟩ : GPos)⟩ : GContent), 2) := by
     unfold dec
     try dsimp only
     rewrite [if_pos g1, if_pos g9, if_neg g12]
     all_goals rfl
    rw [e13]
    exact answersR rfl ⟨Nat.le_of_ble_eq_true rfl, trivial, trivial⟩ (rfl) rfl
   ·have g12 : ((readIs b 4 b.length).2.1 : Int) = b.length := bne_f h12
    refine step_g1 rfl h12 (step_r rfl rfl trivial (step_g1 rfl h12 (step_r rfl rfl trivial (step_pickF rfl h12 rfl rfl (step_r rfl rfl trivial (step_nil (seqK_n ?_)))))))
    refine sem_cond rfl (fun h15 => ?_) (fun h15 => ?_)
    ·have g15 : ¬ ((unflat ((readIs b 4 b.length).1)).2 = true) := boo_f (not_t h15)
     refine sem_seq (sem_region rfl (step_r (v := (.agg [_, _, _, _, _, _, _, _, _, _])) rfl rfl trivial ?_))
     refine step_storeB (H' := [(2, _), (1, _), (0, .box [_, _, _, _, _, _, _, _, _, _])]) rfl rfl rfl rfl rfl rfl (.inl rfl) rfl ?_
     refine step_r rfl rfl trivial (step_nil (seqK_n ?_))
     refine sem_trans (Trans.loose (T' := [(2, .ptr 0 0), (3, I 2)]) (H' := [(0, .box [.pv (.slc 0 false []), .pv (.slc 0 false []), .pv (.slc 0 false []), I 0, I 0, .pv (.slc 0 false []), I 0, I 0, I 0, I 0])]) ⟨⟨_, rfl, .inl rfl⟩, ⟨_, rfl, .inl rfl⟩, trivial⟩ ⟨⟨_, rfl, .inr rfl⟩, trivial⟩) ?_
     refine sem_ret (blkK_r (seqK_r ?_))
     have e16 : dec b = ((⟨[], [], [], (⟨0, 0, []⟩ : GGrid), (⟨0, 0⟩ : GPos), (⟨0, 0⟩ : GPos)⟩ : GContent), 2) := by
      unfold dec
      try dsimp only
      rewrite [if_pos g1, if_pos g9, if_pos g12, if_neg g15]
      all_goals rfl
     rw [e16]
     exact answersR rfl ⟨Nat.le_of_ble_eq_true rfl, trivial, trivial⟩ (rfl) rfl
    ·have g15 : (unflat ((readIs b 4 b.length).1)).2 = true := (not_f h15)
     refine sem_seq (sem_region rfl (step_r (v := (.agg [_, _, _, _, _, _, _, _, _, _])) rfl rfl (Nat.le_of_ble_eq_true rfl) (step_call rfl rfl rfl rfl (right9_ok ((unflat ((readIs b 4 b.length).1)).1) (by first | assumption | exact few_small (by decide +kernel) | exact few_cut (by assumption) | grind)) rfl rfl rfl (step_r rfl rfl trivial (step_r rfl rfl trivial (step_nil (seqK_n ?_)))))))
     refine sem_cond rfl (fun h18 => ?_) (fun h18 => ?_)
     ·have g18 : ¬ (right9 ((unflat ((readIs b 4 b.length).1)).1) = true) := boo_f (not_t h18)
      refine sem_seq (sem_region rfl (step_r (v := (.agg [_, _, _, _, _, _, _, _, _, _])) rfl rfl trivial ?_))
      refine step_storeB (H' := [(2, _), (1, _), (0, .box [_, _, _, _, _, _, _, _, _, _])]) rfl rfl rfl rfl rfl rfl (.inl rfl) rfl ?_
      refine step_r rfl rfl trivial (step_nil (seqK_n ?_))
      refine sem_trans (Trans.loose (T' := [(2, .ptr 0 0), (3, I 1)]) (H' := [(0, .box [.pv (.slc 0 false []), .pv (.slc 0 false []), .pv (.slc 0 false []), I 0, I 0, .pv (.slc 0 false []), I 0, I 0, I 0, I 0])]) ⟨⟨_, rfl, .inl rfl⟩, ⟨_, rfl, .inl rfl⟩, trivial⟩ ⟨⟨_, rfl, .inr rfl⟩, trivial⟩) ?_
      refine sem_ret (blkK_r (seqK_r ?_))
      have e19 : dec b = ((⟨[], [], [], (⟨0, 0, []⟩ : GGrid), (⟨0, 0⟩ : GPos), (⟨0, 0⟩ : GPos)⟩ : GContent), 1) := by
       unfold dec
       try dsimp only
       rewrite [if_pos g1, if_pos g9, if_pos g12, if_pos g15, if_neg g18]
       all_goals rfl
      rw [e19]
      exact answersR rfl ⟨Nat.le_of_ble_eq_true rfl, trivial, trivial⟩ (rfl) rfl
     ·have g18 : right9 ((unflat ((readIs b 4 b.length).1)).1) = true := (not_f h18)
      refine sem_skip (blkK_n (seqK_n (sem_seq (sem_region rfl (step_r (v := (.agg [_, _, _, _, _, _, _, _, _, _])) rfl rfl (Nat.le_of_ble_eq_true rfl) ?_)))))
      refine step_storeB (H' := [(2, _), (1, _), (0, .box [_, _, _, _, _, _, _, _, _, _])]) rfl rfl rfl rfl rfl rfl (.inl rfl) rfl ?_
      refine step_r rfl rfl trivial (step_nil (seqK_n (sem_ret ?_)))
      have e20 : dec b = (((unflat ((readIs b 4 b.length).1)).1), 0) := by
       unfold dec
       try dsimp only
       rewrite [if_pos g1, if_pos g9, if_pos g12, if_pos g15, if_pos g18]
       all_goals rfl
      rw [e20]
      exact answersR rfl ⟨Nat.le_of_ble_eq_true rfl, trivial, trivial⟩ (rfl) rfl
end Go.Proofs.YtppnccjeggnllaaGreat

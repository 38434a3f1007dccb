import Derived.Test.YtghnjjbhcmcocaaDoorNumb
namespace Go.Proofs.YtghnjjbhcmcocaaDoor
open Go Go.RowKit Go.Proofs.YtghnjjbhcmcocaaDoorVm
attribute [local irreducible] opsWp AnswersE OpsS
set_option maxHeartbeats 400000
set_option maxRecDepth 100000
set_option linter.all false
def nameC (s : List UInt8) : Bool :=
  if s = ([]) then false else if (s.length : Int) ≤ 24 then ((trim s) == ([])) else false
theorem nameC_ok (s : List UInt8) : Ok Tryd.prog 11 [.pv (.str s)] [] (B (nameC s)) [] [] := by
 refine ok_of_sem Tryd.func11 rfl ?_
 show Walks Tryd.prog _ _ ⟨[(0, .pv (.str s))], [], 0, [], 15, 0⟩
 refine sem_seq (sem_region rfl (step_r rfl rfl trivial (step_nil (seqK_n (sem_seq (sem_region rfl (step_r rfl rfl trivial (step_bin rfl rfl rfl rfl rfl trivial (step_r rfl rfl trivial ?_)))))))))
 refine step_gs rfl (fun h3 => ?_) (fun h3 => ?_)
 ·have g3 : ¬ (s = ([])) := beq_f (not_t h3)
  refine step_g1 rfl h3 (step_r rfl rfl trivial (step_g1 rfl h3 (step_r rfl rfl trivial (step_g1 rfl h3 (step_bin rfl rfl rfl rfl rfl trivial (step_pickT rfl h3 rfl rfl (step_r rfl rfl trivial ?_)))))))
  refine step_gs rfl (fun h5 => ?_) (fun h5 => ?_)
  ·have g5 : (s.length : Int) ≤ 24 := of_decide_eq_true h5
   refine step_g1 rfl h5 (step_r rfl rfl trivial (step_g1 rfl h5 (step_call rfl rfl rfl rfl (trim_ok s (by first | assumption | omega | (simp only [decide_eq_true_eq] at *; omega))) rfl rfl rfl (step_g1 rfl h5 (step_bin rfl rfl rfl rfl rfl trivial (step_pickT rfl h5 rfl rfl (step_r rfl rfl trivial (step_nil (seqK_n (sem_ret ?_))))))))))
   have e7 : nameC s = ((trim s) == ([])) := by
    unfold nameC
    try dsimp only
    rewrite [if_neg g3, if_pos g5]
    all_goals rfl
   rw [e7]
   exact answersR rfl ⟨trivial, trivial⟩ (rfl) rfl
  ·have g5 : ¬ ((s.length : Int) ≤ 24) := of_decide_eq_false h5
   refine step_g0 rfl h5 rfl (step_g0 rfl h5 rfl (step_g0 rfl h5 rfl (step_pickF rfl h5 rfl rfl (step_r rfl rfl trivial (step_nil (seqK_n (sem_ret ?_)))))))
   have e8 : nameC s = false := by
    unfold nameC
    try dsimp only
    rewrite [if_neg g3, if_neg g5]
    all_goals rfl
   rw [e8]
   exact answersR rfl ⟨trivial, trivial⟩ (rfl) rfl
 ·have g3 : s = ([]) := beq_t (not_f h3)
  refine step_g0 rfl h3 rfl (step_g0 rfl h3 rfl (step_g0 rfl h3 rfl (step_pickF rfl h3 rfl rfl (step_r rfl rfl trivial (step_gf rfl rfl (step_gf rfl rfl (step_gf rfl rfl (step_r rfl rfl trivial (step_r rfl rfl trivial (step_nil (seqK_n ?_)))))))))))
  refine sem_ret ?_
  have e9 : nameC s = false := by
   unfold nameC
   try dsimp only
   rewrite [if_pos g3]
   all_goals rfl
  rw [e9]
  exact answersR rfl ⟨trivial, trivial⟩ (rfl) rfl

def nameR_L0 (s : List UInt8) : Nat → Nat → Sum Bool Unit
  | 0, k0 => .inr ()
  | n_ + 1, k0 => if ((s.getD k0 0).toNat : Int) = 45 then nameR_L0 s n_ (k0 + 1) else if ((s.getD k0 0).toNat : Int) < 48 then (if ((s.getD k0 0).toNat : Int) < 65 then (if ((s.getD k0 0).toNat : Int) < 97 then .inl false else if ((s.getD k0 0).toNat : Int) > 122 then .inl false else nameR_L0 s n_ (k0 + 1)) else if ((s.getD k0 0).toNat : Int) > 90 then (if ((s.getD k0 0).toNat : Int) < 97 then .inl false else if ((s.getD k0 0).toNat : Int) > 122 then .inl false else nameR_L0 s n_ (k0 + 1)) else nameR_L0 s n_ (k0 + 1)) else if ((s.getD k0 0).toNat : Int) > 57 then (if ((s.getD k0 0).toNat : Int) < 65 then (if ((s.getD k0 0).toNat : Int) < 97 then .inl false else if ((s.getD k0 0).toNat : Int) > 122 then .inl false else nameR_L0 s n_ (k0 + 1)) else if ((s.getD k0 0).toNat : Int) > 90 then (if ((s.getD k0 0).toNat : Int) < 97 then .inl false else if ((s.getD k0 0).toNat : Int) > 122 then .inl false else nameR_L0 s n_ (k0 + 1)) else nameR_L0 s n_ (k0 + 1)) else nameR_L0 s n_ (k0 + 1)
def nameR (s : List UInt8) : Bool :=
  (match nameR_L0 s (s.length - 0) 0 with
    | .inl r_ => r_
    | .inr () => if (s.length : Int) ≥ 1 then (decide ((s.length : Int) ≤ 24)) else false)
theorem nameR_ok (s : List UInt8) (hs : s.length ≤ 9223372036854775807) : Ok Tryd.prog 12 [.pv (.str s)] [] (B (nameR s)) [] [] := by
 refine ok_of_sem Tryd.func12 rfl ?_
 show Walks Tryd.prog _ _ ⟨[(0, .pv (.str s))], [], 0, [], 48, 0⟩
 refine sem_seq (sem_region rfl (step_r rfl rfl trivial (step_nil (seqK_n (sem_seq (sem_seq (sem_region rfl (step_r rfl rfl trivial (step_nil (seqK_n ?_))))))))))
 refine sem_cutW (fun w_ : Unit => match w_ with | () => (⟨[(0, .pv (.str s))], [], 0, [], 48, 0⟩ : St)) (fun w_ => nameR_L0 s (s.length - 0) 0 = .inr w_) ?_ ?_
 ·refine sem_block ?_
  refine sem_loopT (fun k0 : Nat => (⟨[(0, .pv (.str s)), (3, I k0)], [], 0, [], 48, 0⟩ : St)) (fun k0 : Nat => nameR_L0 s (s.length - k0) k0 = nameR_L0 s (s.length - 0) 0 ∧ k0 ≤ s.length) (fun k0 : Nat => s.length - k0) 0 (⟨rfl, (by first | omega | (simp; omega))⟩) ?_ (fun k0 hh_ => ?_)
  ·exact (Trans.ren [] (by decide +kernel) (by decide +kernel) rfl ⟨⟨rfl, rfl⟩, ⟨rfl, rfl⟩, trivial⟩ trivial (by decide))
  obtain ⟨hI0, hb0⟩ := hh_
  show Walks Tryd.prog _ _ (⟨[(0, .pv (.str s)), (3, I k0)], [], 0, [], 48, 0⟩ : St)
  refine sem_seq (sem_seq (sem_region rfl (step_r rfl rfl trivial (step_r rfl rfl trivial (step_r rfl rfl trivial (step_bin rfl rfl rfl rfl rfl trivial (step_nil (seqK_n ?_))))))))
  refine sem_cond rfl (fun h4 => ?_) (fun h4 => ?_)
  ·have g4 : (k0 : Int) < s.length := of_decide_eq_true h4
   have hm0 : s.length - k0 = (s.length - (k0 + 1)) + 1 := by omega
   refine sem_skip (seqK_n (sem_seq (sem_block (sem_seq (sem_region rfl (step_r rfl rfl trivial (step_r rfl rfl trivial ?_)))))))
   refine step_idxStr (k := k0) rfl rfl rfl rfl (by first | assumption | omega | (simp only [IntKind.wrap_i64]; omega) | (simp only [IntKind.wrap_i64] at *; omega) | (simp; omega)) rfl ?_
   refine step_r rfl rfl trivial (step_nil (seqK_n (sem_seq (sem_region rfl (step_r rfl rfl trivial (step_bin rfl rfl rfl rfl rfl trivial (step_r rfl rfl trivial ?_)))))))
   refine step_gs rfl (fun h7 => ?_) (fun h7 => ?_)
   ·have g7 : ¬ (((s.getD k0 0).toNat : Int) = 45) := bne_t h7
    refine step_g1 rfl h7 (step_r rfl rfl trivial (step_g1 rfl h7 (step_bin rfl rfl rfl rfl rfl trivial (step_g1 rfl h7 (step_r rfl rfl trivial ?_)))))
    refine step_gs rfl (fun h9 => ?_) (fun h9 => ?_)
    ·have g9 : ((s.getD k0 0).toNat : Int) < 48 := of_decide_eq_true h9
     refine step_g0 rfl h9 rfl (step_g0 rfl h9 rfl (step_g1 rfl h7 (step_pickT rfl h9 rfl rfl (step_pickT rfl h7 rfl rfl (step_r rfl rfl trivial (step_gt rfl (step_r rfl rfl trivial (step_gt rfl (step_bin rfl rfl rfl rfl rfl trivial (step_gt rfl (step_r rfl rfl trivial ?_)))))))))))
     refine step_gs rfl (fun h11 => ?_) (fun h11 => ?_)
     ·have g11 : ((s.getD k0 0).toNat : Int) < 65 := of_decide_eq_true h11
      refine step_g0 rfl h11 rfl (step_g0 rfl h11 rfl (step_gt rfl (step_pickT rfl h11 rfl rfl (step_r rfl rfl trivial (step_r rfl rfl trivial (step_gt rfl (step_r rfl rfl trivial (step_gt rfl (step_bin rfl rfl rfl rfl rfl trivial (step_gt rfl (step_r rfl rfl trivial ?_)))))))))))
      refine step_gs rfl (fun h13 => ?_) (fun h13 => ?_)
      ·have g13 : ((s.getD k0 0).toNat : Int) < 97 := of_decide_eq_true h13
       refine step_g0 rfl h13 rfl (step_g0 rfl h13 rfl (step_gt rfl (step_pickT rfl h13 rfl rfl (step_r rfl rfl trivial (step_nil (seqK_n (sem_condT rfl (sem_seq (sem_region rfl (step_r rfl rfl trivial (step_nil ?_)))))))))))
       refine seqK_n (sem_ret (blkK_r (seqK_r (lupK_r (blkK_r (cutW_r (seqK_r ?_)))))))
       have e14 : nameR_L0 s (s.length - 0) 0 = .inl false := by
        rewrite [← hI0, hm0]
        rewrite [nameR_L0]
        try dsimp only
        rewrite [if_neg g7, if_pos g9, if_pos g11, if_pos g13]
        all_goals rfl
       have e15 : nameR s = false := by
        unfold nameR
        try dsimp only
        rewrite [e14]
        try dsimp only
        all_goals rfl
       rw [e15]
       exact answersR rfl ⟨trivial, trivial⟩ (rfl) rfl
      ·have g13 : ¬ (((s.getD k0 0).toNat : Int) < 97) := of_decide_eq_false h13
       refine step_g1 rfl h13 (step_r rfl rfl trivial (step_g1 rfl h13 (step_bin rfl rfl rfl rfl rfl trivial (step_gt rfl (step_pickF rfl h13 rfl rfl (step_r rfl rfl trivial (step_nil (seqK_n ?_))))))))
       refine sem_cond rfl (fun h17 => ?_) (fun h17 => ?_)
       ·have g17 : ((s.getD k0 0).toNat : Int) > 122 := of_decide_eq_true h17
        refine sem_seq (sem_region rfl (step_r rfl rfl trivial (step_nil (seqK_n (sem_ret (blkK_r (seqK_r (lupK_r (blkK_r (cutW_r (seqK_r ?_)))))))))))
        have e18 : nameR_L0 s (s.length - 0) 0 = .inl false := by
         rewrite [← hI0, hm0]
         rewrite [nameR_L0]
         try dsimp only
         rewrite [if_neg g7, if_pos g9, if_pos g11, if_neg g13, if_pos g17]
         all_goals rfl
        have e19 : nameR s = false := by
         unfold nameR
         try dsimp only
         rewrite [e18]
         try dsimp only
         all_goals rfl
        rw [e19]
        exact answersR rfl ⟨trivial, trivial⟩ (rfl) rfl
       ·have g17 : ¬ (((s.getD k0 0).toNat : Int) > 122) := of_decide_eq_false h17
        refine sem_skip (blkK_n (seqK_n (sem_region rfl (step_r rfl rfl trivial (step_bin rfl rfl rfl rfl rfl trivial (step_r rfl rfl trivial (step_nil ?_)))))))
        have e21 : nameR_L0 s (s.length - k0) k0 = nameR_L0 s (s.length - (k0 + 1)) (k0 + 1) := by
         rewrite [hm0]
         rewrite [nameR_L0]
         try dsimp only
         rewrite [if_neg g7, if_pos g9, if_pos g11, if_neg g13, if_neg g17]
         all_goals rfl
        exact lup_againT (k0 + 1) ⟨e21.symm.trans hI0, (by omega)⟩ (by show s.length - (k0 + 1) < s.length - k0; omega) (Trans.ren [] (by decide +kernel) (by decide +kernel) rfl ⟨⟨rfl, rfl⟩, ⟨congrArg (fun n => some (I n)) (wrapI (k := k0) (by first | omega | (simp; omega))), rfl⟩, trivial⟩ trivial (by decide))
     ·have g11 : ¬ (((s.getD k0 0).toNat : Int) < 65) := of_decide_eq_false h11
      refine step_g1 rfl h11 (step_r rfl rfl trivial (step_g1 rfl h11 (step_bin rfl rfl rfl rfl rfl trivial (step_gt rfl (step_pickF rfl h11 rfl rfl (step_r rfl rfl trivial (step_r rfl rfl trivial ?_)))))))
      refine step_gs rfl (fun h23 => ?_) (fun h23 => ?_)
      ·have g23 : ((s.getD k0 0).toNat : Int) > 90 := of_decide_eq_true h23
       refine step_g1 rfl h23 (step_r rfl rfl trivial (step_g1 rfl h23 (step_bin rfl rfl rfl rfl rfl trivial (step_g1 rfl h23 (step_r rfl rfl trivial ?_)))))
       refine step_gs rfl (fun h25 => ?_) (fun h25 => ?_)
       ·have g25 : ((s.getD k0 0).toNat : Int) < 97 := of_decide_eq_true h25
        refine step_g0 rfl h25 rfl (step_g0 rfl h25 rfl (step_g1 rfl h23 (step_pickT rfl h25 rfl rfl (step_pickT rfl h23 rfl rfl (step_nil (seqK_n (sem_condT rfl (sem_seq (sem_region rfl (step_r rfl rfl trivial (step_nil ?_)))))))))))
        refine seqK_n (sem_ret (blkK_r (seqK_r (lupK_r (blkK_r (cutW_r (seqK_r ?_)))))))
        have e26 : nameR_L0 s (s.length - 0) 0 = .inl false := by
         rewrite [← hI0, hm0]
         rewrite [nameR_L0]
         try dsimp only
         rewrite [if_neg g7, if_pos g9, if_neg g11, if_pos g23, if_pos g25]
         all_goals rfl
        have e27 : nameR s = false := by
         unfold nameR
         try dsimp only
         rewrite [e26]
         try dsimp only
         all_goals rfl
        rw [e27]
        exact answersR rfl ⟨trivial, trivial⟩ (rfl) rfl
       ·have g25 : ¬ (((s.getD k0 0).toNat : Int) < 97) := of_decide_eq_false h25
        refine step_g1 rfl h25 (step_r rfl rfl trivial (step_g1 rfl h25 (step_bin rfl rfl rfl rfl rfl trivial (step_g1 rfl h23 (step_pickF rfl h25 rfl rfl (step_pickT rfl h23 rfl rfl (step_nil (seqK_n ?_))))))))
        refine sem_cond rfl (fun h29 => ?_) (fun h29 => ?_)
        ·have g29 : ((s.getD k0 0).toNat : Int) > 122 := of_decide_eq_true h29
         refine sem_seq (sem_region rfl (step_r rfl rfl trivial (step_nil (seqK_n (sem_ret (blkK_r (seqK_r (lupK_r (blkK_r (cutW_r (seqK_r ?_)))))))))))
         have e30 : nameR_L0 s (s.length - 0) 0 = .inl false := by
          rewrite [← hI0, hm0]
          rewrite [nameR_L0]
          try dsimp only
          rewrite [if_neg g7, if_pos g9, if_neg g11, if_pos g23, if_neg g25, if_pos g29]
          all_goals rfl
         have e31 : nameR s = false := by
          unfold nameR
          try dsimp only
          rewrite [e30]
          try dsimp only
          all_goals rfl
         rw [e31]
         exact answersR rfl ⟨trivial, trivial⟩ (rfl) rfl
        ·have g29 : ¬ (((s.getD k0 0).toNat : Int) > 122) := of_decide_eq_false h29
         refine sem_skip (blkK_n (seqK_n (sem_region rfl (step_r rfl rfl trivial (step_bin rfl rfl rfl rfl rfl trivial (step_r rfl rfl trivial (step_nil ?_)))))))
         have e33 : nameR_L0 s (s.length - k0) k0 = nameR_L0 s (s.length - (k0 + 1)) (k0 + 1) := by
          rewrite [hm0]
          rewrite [nameR_L0]
          try dsimp only
          rewrite [if_neg g7, if_pos g9, if_neg g11, if_pos g23, if_neg g25, if_neg g29]
          all_goals rfl
         exact lup_againT (k0 + 1) ⟨e33.symm.trans hI0, (by omega)⟩ (by show s.length - (k0 + 1) < s.length - k0; omega) (Trans.ren [] (by decide +kernel) (by decide +kernel) rfl ⟨⟨rfl, rfl⟩, ⟨congrArg (fun n => some (I n)) (wrapI (k := k0) (by first | omega | (simp; omega))), rfl⟩, trivial⟩ trivial (by decide))
      ·have g23 : ¬ (((s.getD k0 0).toNat : Int) > 90) := of_decide_eq_false h23
       refine step_g0 rfl h23 rfl (step_g0 rfl h23 rfl (step_g0 rfl h23 rfl (step_gf rfl rfl (step_gf rfl rfl (step_g0 rfl h23 rfl (step_pickF rfl h23 rfl rfl (step_nil (seqK_n (sem_condF rfl (sem_skip (blkK_n ?_)))))))))))
       refine seqK_n (sem_region rfl (step_r rfl rfl trivial (step_bin rfl rfl rfl rfl rfl trivial (step_r rfl rfl trivial (step_nil ?_)))))
       have e35 : nameR_L0 s (s.length - k0) k0 = nameR_L0 s (s.length - (k0 + 1)) (k0 + 1) := by
        rewrite [hm0]
        rewrite [nameR_L0]
        try dsimp only
        rewrite [if_neg g7, if_pos g9, if_neg g11, if_neg g23]
        all_goals rfl
       exact lup_againT (k0 + 1) ⟨e35.symm.trans hI0, (by omega)⟩ (by show s.length - (k0 + 1) < s.length - k0; omega) (Trans.ren [] (by decide +kernel) (by decide +kernel) rfl ⟨⟨rfl, rfl⟩, ⟨congrArg (fun n => some (I n)) (wrapI (k := k0) (by first | omega | (simp; omega))), rfl⟩, trivial⟩ trivial (by decide))
    ·have g9 : ¬ (((s.getD k0 0).toNat : Int) < 48) := of_decide_eq_false h9
     refine step_g1 rfl h9 (step_r rfl rfl trivial (step_g1 rfl h9 (step_bin rfl rfl rfl rfl rfl trivial (step_g1 rfl h7 (step_pickF rfl h9 rfl rfl (step_pickT rfl h7 rfl rfl (step_r rfl rfl trivial ?_)))))))
     refine step_gs rfl (fun h37 => ?_) (fun h37 => ?_)
     ·have g37 : ((s.getD k0 0).toNat : Int) > 57 := of_decide_eq_true h37
      refine step_g1 rfl h37 (step_r rfl rfl trivial (step_g1 rfl h37 (step_bin rfl rfl rfl rfl rfl trivial (step_g1 rfl h37 (step_r rfl rfl trivial ?_)))))
      refine step_gs rfl (fun h39 => ?_) (fun h39 => ?_)
      ·have g39 : ((s.getD k0 0).toNat : Int) < 65 := of_decide_eq_true h39
       refine step_g0 rfl h39 rfl (step_g0 rfl h39 rfl (step_g1 rfl h37 (step_pickT rfl h39 rfl rfl (step_pickT rfl h37 rfl rfl (step_r rfl rfl trivial (step_gt rfl (step_r rfl rfl trivial (step_gt rfl (step_bin rfl rfl rfl rfl rfl trivial (step_gt rfl (step_r rfl rfl trivial ?_)))))))))))
       refine step_gs rfl (fun h41 => ?_) (fun h41 => ?_)
       ·have g41 : ((s.getD k0 0).toNat : Int) < 97 := of_decide_eq_true h41
        refine step_g0 rfl h41 rfl (step_g0 rfl h41 rfl (step_gt rfl (step_pickT rfl h41 rfl rfl (step_r rfl rfl trivial (step_nil (seqK_n (sem_condT rfl (sem_seq (sem_region rfl (step_r rfl rfl trivial (step_nil ?_)))))))))))
        refine seqK_n (sem_ret (blkK_r (seqK_r (lupK_r (blkK_r (cutW_r (seqK_r ?_)))))))
        have e42 : nameR_L0 s (s.length - 0) 0 = .inl false := by
         rewrite [← hI0, hm0]
         rewrite [nameR_L0]
         try dsimp only
         rewrite [if_neg g7, if_neg g9, if_pos g37, if_pos g39, if_pos g41]
         all_goals rfl
        have e43 : nameR s = false := by
         unfold nameR
         try dsimp only
         rewrite [e42]
         try dsimp only
         all_goals rfl
        rw [e43]
        exact answersR rfl ⟨trivial, trivial⟩ (rfl) rfl
       ·have g41 : ¬ (((s.getD k0 0).toNat : Int) < 97) := of_decide_eq_false h41
        refine step_g1 rfl h41 (step_r rfl rfl trivial (step_g1 rfl h41 (step_bin rfl rfl rfl rfl rfl trivial (step_gt rfl (step_pickF rfl h41 rfl rfl (step_r rfl rfl trivial (step_nil (seqK_n ?_))))))))
        refine sem_cond rfl (fun h45 => ?_) (fun h45 => ?_)
        ·have g45 : ((s.getD k0 0).toNat : Int) > 122 := of_decide_eq_true h45
         refine sem_seq (sem_region rfl (step_r rfl rfl trivial (step_nil (seqK_n (sem_ret (blkK_r (seqK_r (lupK_r (blkK_r (cutW_r (seqK_r ?_)))))))))))
         have e46 : nameR_L0 s (s.length - 0) 0 = .inl false := by
          rewrite [← hI0, hm0]
          rewrite [nameR_L0]
          try dsimp only
          rewrite [if_neg g7, if_neg g9, if_pos g37, if_pos g39, if_neg g41, if_pos g45]
          all_goals rfl
         have e47 : nameR s = false := by
          unfold nameR
          try dsimp only
          rewrite [e46]
          try dsimp only
          all_goals rfl
         rw [e47]
         exact answersR rfl ⟨trivial, trivial⟩ (rfl) rfl
        ·have g45 : ¬ (((s.getD k0 0).toNat : Int) > 122) := of_decide_eq_false h45
         refine sem_skip (blkK_n (seqK_n (sem_region rfl (step_r rfl rfl trivial (step_bin rfl rfl rfl rfl rfl trivial (step_r rfl rfl trivial (step_nil ?_)))))))
         have e49 : nameR_L0 s (s.length - k0) k0 = nameR_L0 s (s.length - (k0 + 1)) (k0 + 1) := by
          rewrite [hm0]
          rewrite [nameR_L0]
          try dsimp only
          rewrite [if_neg g7, if_neg g9, if_pos g37, if_pos g39, if_neg g41, if_neg g45]
          all_goals rfl
         exact lup_againT (k0 + 1) ⟨e49.symm.trans hI0, (by omega)⟩ (by show s.length - (k0 + 1) < s.length - k0; omega) (Trans.ren [] (by decide +kernel) (by decide +kernel) rfl ⟨⟨rfl, rfl⟩, ⟨congrArg (fun n => some (I n)) (wrapI (k := k0) (by first | omega | (simp; omega))), rfl⟩, trivial⟩ trivial (by decide))
      ·have g39 : ¬ (((s.getD k0 0).toNat : Int) < 65) := of_decide_eq_false h39
       refine step_g1 rfl h39 (step_r rfl rfl trivial (step_g1 rfl h39 (step_bin rfl rfl rfl rfl rfl trivial (step_g1 rfl h37 (step_pickF rfl h39 rfl rfl (step_pickT rfl h37 rfl rfl (step_r rfl rfl trivial ?_)))))))
       refine step_gs rfl (fun h51 => ?_) (fun h51 => ?_)
       ·have g51 : ((s.getD k0 0).toNat : Int) > 90 := of_decide_eq_true h51
        refine step_g1 rfl h51 (step_r rfl rfl trivial (step_g1 rfl h51 (step_bin rfl rfl rfl rfl rfl trivial (step_g1 rfl h51 (step_r rfl rfl trivial ?_)))))
        refine step_gs rfl (fun h53 => ?_) (fun h53 => ?_)
        ·have g53 : ((s.getD k0 0).toNat : Int) < 97 := of_decide_eq_true h53
         refine step_g0 rfl h53 rfl (step_g0 rfl h53 rfl (step_g1 rfl h51 (step_pickT rfl h53 rfl rfl (step_pickT rfl h51 rfl rfl (step_nil (seqK_n (sem_condT rfl (sem_seq (sem_region rfl (step_r rfl rfl trivial (step_nil ?_)))))))))))
         refine seqK_n (sem_ret (blkK_r (seqK_r (lupK_r (blkK_r (cutW_r (seqK_r ?_)))))))
         have e54 : nameR_L0 s (s.length - 0) 0 = .inl false := by
          rewrite [← hI0, hm0]
          rewrite [nameR_L0]
          try dsimp only
          rewrite [if_neg g7, if_neg g9, if_pos g37, if_neg g39, if_pos g51, if_pos g53]
          all_goals rfl
         have e55 : nameR s = false := by
          unfold nameR
          try dsimp only
          rewrite [e54]
          try dsimp only
          all_goals rfl
         rw [e55]
         exact answersR rfl ⟨trivial, trivial⟩ (rfl) rfl
        ·have g53 : ¬ (((s.getD k0 0).toNat : Int) < 97) := of_decide_eq_false h53
         refine step_g1 rfl h53 (step_r rfl rfl trivial (step_g1 rfl h53 (step_bin rfl rfl rfl rfl rfl trivial (step_g1 rfl h51 (step_pickF rfl h53 rfl rfl (step_pickT rfl h51 rfl rfl (step_nil (seqK_n ?_))))))))
         refine sem_cond rfl (fun h57 => ?_) (fun h57 => ?_)
         ·have g57 : ((s.getD k0 0).toNat : Int) > 122 := of_decide_eq_true h57
          refine sem_seq (sem_region rfl (step_r rfl rfl trivial (step_nil (seqK_n (sem_ret (blkK_r (seqK_r (lupK_r (blkK_r (cutW_r (seqK_r ?_)))))))))))
          have e58 : nameR_L0 s (s.length - 0) 0 = .inl false := by
           rewrite [← hI0, hm0]
           rewrite [nameR_L0]
           try dsimp only
           rewrite [if_neg g7, if_neg g9, if_pos g37, if_neg g39, if_pos g51, if_neg g53, if_pos g57]
           all_goals rfl
          have e59 : nameR s = false := by
           unfold nameR
           try dsimp only
           rewrite [e58]
           try dsimp only
           all_goals rfl
          rw [e59]
          exact answersR rfl ⟨trivial, trivial⟩ (rfl) rfl
         ·have g57 : ¬ (((s.getD k0 0).toNat : Int) > 122) := of_decide_eq_false h57
          refine sem_skip (blkK_n (seqK_n (sem_region rfl (step_r rfl rfl trivial (step_bin rfl rfl rfl rfl rfl trivial (step_r rfl rfl trivial (step_nil ?_)))))))
          have e61 : nameR_L0 s (s.length - k0) k0 = nameR_L0 s (s.length - (k0 + 1)) (k0 + 1) := by
           rewrite [hm0]
           rewrite [nameR_L0]
           try dsimp only
           rewrite [if_neg g7, if_neg g9, if_pos g37, if_neg g39, if_pos g51, if_neg g53, if_neg g57]
           all_goals rfl
          exact lup_againT (k0 + 1) ⟨e61.symm.trans hI0, (by omega)⟩ (by show s.length - (k0 + 1) < s.length - k0; omega) (Trans.ren [] (by decide +kernel) (by decide +kernel) rfl ⟨⟨rfl, rfl⟩, ⟨congrArg (fun n => some (I n)) (wrapI (k := k0) (by first | omega | (simp; omega))), rfl⟩, trivial⟩ trivial (by decide))
       ·have g51 : ¬ (((s.getD k0 0).toNat : Int) > 90) := of_decide_eq_false h51
        refine step_g0 rfl h51 rfl (step_g0 rfl h51 rfl (step_g0 rfl h51 rfl (step_gf rfl rfl (step_gf rfl rfl (step_g0 rfl h51 rfl (step_pickF rfl h51 rfl rfl (step_nil (seqK_n (sem_condF rfl (sem_skip (blkK_n ?_)))))))))))
        refine seqK_n (sem_region rfl (step_r rfl rfl trivial (step_bin rfl rfl rfl rfl rfl trivial (step_r rfl rfl trivial (step_nil ?_)))))
        have e63 : nameR_L0 s (s.length - k0) k0 = nameR_L0 s (s.length - (k0 + 1)) (k0 + 1) := by
         rewrite [hm0]
         rewrite [nameR_L0]
         try dsimp only
         rewrite [if_neg g7, if_neg g9, if_pos g37, if_neg g39, if_neg g51]
         all_goals rfl
        exact lup_againT (k0 + 1) ⟨e63.symm.trans hI0, (by omega)⟩ (by show s.length - (k0 + 1) < s.length - k0; omega) (Trans.ren [] (by decide +kernel) (by decide +kernel) rfl ⟨⟨rfl, rfl⟩, ⟨congrArg (fun n => some (I n)) (wrapI (k := k0) (by first | omega | (simp; omega))), rfl⟩, trivial⟩ trivial (by decide))
     ·have g37 : ¬ (((s.getD k0 0).toNat : Int) > 57) := of_decide_eq_false h37
      refine step_g0 rfl h37 rfl (step_g0 rfl h37 rfl (step_g0 rfl h37 rfl (step_gf rfl rfl (step_gf rfl rfl (step_g0 rfl h37 rfl (step_pickF rfl h37 rfl rfl (step_r rfl rfl trivial (step_gf rfl rfl (step_gf rfl rfl (step_gf rfl rfl (step_gf rfl rfl ?_)))))))))))
      refine step_gf rfl rfl (step_gf rfl rfl (step_r rfl rfl trivial (step_nil (seqK_n (sem_condF rfl (sem_skip (blkK_n (seqK_n (sem_region rfl (step_r rfl rfl trivial (step_bin rfl rfl rfl rfl rfl trivial ?_)))))))))))
      refine step_r rfl rfl trivial (step_nil ?_)
      have e65 : nameR_L0 s (s.length - k0) k0 = nameR_L0 s (s.length - (k0 + 1)) (k0 + 1) := by
       rewrite [hm0]
       rewrite [nameR_L0]
       try dsimp only
       rewrite [if_neg g7, if_neg g9, if_neg g37]
       all_goals rfl
      exact lup_againT (k0 + 1) ⟨e65.symm.trans hI0, (by omega)⟩ (by show s.length - (k0 + 1) < s.length - k0; omega) (Trans.ren [] (by decide +kernel) (by decide +kernel) rfl ⟨⟨rfl, rfl⟩, ⟨congrArg (fun n => some (I n)) (wrapI (k := k0) (by first | omega | (simp; omega))), rfl⟩, trivial⟩ trivial (by decide))
   ·have g7 : ((s.getD k0 0).toNat : Int) = 45 := bne_f h7
    refine step_g0 rfl h7 rfl (step_g0 rfl h7 rfl (step_g0 rfl h7 rfl (step_gf rfl rfl (step_gf rfl rfl (step_g0 rfl h7 rfl (step_pickF rfl h7 rfl rfl (step_r rfl rfl trivial (step_gf rfl rfl (step_gf rfl rfl (step_gf rfl rfl (step_gf rfl rfl ?_)))))))))))
    refine step_gf rfl rfl (step_gf rfl rfl (step_r rfl rfl trivial (step_r rfl rfl trivial (step_gf rfl rfl (step_gf rfl rfl (step_gf rfl rfl (step_gf rfl rfl (step_gf rfl rfl (step_gf rfl rfl (step_r rfl rfl trivial (step_nil ?_)))))))))))
    refine seqK_n (sem_condF rfl (sem_skip (blkK_n (seqK_n (sem_region rfl (step_r rfl rfl trivial (step_bin rfl rfl rfl rfl rfl trivial (step_r rfl rfl trivial (step_nil ?_)))))))))
    have e67 : nameR_L0 s (s.length - k0) k0 = nameR_L0 s (s.length - (k0 + 1)) (k0 + 1) := by
     rewrite [hm0]
     rewrite [nameR_L0]
     try dsimp only
     rewrite [if_pos g7]
     all_goals rfl
    exact lup_againT (k0 + 1) ⟨e67.symm.trans hI0, (by omega)⟩ (by show s.length - (k0 + 1) < s.length - k0; omega) (Trans.ren [] (by decide +kernel) (by decide +kernel) rfl ⟨⟨rfl, rfl⟩, ⟨congrArg (fun n => some (I n)) (wrapI (k := k0) (by first | omega | (simp; omega))), rfl⟩, trivial⟩ trivial (by decide))
  ·have g4 : ¬ ((k0 : Int) < s.length) := of_decide_eq_false h4
   have hm0 : s.length - k0 = 0 := by omega
   refine sem_exit (seqK_e (lupK_e (blkK_t rfl ?_)))
   have e68 : nameR_L0 s (s.length - 0) 0 = .inr () := by
    rewrite [← hI0, hm0]
    rewrite [nameR_L0]
    try dsimp only
    all_goals rfl
   exact cutW_n () e68 (Trans.ren [] (by decide +kernel) (by decide +kernel) rfl ⟨⟨rfl, rfl⟩, trivial⟩ trivial (by decide))
 ·rintro ⟨⟩ (hJ1 : nameR_L0 s (s.length - 0) 0 = .inr ())
  show seqK _ _ _ .normal (⟨[(0, .pv (.str s))], [], 0, [], 48, 0⟩ : St)
  refine seqK_n (sem_seq (sem_region rfl (step_r rfl rfl trivial (step_r rfl rfl trivial (step_bin rfl rfl rfl rfl rfl trivial (step_r rfl rfl trivial ?_))))))
  refine step_gs rfl (fun h71 => ?_) (fun h71 => ?_)
  ·have g71 : (s.length : Int) ≥ 1 := of_decide_eq_true h71
   refine step_g1 rfl h71 (step_r rfl rfl trivial (step_g1 rfl h71 (step_r rfl rfl trivial (step_g1 rfl h71 (step_bin rfl rfl rfl rfl rfl trivial (step_pickT rfl h71 rfl rfl (step_r rfl rfl trivial (step_nil (seqK_n (sem_ret ?_))))))))))
   have e73 : nameR s = (decide ((s.length : Int) ≤ 24)) := by
    unfold nameR
    try dsimp only
    rewrite [hJ1]
    try dsimp only
    rewrite [if_pos g71]
    all_goals rfl
   rw [e73]
   exact answersR rfl ⟨trivial, trivial⟩ (rfl) rfl
  ·have g71 : ¬ ((s.length : Int) ≥ 1) := of_decide_eq_false h71
   refine step_g0 rfl h71 rfl (step_g0 rfl h71 rfl (step_g0 rfl h71 rfl (step_pickF rfl h71 rfl rfl (step_r rfl rfl trivial (step_nil (seqK_n (sem_ret ?_)))))))
   have e74 : nameR s = false := by
    unfold nameR
    try dsimp only
    rewrite [hJ1]
    try dsimp only
    rewrite [if_neg g71]
    all_goals rfl
   rw [e74]
   exact answersR rfl ⟨trivial, trivial⟩ (rfl) rfl

def shape_J11 (do_ : Int) : Bool :=
  if (do_ : Int) = 3 then ((do_ : Int) == 3) else if (do_ : Int) = 5 then ((do_ : Int) == 5) else ((do_ : Int) == 6)
def shape_J15 (do_ : Int) : Bool :=
  if (do_ : Int) = 4 then ((do_ : Int) == 4) else ((do_ : Int) == 7)
def shape (do_ : Int) : Bool × Bool × Bool :=
  if (do_ : Int) = 1 then (true, false, true) else if (do_ : Int) = 2 then (false, true, true) else (let t10_11 := shape_J11 do_; if t10_11 = true then (false, true, true) else (let t14_15 := shape_J15 do_; if t14_15 = true then (false, false, true) else (false, false, false)))
theorem shape_ok (do_ : Int) : Ok Tryd.prog 15 [I do_] [] (.tup [B (shape do_).1, B (shape do_).2.1, B (shape do_).2.2]) [] [] := by
 refine ok_of_sem Tryd.func15 rfl ?_
 show Walks Tryd.prog _ _ ⟨[(0, I do_)], [], 0, [], 18, 0⟩
 refine sem_seq (sem_region rfl (step_r rfl rfl trivial (step_r rfl rfl trivial (step_r rfl rfl trivial (step_nil (seqK_n (sem_seq (sem_seq (sem_region rfl (step_r rfl rfl trivial (step_nil ?_)))))))))))
 refine seqK_n (sem_block (sem_seq (sem_block (sem_seq (sem_block (sem_block (sem_seq (sem_block (sem_seq (sem_seq (sem_seq ?_)))))))))))
 refine sem_region rfl (step_bin rfl rfl rfl rfl rfl trivial (step_r rfl rfl trivial (step_nil (seqK_n ?_))))
 refine sem_cond rfl (fun h3 => ?_) (fun h3 => ?_)
 ·have g3 : (do_ : Int) = 1 := beq_t h3
  refine sem_exit (seqK_e (seqK_e (blkK_t rfl (seqK_n (sem_seq (sem_seq (sem_region rfl (step_r rfl rfl trivial (step_r rfl rfl trivial (step_r rfl rfl trivial (step_nil ?_)))))))))))
  refine seqK_n (sem_ret (seqK_r (blkK_r (blkK_r (seqK_r (blkK_r (seqK_r (blkK_r (seqK_r ?_)))))))))
  have e4 : shape do_ = (true, false, true) := by
   unfold shape
   try dsimp only
   rewrite [if_pos g3]
   all_goals rfl
  rw [e4]
  exact answersR rfl ⟨trivial, trivial, trivial, trivial⟩ (rfl) rfl
 ·have g3 : ¬ ((do_ : Int) = 1) := beq_f h3
  refine sem_skip (seqK_n (sem_seq (sem_seq (sem_region rfl (step_bin rfl rfl rfl rfl rfl trivial (step_r rfl rfl trivial (step_nil (seqK_n ?_))))))))
  refine sem_cond rfl (fun h6 => ?_) (fun h6 => ?_)
  ·have g6 : (do_ : Int) = 2 := beq_t h6
   refine sem_exit (seqK_e (seqK_e ?_))
   refine blkK_f rfl ?_
   refine seqK_e (blkK_t rfl (blkK_n (seqK_n (sem_region rfl (step_r rfl rfl trivial (step_nil (blkK_n (seqK_n (sem_seq (sem_seq (sem_region rfl ?_)))))))))))
   refine step_r rfl rfl trivial (step_r rfl rfl trivial (step_r rfl rfl trivial (step_r rfl rfl trivial (step_nil (seqK_n (sem_ret (seqK_r (blkK_r (seqK_r ?_)))))))))
   have e7 : shape do_ = (false, true, true) := by
    unfold shape
    try dsimp only
    rewrite [if_neg g3, if_pos g6]
    all_goals rfl
   rw [e7]
   exact answersR rfl ⟨trivial, trivial, trivial, trivial⟩ (rfl) rfl
  ·have g6 : ¬ ((do_ : Int) = 2) := beq_f h6
   refine sem_skip (seqK_n (sem_seq (sem_seq ?_)))
   refine sem_cutW (fun t10_11 : Bool => (⟨[(3, B false), (5, I do_), (10, B t10_11)], [], 0, [], 18, 0⟩ : St)) (fun w_ => shape_J11 do_ = w_) ?_ ?_
   ·refine sem_seq (sem_region rfl (step_bin rfl rfl rfl rfl rfl trivial (step_r rfl rfl trivial (step_nil (seqK_n ?_)))))
    refine sem_cond rfl (fun h10 => ?_) (fun h10 => ?_)
    ·have g10 : (do_ : Int) = 3 := beq_t h10
     refine sem_skip ?_
     have e11 : shape_J11 do_ = ((do_ : Int) == 3) := by
      unfold shape_J11
      try dsimp only
      rewrite [if_pos g10]
      all_goals rfl
     exact cutW_n ((do_ : Int) == 3) e11 (Trans.ren [] (by decide +kernel) (by decide +kernel) rfl ⟨⟨rfl, rfl⟩, ⟨rfl, rfl⟩, ⟨rfl, rfl⟩, trivial⟩ trivial (by decide))
    ·have g10 : ¬ ((do_ : Int) = 3) := beq_f h10
     refine sem_seq (sem_region rfl (step_bin rfl rfl rfl rfl rfl trivial (step_r rfl rfl trivial (step_nil (seqK_n ?_)))))
     refine sem_cond rfl (fun h13 => ?_) (fun h13 => ?_)
     ·have g13 : (do_ : Int) = 5 := beq_t h13
      refine sem_skip ?_
      have e14 : shape_J11 do_ = ((do_ : Int) == 5) := by
       unfold shape_J11
       try dsimp only
       rewrite [if_neg g10, if_pos g13]
       all_goals rfl
      exact cutW_n ((do_ : Int) == 5) e14 (Trans.ren [] (by decide +kernel) (by decide +kernel) rfl ⟨⟨rfl, rfl⟩, ⟨rfl, rfl⟩, ⟨rfl, rfl⟩, trivial⟩ trivial (by decide))
     ·have g13 : ¬ ((do_ : Int) = 5) := beq_f h13
      refine sem_region rfl (step_bin rfl rfl rfl rfl rfl trivial (step_r rfl rfl trivial (step_nil ?_)))
      have e16 : shape_J11 do_ = ((do_ : Int) == 6) := by
       unfold shape_J11
       try dsimp only
       rewrite [if_neg g10, if_neg g13]
       all_goals rfl
      exact cutW_n ((do_ : Int) == 6) e16 (Trans.ren [] (by decide +kernel) (by decide +kernel) rfl ⟨⟨rfl, rfl⟩, ⟨rfl, rfl⟩, ⟨rfl, rfl⟩, trivial⟩ trivial (by decide))
   ·rintro t10_11 (hJ8 : shape_J11 do_ = t10_11)
    show seqK _ _ _ .normal (⟨[(3, B false), (5, I do_), (10, B t10_11)], [], 0, [], 18, 0⟩ : St)
    refine seqK_n ?_
    refine sem_cond rfl (fun h17 => ?_) (fun h17 => ?_)
    ·have g17 : t10_11 = true := h17
     refine sem_exit (seqK_e (seqK_e ?_))
     refine blkK_f rfl ?_
     refine seqK_e ?_
     refine blkK_f rfl ?_
     refine blkK_t rfl (seqK_n (sem_region rfl (step_r rfl rfl trivial (step_nil (blkK_n (seqK_n (sem_seq (sem_seq (sem_region rfl (step_r rfl rfl trivial (step_r rfl rfl trivial ?_)))))))))))
     refine step_r rfl rfl trivial (step_r rfl rfl trivial (step_nil (seqK_n (sem_ret (seqK_r (blkK_r (seqK_r ?_)))))))
     have e18 : shape do_ = (false, true, true) := by
      unfold shape
      try dsimp only
      rewrite [if_neg g3, if_neg g6, hJ8]
      try dsimp only
      rewrite [if_pos g17]
      all_goals rfl
     rw [e18]
     exact answersR rfl ⟨trivial, trivial, trivial, trivial⟩ (rfl) rfl
    ·have g17 : ¬ (t10_11 = true) := boo_f h17
     refine sem_skip (seqK_n (sem_seq ?_))
     refine sem_cutW (fun t14_15 : Bool => (⟨[(3, B false), (14, B t14_15)], [], 0, [], 18, 0⟩ : St)) (fun w_ => shape_J15 do_ = w_) ?_ ?_
     ·refine sem_seq (sem_region rfl (step_bin rfl rfl rfl rfl rfl trivial (step_r rfl rfl trivial (step_nil (seqK_n ?_)))))
      refine sem_cond rfl (fun h21 => ?_) (fun h21 => ?_)
      ·have g21 : (do_ : Int) = 4 := beq_t h21
       refine sem_skip ?_
       have e22 : shape_J15 do_ = ((do_ : Int) == 4) := by
        unfold shape_J15
        try dsimp only
        rewrite [if_pos g21]
        all_goals rfl
       exact cutW_n ((do_ : Int) == 4) e22 (Trans.ren [] (by decide +kernel) (by decide +kernel) rfl ⟨⟨rfl, rfl⟩, ⟨rfl, rfl⟩, trivial⟩ trivial (by decide))
      ·have g21 : ¬ ((do_ : Int) = 4) := beq_f h21
       refine sem_region rfl (step_bin rfl rfl rfl rfl rfl trivial (step_r rfl rfl trivial (step_nil ?_)))
       have e24 : shape_J15 do_ = ((do_ : Int) == 7) := by
        unfold shape_J15
        try dsimp only
        rewrite [if_neg g21]
        all_goals rfl
       exact cutW_n ((do_ : Int) == 7) e24 (Trans.ren [] (by decide +kernel) (by decide +kernel) rfl ⟨⟨rfl, rfl⟩, ⟨rfl, rfl⟩, trivial⟩ trivial (by decide))
     ·rintro t14_15 (hJ19 : shape_J15 do_ = t14_15)
      show seqK _ _ _ .normal (⟨[(3, B false), (14, B t14_15)], [], 0, [], 18, 0⟩ : St)
      refine seqK_n ?_
      refine sem_cond rfl (fun h25 => ?_) (fun h25 => ?_)
      ·have g25 : t14_15 = true := h25
       refine sem_exit (seqK_e ?_)
       refine blkK_f rfl ?_
       refine seqK_e ?_
       refine blkK_f rfl ?_
       refine blkK_f rfl ?_
       refine seqK_e (blkK_t rfl (seqK_n (sem_seq (sem_seq (sem_region rfl (step_r rfl rfl trivial (step_r rfl rfl trivial (step_r rfl rfl trivial (step_r rfl rfl trivial (step_nil (seqK_n ?_)))))))))))
       refine sem_ret (seqK_r (blkK_r (seqK_r ?_)))
       have e26 : shape do_ = (false, false, true) := by
        unfold shape
        try dsimp only
        rewrite [if_neg g3, if_neg g6, hJ8]
        try dsimp only
        rewrite [if_neg g17, hJ19]
        try dsimp only
        rewrite [if_pos g25]
        all_goals rfl
       rw [e26]
       exact answersR rfl ⟨trivial, trivial, trivial, trivial⟩ (rfl) rfl
      ·have g25 : ¬ (t14_15 = true) := boo_f h25
       refine sem_skip (seqK_n (sem_exit ?_))
       refine blkK_f rfl ?_
       refine seqK_e ?_
       refine blkK_f rfl ?_
       refine blkK_f rfl ?_
       refine seqK_e ?_
       refine blkK_f rfl ?_
       refine seqK_e (blkK_t rfl (seqK_n (sem_seq (sem_region rfl (step_r rfl rfl trivial (step_r rfl rfl trivial (step_r rfl rfl trivial (step_nil (seqK_n (sem_ret ?_))))))))))
       have e27 : shape do_ = (false, false, false) := by
        unfold shape
        try dsimp only
        rewrite [if_neg g3, if_neg g6, hJ8]
        try dsimp only
        rewrite [if_neg g17, hJ19]
        try dsimp only
        rewrite [if_neg g25]
        all_goals rfl
       rw [e27]
       exact answersR rfl ⟨trivial, trivial, trivial, trivial⟩ (rfl) rfl

structure GCommand where
  (Do : Int)
  (Text : List UInt8)
  (A : Int)
  (B : Int)
  deriving DecidableEq, Inhabited
def encGCommand (x : GCommand) : List PV := [i64 x.Do, .str x.Text, i64 x.A, i64 x.B]
abbrev aGCommand (x : GCommand) : AV := .agg [I x.Do, .pv (.str x.Text), I x.A, I x.B]
def wfGCommand (x : GCommand) : Prop := (InR x.Do) ∧ (x.Text.length ≤ maxLen) ∧ (InR x.A) ∧ (InR x.B)
theorem encGCommand_solid {l : List GCommand} : ∀ p ∈ l.flatMap encGCommand, solidP p = true := flat_solid (fun x p h => by simp only [encGCommand, List.mem_cons, List.mem_nil_iff, or_false] at h; rcases h with rfl | rfl | rfl | rfl <;> rfl)

def rightC_J14 (c : GCommand) : Bool :=
  if (shape c.Do).2.2 = true then (if (shape c.Do).2.1 = true then false else if (c.A : Int) = 0 then ((c.B : Int) != 0) else true) else (!((shape c.Do).2.2))
def rightC (c : GCommand) : Bool :=
  (let t13_14 := rightC_J14 c; if t13_14 = true then false else if (shape c.Do).1 = true then (nameC c.Text) else (c.Text == ([])))
theorem rightC_ok (c : GCommand) : Ok Tryd.prog 9 [aGCommand c] [] (B (rightC c)) [] [] := by
 refine ok_of_sem Tryd.func9 rfl ?_
 show Walks Tryd.prog _ _ ⟨[(0, aGCommand c)], [], 0, [], 36, 0⟩
 refine sem_seq (sem_region rfl (step_n (o := .box [_, _, _, _]) (nx' := 1) rfl rfl rfl trivial (step_r rfl rfl trivial (step_nil (seqK_n (sem_seq (sem_region rfl (step_r rfl rfl (by decide) (step_r rfl rfl trivial (step_call rfl rfl rfl rfl (shape_ok c.Do) rfl rfl rfl (step_r rfl rfl trivial ?_)))))))))))
 refine step_r rfl rfl trivial (step_r rfl rfl trivial (step_r rfl rfl trivial (step_r rfl rfl trivial (step_r rfl rfl trivial (step_r rfl rfl trivial (step_nil (seqK_n (sem_seq (sem_block (sem_seq ?_))))))))))
 refine sem_cutW (fun t13_14 : Bool => (⟨[(1, .ptr 0 0), (3, B (shape c.Do).1), (13, B t13_14)], [(0, .box [I c.Do, .pv (.str c.Text), I c.A, I c.B])], 1, [], 36, 0⟩ : St)) (fun w_ => rightC_J14 c = w_) ?_ ?_
 ·refine sem_seq (sem_region rfl (step_r rfl rfl trivial (step_r rfl rfl trivial (step_r rfl rfl trivial (step_nil (seqK_n ?_))))))
  refine sem_cond rfl (fun h6 => ?_) (fun h6 => ?_)
  ·have g6 : ¬ ((shape c.Do).2.2 = true) := boo_f (not_t h6)
   refine sem_skip ?_
   have e7 : rightC_J14 c = (!((shape c.Do).2.2)) := by
    unfold rightC_J14
    try dsimp only
    rewrite [if_neg g6]
    all_goals rfl
   exact cutW_n (!((shape c.Do).2.2)) e7 (Trans.ren [] (by decide +kernel) (by decide +kernel) rfl ⟨⟨rfl, rfl⟩, ⟨rfl, rfl⟩, ⟨rfl, rfl⟩, trivial⟩ ⟨⟨rfl, rfl, rfl⟩, trivial⟩ (by decide))
  ·have g6 : (shape c.Do).2.2 = true := (not_f h6)
   refine sem_region rfl (step_r rfl rfl trivial (step_r rfl rfl trivial (step_r rfl rfl trivial ?_)))
   refine step_gs rfl (fun h9 => ?_) (fun h9 => ?_)
   ·have g9 : ¬ ((shape c.Do).2.1 = true) := boo_f (not_t h9)
    refine step_g1 rfl h9 (step_r rfl rfl (by decide) (step_g1 rfl h9 (step_r rfl rfl trivial (step_g1 rfl h9 (step_bin rfl rfl rfl rfl rfl trivial (step_g1 rfl h9 (step_r rfl rfl trivial ?_)))))))
    refine step_gs rfl (fun h11 => ?_) (fun h11 => ?_)
    ·have g11 : ¬ ((c.A : Int) = 0) := bne_t h11
     refine step_g0 rfl h11 rfl (step_g0 rfl h11 rfl (step_g0 rfl h11 rfl (step_g1 rfl h9 (step_pickT rfl h11 rfl rfl (step_pickT rfl h9 rfl rfl (step_r rfl rfl trivial (step_nil ?_)))))))
     have e12 : rightC_J14 c = true := by
      unfold rightC_J14
      try dsimp only
      rewrite [if_pos g6, if_neg g9, if_neg g11]
      all_goals rfl
     exact cutW_n true e12 (Trans.ren [] (by decide +kernel) (by decide +kernel) rfl ⟨⟨rfl, rfl⟩, ⟨rfl, rfl⟩, ⟨rfl, rfl⟩, trivial⟩ ⟨⟨rfl, rfl, rfl⟩, trivial⟩ (by decide))
    ·have g11 : (c.A : Int) = 0 := bne_f h11
     refine step_g1 rfl h11 (step_r rfl rfl (by decide) (step_g1 rfl h11 (step_r rfl rfl trivial (step_g1 rfl h11 (step_bin rfl rfl rfl rfl rfl trivial (step_g1 rfl h9 (step_pickF rfl h11 rfl rfl (step_pickT rfl h9 rfl rfl (step_r rfl rfl trivial (step_nil ?_))))))))))
     have e14 : rightC_J14 c = ((c.B : Int) != 0) := by
      unfold rightC_J14
      try dsimp only
      rewrite [if_pos g6, if_neg g9, if_pos g11]
      all_goals rfl
     exact cutW_n ((c.B : Int) != 0) e14 (Trans.ren [] (by decide +kernel) (by decide +kernel) rfl ⟨⟨rfl, rfl⟩, ⟨rfl, rfl⟩, ⟨rfl, rfl⟩, trivial⟩ ⟨⟨rfl, rfl, rfl⟩, trivial⟩ (by decide))
   ·have g9 : (shape c.Do).2.1 = true := (not_f h9)
    refine step_g0 rfl h9 rfl (step_g0 rfl h9 rfl (step_g0 rfl h9 rfl (step_g0 rfl h9 rfl (step_gf rfl rfl (step_gf rfl rfl (step_gf rfl rfl (step_g0 rfl h9 rfl (step_pickF rfl h9 rfl rfl (step_r rfl rfl trivial (step_nil ?_))))))))))
    have e15 : rightC_J14 c = false := by
     unfold rightC_J14
     try dsimp only
     rewrite [if_pos g6, if_pos g9]
     all_goals rfl
    exact cutW_n false e15 (Trans.ren [] (by decide +kernel) (by decide +kernel) rfl ⟨⟨rfl, rfl⟩, ⟨rfl, rfl⟩, ⟨rfl, rfl⟩, trivial⟩ ⟨⟨rfl, rfl, rfl⟩, trivial⟩ (by decide))
 ·rintro t13_14 (hJ4 : rightC_J14 c = t13_14)
  show seqK _ _ _ .normal (⟨[(1, .ptr 0 0), (3, B (shape c.Do).1), (13, B t13_14)], [(0, .box [I c.Do, .pv (.str c.Text), I c.A, I c.B])], 1, [], 36, 0⟩ : St)
  refine seqK_n ?_
  refine sem_cond rfl (fun h16 => ?_) (fun h16 => ?_)
  ·have g16 : t13_14 = true := h16
   refine sem_seq (sem_region rfl (step_r rfl rfl trivial (step_nil (seqK_n (sem_ret (blkK_r (seqK_r ?_)))))))
   have e17 : rightC c = false := by
    unfold rightC
    try dsimp only
    rewrite [hJ4]
    try dsimp only
    rewrite [if_pos g16]
    all_goals rfl
   rw [e17]
   exact answersR rfl ⟨trivial, trivial⟩ (rfl) rfl
  ·have g16 : ¬ (t13_14 = true) := boo_f h16
   refine sem_seq (sem_region rfl (step_r rfl rfl trivial (step_r rfl rfl trivial (step_nil (seqK_n ?_)))))
   refine sem_cond rfl (fun h19 => ?_) (fun h19 => ?_)
   ·have g19 : (shape c.Do).1 = true := h19
    refine sem_seq (sem_region rfl (step_r rfl rfl (by decide) (step_r rfl rfl trivial (step_call rfl rfl rfl rfl (nameC_ok c.Text) rfl rfl rfl (step_r rfl rfl trivial (step_nil (seqK_n (sem_ret (blkK_r (seqK_r ?_))))))))))
    have e21 : rightC c = (nameC c.Text) := by
     unfold rightC
     try dsimp only
     rewrite [hJ4]
     try dsimp only
     rewrite [if_neg g16, if_pos g19]
     all_goals rfl
    rw [e21]
    exact answersR rfl ⟨trivial, trivial⟩ (rfl) rfl
   ·have g19 : ¬ ((shape c.Do).1 = true) := boo_f h19
    refine sem_skip (blkK_n (seqK_n (sem_seq (sem_region rfl (step_r rfl rfl (by decide) (step_r rfl rfl trivial (step_bin rfl rfl rfl rfl rfl trivial (step_r rfl rfl trivial (step_nil (seqK_n (sem_ret ?_)))))))))))
    have e23 : rightC c = (c.Text == ([])) := by
     unfold rightC
     try dsimp only
     rewrite [hJ4]
     try dsimp only
     rewrite [if_neg g16, if_neg g19]
     all_goals rfl
    rw [e23]
    exact answersR rfl ⟨trivial, trivial⟩ (rfl) rfl

def two (do_ : Int) : Bool :=
  if (do_ : Int) = 2 then true else if (do_ : Int) = 3 then true else if (do_ : Int) = 5 then true else ((do_ : Int) == 6)
theorem two_ok (do_ : Int) : Ok Tryd.prog 17 [I do_] [] (B (two do_)) [] [] := by
 refine ok_of_sem Tryd.func17 rfl ?_
 show Walks Tryd.prog _ _ ⟨[(0, I do_)], [], 0, [], 17, 0⟩
 refine sem_seq (sem_region rfl (step_r rfl rfl trivial (step_nil (seqK_n (sem_seq (sem_region rfl (step_r rfl rfl trivial (step_bin rfl rfl rfl rfl rfl trivial (step_r rfl rfl trivial ?_)))))))))
 refine step_gs rfl (fun h3 => ?_) (fun h3 => ?_)
 ·have g3 : (do_ : Int) = 2 := beq_t h3
  refine step_g0 rfl h3 rfl (step_g0 rfl h3 rfl (step_pickT rfl h3 rfl rfl (step_r rfl rfl trivial (step_gf rfl rfl (step_gf rfl rfl (step_r rfl rfl trivial (step_r rfl rfl trivial (step_gf rfl rfl (step_gf rfl rfl (step_r rfl rfl trivial (step_r rfl rfl trivial ?_)))))))))))
  refine step_nil (seqK_n (sem_ret ?_))
  have e4 : two do_ = true := by
   unfold two
   try dsimp only
   rewrite [if_pos g3]
   all_goals rfl
  rw [e4]
  exact answersR rfl ⟨trivial, trivial⟩ (rfl) rfl
 ·have g3 : ¬ ((do_ : Int) = 2) := beq_f h3
  refine step_g1 rfl h3 (step_r rfl rfl trivial (step_g1 rfl h3 (step_bin rfl rfl rfl rfl rfl trivial (step_pickF rfl h3 rfl rfl (step_r rfl rfl trivial ?_)))))
  refine step_gs rfl (fun h6 => ?_) (fun h6 => ?_)
  ·have g6 : (do_ : Int) = 3 := beq_t h6
   refine step_g0 rfl h6 rfl (step_g0 rfl h6 rfl (step_pickT rfl h6 rfl rfl (step_r rfl rfl trivial (step_gf rfl rfl (step_gf rfl rfl (step_r rfl rfl trivial (step_r rfl rfl trivial (step_nil (seqK_n (sem_ret ?_))))))))))
   have e7 : two do_ = true := by
    unfold two
    try dsimp only
    rewrite [if_neg g3, if_pos g6]
    all_goals rfl
   rw [e7]
   exact answersR rfl ⟨trivial, trivial⟩ (rfl) rfl
  ·have g6 : ¬ ((do_ : Int) = 3) := beq_f h6
   refine step_g1 rfl h6 (step_r rfl rfl trivial (step_g1 rfl h6 (step_bin rfl rfl rfl rfl rfl trivial (step_pickF rfl h6 rfl rfl (step_r rfl rfl trivial ?_)))))
   refine step_gs rfl (fun h9 => ?_) (fun h9 => ?_)
   ·have g9 : (do_ : Int) = 5 := beq_t h9
    refine step_g0 rfl h9 rfl (step_g0 rfl h9 rfl (step_pickT rfl h9 rfl rfl (step_r rfl rfl trivial (step_nil (seqK_n (sem_ret ?_))))))
    have e10 : two do_ = true := by
     unfold two
     try dsimp only
     rewrite [if_neg g3, if_neg g6, if_pos g9]
     all_goals rfl
    rw [e10]
    exact answersR rfl ⟨trivial, trivial⟩ (rfl) rfl
   ·have g9 : ¬ ((do_ : Int) = 5) := beq_f h9
    refine step_g1 rfl h9 (step_r rfl rfl trivial (step_g1 rfl h9 (step_bin rfl rfl rfl rfl rfl trivial (step_pickF rfl h9 rfl rfl (step_r rfl rfl trivial (step_nil (seqK_n (sem_ret ?_))))))))
    have e12 : two do_ = ((do_ : Int) == 6) := by
     unfold two
     try dsimp only
     rewrite [if_neg g3, if_neg g6, if_neg g9]
     all_goals rfl
    rw [e12]
    exact answersR rfl ⟨trivial, trivial⟩ (rfl) rfl

def rightR_J3 (c : GCommand) : Sum Bool Unit :=
  if (c.Do : Int) < 1 then .inl false else if (c.Do : Int) > 7 then .inl false else if two c.Do = true then .inr () else if (c.A : Int) = 0 then (if (c.B : Int) = 0 then .inr () else .inl false) else .inl false
def rightR (c : GCommand) : Bool :=
  (match rightR_J3 c with
    | .inl r_ => r_
    | .inr () => if (c.Do : Int) = 1 then (nameR c.Text) else (c.Text == ([])))
theorem rightR_ok (c : GCommand) (hc : c.Text.length ≤ 9223372036854775807) : Ok Tryd.prog 10 [aGCommand c] [] (B (rightR c)) [] [] := by
 refine ok_of_sem Tryd.func10 rfl ?_
 show Walks Tryd.prog _ _ ⟨[(0, aGCommand c)], [], 0, [], 36, 0⟩
 refine sem_seq (sem_region rfl (step_n (o := .box [_, _, _, _]) (nx' := 1) rfl rfl rfl trivial (step_r rfl rfl trivial (step_nil (seqK_n (sem_seq ?_))))))
 refine sem_cutW (fun w_ : Unit => match w_ with | () => (⟨[(1, .ptr 0 0)], [(0, .box [I c.Do, .pv (.str c.Text), I c.A, I c.B])], 1, [], 36, 0⟩ : St)) (fun w_ => rightR_J3 c = .inr w_) ?_ ?_
 ·refine sem_seq (sem_region rfl (step_r rfl rfl (by decide) (step_r rfl rfl trivial (step_bin rfl rfl rfl rfl rfl trivial (step_r rfl rfl trivial ?_)))))
  refine step_gs rfl (fun h3 => ?_) (fun h3 => ?_)
  ·have g3 : (c.Do : Int) < 1 := of_decide_eq_true h3
   refine step_g0 rfl h3 rfl (step_g0 rfl h3 rfl (step_g0 rfl h3 rfl (step_pickT rfl h3 rfl rfl (step_r rfl rfl trivial (step_gf rfl rfl (step_gf rfl rfl (step_gf rfl rfl (step_gf rfl rfl (step_gf rfl rfl (step_gf rfl rfl (step_gf rfl rfl ?_)))))))))))
   refine step_gf rfl rfl (step_gf rfl rfl (step_gf rfl rfl (step_gf rfl rfl (step_gf rfl rfl (step_gf rfl rfl (step_gf rfl rfl (step_r rfl rfl trivial (step_nil (seqK_n (sem_condT rfl (sem_seq ?_)))))))))))
   refine sem_region rfl (step_r rfl rfl trivial (step_nil (seqK_n (sem_ret (cutW_r (seqK_r ?_))))))
   have e4 : rightR_J3 c = .inl false := by
    unfold rightR_J3
    try dsimp only
    rewrite [if_pos g3]
    all_goals rfl
   have e5 : rightR c = false := by
    unfold rightR
    try dsimp only
    rewrite [e4]
    try dsimp only
    all_goals rfl
   rw [e5]
   exact answersR rfl ⟨trivial, trivial⟩ (rfl) rfl
  ·have g3 : ¬ ((c.Do : Int) < 1) := of_decide_eq_false h3
   refine step_g1 rfl h3 (step_r rfl rfl (by decide) (step_g1 rfl h3 (step_r rfl rfl trivial (step_g1 rfl h3 (step_bin rfl rfl rfl rfl rfl trivial (step_pickF rfl h3 rfl rfl (step_r rfl rfl trivial ?_)))))))
   refine step_gs rfl (fun h7 => ?_) (fun h7 => ?_)
   ·have g7 : (c.Do : Int) > 7 := of_decide_eq_true h7
    refine step_g0 rfl h7 rfl (step_g0 rfl h7 rfl (step_g0 rfl h7 rfl (step_g0 rfl h7 rfl (step_g0 rfl h7 rfl (step_gf rfl rfl (step_gf rfl rfl (step_gf rfl rfl (step_gf rfl rfl (step_gf rfl rfl (step_gf rfl rfl (step_gf rfl rfl ?_)))))))))))
    refine step_gf rfl rfl (step_g0 rfl h7 rfl (step_pickT rfl h7 rfl rfl (step_nil (seqK_n (sem_condT rfl (sem_seq (sem_region rfl (step_r rfl rfl trivial (step_nil (seqK_n (sem_ret ?_)))))))))))
    refine cutW_r (seqK_r ?_)
    have e8 : rightR_J3 c = .inl false := by
     unfold rightR_J3
     try dsimp only
     rewrite [if_neg g3, if_pos g7]
     all_goals rfl
    have e9 : rightR c = false := by
     unfold rightR
     try dsimp only
     rewrite [e8]
     try dsimp only
     all_goals rfl
    rw [e9]
    exact answersR rfl ⟨trivial, trivial⟩ (rfl) rfl
   ·have g7 : ¬ ((c.Do : Int) > 7) := of_decide_eq_false h7
    refine step_g1 rfl h7 (step_r rfl rfl (by decide) (step_g1 rfl h7 (step_r rfl rfl trivial (step_g1 rfl h7 (step_call rfl rfl rfl rfl (two_ok c.Do) rfl rfl rfl (step_g1 rfl h7 (step_r rfl rfl trivial (step_g1 rfl h7 (step_r rfl rfl trivial ?_)))))))))
    refine step_gs rfl (fun h11 => ?_) (fun h11 => ?_)
    ·have g11 : ¬ (two c.Do = true) := boo_f (not_t h11)
     refine step_g1 rfl h11 (step_r rfl rfl (by decide) (step_g1 rfl h11 (step_r rfl rfl trivial (step_g1 rfl h11 (step_bin rfl rfl rfl rfl rfl trivial (step_g1 rfl h11 (step_r rfl rfl trivial ?_)))))))
     refine step_gs rfl (fun h13 => ?_) (fun h13 => ?_)
     ·have g13 : ¬ ((c.A : Int) = 0) := bne_t h13
      refine step_g0 rfl h13 rfl (step_g0 rfl h13 rfl (step_g0 rfl h13 rfl (step_g1 rfl h11 (step_pickT rfl h13 rfl rfl (step_g1 rfl h7 (step_pickT rfl h11 rfl rfl (step_pickF rfl h7 rfl rfl (step_nil (seqK_n (sem_condT rfl (sem_seq ?_)))))))))))
      refine sem_region rfl (step_r rfl rfl trivial (step_nil (seqK_n (sem_ret (cutW_r (seqK_r ?_))))))
      have e14 : rightR_J3 c = .inl false := by
       unfold rightR_J3
       try dsimp only
       rewrite [if_neg g3, if_neg g7, if_neg g11, if_neg g13]
       all_goals rfl
      have e15 : rightR c = false := by
       unfold rightR
       try dsimp only
       rewrite [e14]
       try dsimp only
       all_goals rfl
      rw [e15]
      exact answersR rfl ⟨trivial, trivial⟩ (rfl) rfl
     ·have g13 : (c.A : Int) = 0 := bne_f h13
      refine step_g1 rfl h13 (step_r rfl rfl (by decide) (step_g1 rfl h13 (step_r rfl rfl trivial (step_g1 rfl h13 (step_bin rfl rfl rfl rfl rfl trivial (step_g1 rfl h11 (step_pickF rfl h13 rfl rfl (step_g1 rfl h7 (step_pickT rfl h11 rfl rfl (step_pickF rfl h7 rfl rfl (step_nil ?_)))))))))))
      refine seqK_n ?_
      refine sem_cond rfl (fun h17 => ?_) (fun h17 => ?_)
      ·have g17 : ¬ ((c.B : Int) = 0) := bne_t h17
       refine sem_seq (sem_region rfl (step_r rfl rfl trivial (step_nil (seqK_n (sem_ret (cutW_r (seqK_r ?_)))))))
       have e18 : rightR_J3 c = .inl false := by
        unfold rightR_J3
        try dsimp only
        rewrite [if_neg g3, if_neg g7, if_neg g11, if_pos g13, if_neg g17]
        all_goals rfl
       have e19 : rightR c = false := by
        unfold rightR
        try dsimp only
        rewrite [e18]
        try dsimp only
        all_goals rfl
       rw [e19]
       exact answersR rfl ⟨trivial, trivial⟩ (rfl) rfl
      ·have g17 : (c.B : Int) = 0 := bne_f h17
       refine sem_skip ?_
       have e20 : rightR_J3 c = .inr () := by
        unfold rightR_J3
        try dsimp only
        rewrite [if_neg g3, if_neg g7, if_neg g11, if_pos g13, if_pos g17]
        all_goals rfl
       exact cutW_n () e20 (Trans.ren [] (by decide +kernel) (by decide +kernel) rfl ⟨⟨rfl, rfl⟩, trivial⟩ ⟨⟨rfl, rfl, rfl⟩, trivial⟩ (by decide))
    ·have g11 : two c.Do = true := (not_f h11)
     refine step_g0 rfl h11 rfl (step_g0 rfl h11 rfl (step_g0 rfl h11 rfl (step_g0 rfl h11 rfl (step_gf rfl rfl (step_gf rfl rfl (step_gf rfl rfl (step_g0 rfl h11 rfl (step_g1 rfl h7 (step_pickF rfl h11 rfl rfl (step_pickF rfl h7 rfl rfl (step_nil ?_)))))))))))
     refine seqK_n (sem_condF rfl (sem_skip ?_))
     have e21 : rightR_J3 c = .inr () := by
      unfold rightR_J3
      try dsimp only
      rewrite [if_neg g3, if_neg g7, if_pos g11]
      all_goals rfl
     exact cutW_n () e21 (Trans.ren [] (by decide +kernel) (by decide +kernel) rfl ⟨⟨rfl, rfl⟩, trivial⟩ ⟨⟨rfl, rfl, rfl⟩, trivial⟩ (by decide))
 ·rintro ⟨⟩ (hJ1 : rightR_J3 c = .inr ())
  show seqK _ _ _ .normal (⟨[(1, .ptr 0 0)], [(0, .box [I c.Do, .pv (.str c.Text), I c.A, I c.B])], 1, [], 36, 0⟩ : St)
  refine seqK_n (sem_seq (sem_seq (sem_region rfl (step_r rfl rfl (by decide) (step_r rfl rfl trivial (step_bin rfl rfl rfl rfl rfl trivial (step_nil (seqK_n ?_))))))))
  refine sem_cond rfl (fun h22 => ?_) (fun h22 => ?_)
  ·have g22 : (c.Do : Int) = 1 := beq_t h22
   refine sem_seq (sem_region rfl (step_r rfl rfl (by decide) (step_r rfl rfl trivial (step_call rfl rfl rfl rfl (nameR_ok c.Text (by first | assumption | omega | (simp only [IntKind.wrap_i64] at *; omega) | (simp; omega))) rfl rfl rfl (step_r rfl rfl trivial (step_nil (seqK_n (sem_ret (seqK_r ?_)))))))))
   have e24 : rightR c = (nameR c.Text) := by
    unfold rightR
    try dsimp only
    rewrite [hJ1]
    try dsimp only
    rewrite [if_pos g22]
    all_goals rfl
   rw [e24]
   exact answersR rfl ⟨trivial, trivial⟩ (rfl) rfl
  ·have g22 : ¬ ((c.Do : Int) = 1) := beq_f h22
   refine sem_skip (seqK_n (sem_seq (sem_region rfl (step_r rfl rfl (by decide) (step_r rfl rfl trivial (step_bin rfl rfl rfl rfl rfl trivial (step_r rfl rfl trivial (step_nil (seqK_n (sem_ret ?_))))))))))
   have e26 : rightR c = (c.Text == ([])) := by
    unfold rightR
    try dsimp only
    rewrite [hJ1]
    try dsimp only
    rewrite [if_neg g22]
    all_goals rfl
   rw [e26]
   exact answersR rfl ⟨trivial, trivial⟩ (rfl) rfl

theorem nameC_len {s : List UInt8} (h : nameC s = true) : s.length ≤ 24 := by
  unfold nameC at h
  split at h
  · cases h
  · split at h
    · omega
    · cases h
theorem nameR_len {s : List UInt8} (h : nameR s = true) : s.length ≤ 24 ∨ nameR_L0 s (s.length - 0) 0 = .inl true := by
  unfold nameR at h
  split at h
  · rename_i r hr; right; rw [hr, h]
  · split at h
    · left; have := of_decide_eq_true h; omega
    · cases h
theorem rightC_len {c : GCommand} (h : rightC c = true) : c.Text.length ≤ 24 := by
  unfold rightC at h
  dsimp only at h
  split at h
  · cases h
  · split at h
    · exact nameC_len h
    · have := beq_t h; rw [this]; simp


theorem putI_len (b : List UInt8) (n : Int) : (putI b n).length ≤ b.length + 11 := put_len _ _
theorem intR_len (b : List UInt8) (n : Int) : (intR b n).length ≤ b.length + 11 := digits_len _ _


theorem nameR_L0_no : ∀ (s : List UInt8) (n k : Nat), nameR_L0 s n k ≠ .inl true
  | s, 0, k => by rw [nameR_L0]; intro h; cases h
  | s, n + 1, k => by
    have ih := nameR_L0_no s n (k + 1)
    rw [nameR_L0]
    repeat' split
    all_goals first | exact ih | (intro h; cases h)
theorem rightR_len {c : GCommand} (h : rightR c = true) : c.Text.length ≤ 24 := by
  unfold rightR at h
  split at h
  · rename_i r hr
    subst h
    unfold rightR_J3 at hr
    repeat' split at hr
    all_goals cases hr
  · split at h
    · exact (nameR_len h).resolve_right (nameR_L0_no _ _ _)
    · have := beq_t h; rw [this]; simp


def encC_J19 (c : GCommand) : List UInt8 :=
  if (shape c.Do).2.1 = true then (putI (putI ([(by8 c.Do)] ++ c.Text) c.A) c.B) else ([(by8 c.Do)] ++ c.Text)
def encC (c : GCommand) : (List UInt8) × Int :=
  if rightC c = true then (let b_19 := encC_J19 c; (b_19, 0)) else ([], 1)
theorem encC_ok (c : GCommand) : Ok Tryd.prog 7 [aGCommand c] [] (.tup [.ref 0 1 0 (encC c).1.length, I (encC c).2]) [.row 5 1 (encY (encC c).1)] [] := by
 refine ok_of_sem Tryd.func7 rfl ?_
 show Walks Tryd.prog _ _ ⟨[(0, aGCommand c)], [], 0, [], 34, 0⟩
 refine sem_seq (sem_region rfl (step_n (o := .box [_, _, _, _]) (nx' := 1) rfl rfl rfl trivial (step_n (nx' := 2) rfl rfl rfl trivial (step_r rfl rfl trivial (step_nil (seqK_n (sem_seq (sem_seq (sem_region rfl (step_r (v := (.agg [_, _, _, _])) rfl rfl (Nat.le_of_ble_eq_true rfl) (step_call rfl rfl rfl rfl (rightC_ok c) rfl rfl rfl ?_)))))))))))
 refine step_r rfl rfl trivial (step_nil (seqK_n ?_))
 refine sem_cond rfl (fun h1 => ?_) (fun h1 => ?_)
 ·have g1 : ¬ (rightC c = true) := boo_f (not_t h1)
  refine sem_seq (sem_region rfl (step_n (nx' := 3) rfl rfl rfl trivial (step_r rfl rfl trivial (step_nil (seqK_n (sem_ret (seqK_r ?_)))))))
  have e2 : encC c = ([], 1) := by
   unfold encC
   try dsimp only
   rewrite [if_neg g1]
   all_goals rfl
  rw [e2]
  exact answersGR [] [2] rfl ⟨trivial, trivial, trivial⟩ rfl (by (repeat' apply And.intro) <;> first | trivial | rfl | exact flat_len (fun _ => rfl) _ | exact encI_len _ | exact encB_len _ | exact encY_len _ | assumption) (rfl) rfl rfl rfl (by decide) rfl rfl ⟨⟨rfl, rfl⟩, trivial⟩
 ·have g1 : rightC c = true := (not_f h1)
  have qg1 := rightC_len g1
  refine sem_skip (seqK_n (sem_seq (sem_region rfl (step_r rfl rfl (by decide) (step_r rfl rfl trivial (step_r rfl rfl trivial ?_))))))
  refine tell8 (conv8 c.Do) ?_
  refine step_n (o := .row _ _ [_]) (nx' := 3) rfl rfl rfl (by decide) (step_r rfl rfl (by decide) (step_r rfl rfl trivial ?_))
  refine step_appendC (m := c.Text.length) (new := encY c.Text) (cs' := encY ([(by8 c.Do)] ++ c.Text)) (n' := ([(by8 c.Do)] ++ c.Text).length) (H' := [(2, .row _ _ _), (1, .row _ _ _), (0, .box [_, _, _, _])]) rfl rfl rfl (rfl) rfl rfl rfl rfl rfl rfl (rfl) (encY_len c.Text) (by first | decide | (unfold maxGrow; omega) | (unfold maxGrow; simp; omega) | (unfold maxGrow; simp only [List.length_append, List.length_take, List.length_drop, List.length_cons, List.length_nil, IntKind.wrap_i64] at *; omega)) (len_append ([(by8 c.Do)]) c.Text) (encY_append ([(by8 c.Do)]) c.Text) (.inl rfl) rfl rfl (.keep rfl (.keep rfl (.keep rfl .nil))) (.keep rfl (.keep rfl (.lose (v' := .undef) rfl (.keep rfl (.keep rfl (.keep rfl (.keep rfl (.keep rfl (.keep rfl (.keep rfl (.keep rfl (.keep rfl (.keep rfl .nil))))))))))))) ?_
  refine step_r rfl rfl trivial (step_nil (seqK_n (sem_seq ?_)))
  refine sem_cutW (fun b_19 : List UInt8 => (⟨[(4, .ref 0 1 0 b_19.length)], [(0, .row 5 1 (encY b_19))], 1, [], 34, 0⟩ : St)) (fun w_ => encC_J19 c = w_) ?_ ?_
  ·refine sem_seq (sem_region rfl (step_r rfl rfl (by decide) (step_r rfl rfl trivial (step_call rfl rfl rfl rfl (shape_ok c.Do) rfl rfl rfl (step_r rfl rfl trivial (step_r rfl rfl trivial (step_r rfl rfl trivial (step_r rfl rfl trivial (step_r rfl rfl trivial (step_r rfl rfl trivial (step_r rfl rfl trivial ?_)))))))))))
   refine step_nil (seqK_n (sem_seq (sem_region rfl (step_r rfl rfl trivial (step_nil (seqK_n ?_))))))
   refine sem_cond rfl (fun h7 => ?_) (fun h7 => ?_)
   ·have g7 : (shape c.Do).2.1 = true := h7
    refine sem_drawn rfl (by decide +kernel) rfl ?_
    refine step_r rfl rfl trivial (step_r rfl rfl (by decide) (step_r rfl rfl trivial ?_))
    refine step_callJ (Hin := [.row _ _ _]) (out' := .ref 3 _ _ _) (H' := [(3, .row _ _ _), (2, _), (1, _), (0, _)]) (nx' := 4) [2] rfl rfl rfl rfl rfl rfl rfl rfl rfl (by (repeat' apply And.intro) <;> first | trivial | rfl | exact flat_len (fun _ => rfl) _ | exact encI_len _ | exact encB_len _ | exact encY_len _ | exact Nat.le_of_ble_eq_true rfl | assumption) (putI_ok ([(by8 c.Do)] ++ c.Text) false c.A (by first | assumption | omega | (simp only [List.length_append, List.length_cons, List.length_nil] at *; omega))) rfl (by decide) rfl rfl ⟨encY_solid, trivial⟩ rfl rfl rfl rfl ?_
    have p8 := putI_len ([(by8 c.Do)] ++ c.Text) c.A
    refine step_r rfl rfl (by decide) (step_r rfl rfl trivial ?_)
    refine step_callJ (Hin := [.row _ _ _]) (out' := .ref 4 _ _ _) (H' := [(4, .row _ _ _), (3, _), (2, _), (1, _), (0, _)]) (nx' := 5) [3] rfl rfl rfl rfl rfl rfl rfl rfl rfl (by (repeat' apply And.intro) <;> first | trivial | rfl | exact flat_len (fun _ => rfl) _ | exact encI_len _ | exact encB_len _ | exact encY_len _ | exact Nat.le_of_ble_eq_true rfl | assumption) (putI_ok (putI ([(by8 c.Do)] ++ c.Text) c.A) false c.B (by first | assumption | omega | (simp only [List.length_append, List.length_cons, List.length_nil] at *; omega))) rfl (by decide) rfl rfl ⟨encY_solid, trivial⟩ rfl rfl rfl rfl ?_
    have p9 := putI_len (putI ([(by8 c.Do)] ++ c.Text) c.A) c.B
    refine step_r rfl rfl trivial (step_nil ?_)
    have e10 : encC_J19 c = (putI (putI ([(by8 c.Do)] ++ c.Text) c.A) c.B) := by
     unfold encC_J19
     try dsimp only
     rewrite [if_pos g7]
     all_goals rfl
    exact cutW_n (putI (putI ([(by8 c.Do)] ++ c.Text) c.A) c.B) e10 (Trans.ren [(0, 4), (4, 0)] (by decide +kernel) (by decide +kernel) rfl ⟨⟨rfl, rfl⟩, trivial⟩ ⟨⟨rfl, rfl, rfl⟩, trivial⟩ (by decide))
   ·have g7 : ¬ ((shape c.Do).2.1 = true) := boo_f h7
    refine sem_skip ?_
    have e11 : encC_J19 c = ([(by8 c.Do)] ++ c.Text) := by
     unfold encC_J19
     try dsimp only
     rewrite [if_neg g7]
     all_goals rfl
    exact cutW_n ([(by8 c.Do)] ++ c.Text) e11 (Trans.ren [(0, 2), (2, 0)] (by decide +kernel) (by decide +kernel) rfl ⟨⟨rfl, rfl⟩, trivial⟩ ⟨⟨rfl, rfl, rfl⟩, trivial⟩ (by decide))
  ·rintro b_19 (hJ3 : encC_J19 c = b_19)
   show seqK _ _ _ .normal (⟨[(4, .ref 0 1 0 b_19.length)], [(0, .row 5 1 (encY b_19))], 1, [], 34, 0⟩ : St)
   refine seqK_n (sem_seq (sem_region rfl (step_r rfl rfl trivial (step_r rfl rfl trivial (step_r rfl rfl trivial (step_nil (seqK_n (sem_ret ?_))))))))
   have e12 : encC c = (b_19, 0) := by
    unfold encC
    try dsimp only
    rewrite [if_pos g1, hJ3]
    try dsimp only
    all_goals rfl
   rw [e12]
   exact answersGR [] [0] rfl ⟨trivial, trivial, trivial⟩ rfl (by (repeat' apply And.intro) <;> first | trivial | rfl | exact flat_len (fun _ => rfl) _ | exact encI_len _ | exact encB_len _ | exact encY_len _ | assumption) (rfl) rfl rfl rfl (by decide) rfl rfl ⟨⟨rfl, rfl⟩, trivial⟩

theorem encC_len (c : GCommand) : (encC c).1.length ≤ 60 := by
  unfold encC
  split
  · rename_i h
    have h1 := rightC_len h
    show (encC_J19 c).length ≤ 60
    unfold encC_J19
    split
    · have h2 := putI_len ([by8 c.Do] ++ c.Text) c.A
      have h3 := putI_len (putI ([by8 c.Do] ++ c.Text) c.A) c.B
      simp only [List.length_append, List.length_cons, List.length_nil] at h2 h3
      omega
    · simp only [List.length_append, List.length_cons, List.length_nil]; omega
  · exact Nat.zero_le _


def encR_J17 (c : GCommand) : List UInt8 :=
  if two c.Do = true then (intR (intR ([(by8 c.Do)] ++ c.Text) c.A) c.B) else ([(by8 c.Do)] ++ c.Text)
def encR (c : GCommand) : (List UInt8) × Int :=
  if rightR c = true then (let b_17 := encR_J17 c; (b_17, 0)) else ([], 1)
theorem encR_ok (c : GCommand) (hc : c.Text.length ≤ 9223372036854775807) : Ok Tryd.prog 8 [aGCommand c] [] (.tup [.ref 0 1 0 (encR c).1.length, I (encR c).2]) [.row 5 1 (encY (encR c).1)] [] := by
 refine ok_of_sem Tryd.func8 rfl ?_
 show Walks Tryd.prog _ _ ⟨[(0, aGCommand c)], [], 0, [], 28, 0⟩
 refine sem_seq (sem_region rfl (step_n (o := .box [_, _, _, _]) (nx' := 1) rfl rfl rfl trivial (step_n (nx' := 2) rfl rfl rfl trivial (step_r rfl rfl trivial (step_nil (seqK_n (sem_seq (sem_region rfl (step_r (v := (.agg [_, _, _, _])) rfl rfl (Nat.le_of_ble_eq_true rfl) (step_call rfl rfl rfl rfl (rightR_ok c (by first | assumption | omega | (simp only [IntKind.wrap_i64] at *; omega) | (simp; omega))) rfl rfl rfl (step_r rfl rfl trivial ?_)))))))))))
 refine step_nil (seqK_n (sem_seq (sem_seq (sem_region rfl (step_r rfl rfl trivial (step_r rfl rfl trivial (step_nil (seqK_n ?_))))))))
 refine sem_cond rfl (fun h2 => ?_) (fun h2 => ?_)
 ·have g2 : ¬ (rightR c = true) := boo_f (not_t h2)
  refine sem_seq (sem_region rfl (step_n (nx' := 3) rfl rfl rfl trivial (step_r rfl rfl trivial (step_nil (seqK_n (sem_ret (seqK_r ?_)))))))
  have e3 : encR c = ([], 1) := by
   unfold encR
   try dsimp only
   rewrite [if_neg g2]
   all_goals rfl
  rw [e3]
  exact answersGR [] [2] rfl ⟨trivial, trivial, trivial⟩ rfl (by (repeat' apply And.intro) <;> first | trivial | rfl | exact flat_len (fun _ => rfl) _ | exact encI_len _ | exact encB_len _ | exact encY_len _ | assumption) (rfl) rfl rfl rfl (by decide) rfl rfl ⟨⟨rfl, rfl⟩, trivial⟩
 ·have g2 : rightR c = true := (not_f h2)
  have qg2 := rightR_len g2
  refine sem_skip (seqK_n (sem_seq (sem_region rfl (step_r rfl rfl (by decide) (step_r rfl rfl trivial (step_r rfl rfl trivial ?_))))))
  refine tell8 (conv8 c.Do) ?_
  refine step_n (o := .row _ _ [_]) (nx' := 3) rfl rfl rfl (by decide) (step_r rfl rfl (by decide) (step_r rfl rfl trivial ?_))
  refine step_appendC (m := c.Text.length) (new := encY c.Text) (cs' := encY ([(by8 c.Do)] ++ c.Text)) (n' := ([(by8 c.Do)] ++ c.Text).length) (H' := [(2, .row _ _ _), (1, .row _ _ _), (0, .box [_, _, _, _])]) rfl rfl rfl (rfl) rfl rfl rfl rfl rfl rfl (rfl) (encY_len c.Text) (by first | decide | (unfold maxGrow; omega) | (unfold maxGrow; simp; omega) | (unfold maxGrow; simp only [List.length_append, List.length_take, List.length_drop, List.length_cons, List.length_nil, IntKind.wrap_i64] at *; omega)) (len_append ([(by8 c.Do)]) c.Text) (encY_append ([(by8 c.Do)]) c.Text) (.inl rfl) rfl rfl (.keep rfl (.keep rfl (.keep rfl .nil))) (.keep rfl (.keep rfl (.lose (v' := .undef) rfl (.keep rfl (.keep rfl (.keep rfl (.keep rfl (.keep rfl (.keep rfl (.keep rfl (.keep rfl (.keep rfl (.keep rfl (.keep rfl (.keep rfl .nil))))))))))))))) ?_
  refine step_r rfl rfl trivial (step_nil (seqK_n (sem_seq ?_)))
  refine sem_cutW (fun b_17 : List UInt8 => (⟨[(5, .ref 0 1 0 b_17.length)], [(0, .row 5 1 (encY b_17))], 1, [], 28, 0⟩ : St)) (fun w_ => encR_J17 c = w_) ?_ ?_
  ·refine sem_seq (sem_region rfl (step_r rfl rfl (by decide) (step_r rfl rfl trivial (step_call rfl rfl rfl rfl (two_ok c.Do) rfl rfl rfl (step_nil (seqK_n ?_))))))
   refine sem_cond rfl (fun h5 => ?_) (fun h5 => ?_)
   ·have g5 : two c.Do = true := h5
    refine sem_drawn rfl (by decide +kernel) rfl ?_
    refine step_r rfl rfl trivial (step_r rfl rfl (by decide) (step_r rfl rfl trivial ?_))
    refine step_callJ (Hin := [.row _ _ _]) (out' := .ref 3 _ _ _) (H' := [(3, .row _ _ _), (2, _), (1, _), (0, _)]) (nx' := 4) [2] rfl rfl rfl rfl rfl rfl rfl rfl rfl (by (repeat' apply And.intro) <;> first | trivial | rfl | exact flat_len (fun _ => rfl) _ | exact encI_len _ | exact encB_len _ | exact encY_len _ | exact Nat.le_of_ble_eq_true rfl | assumption) (intR_ok ([(by8 c.Do)] ++ c.Text) false c.A (by first | assumption | omega | (simp only [List.length_append, List.length_cons, List.length_nil] at *; omega))) rfl (by decide) rfl rfl ⟨encY_solid, trivial⟩ rfl rfl rfl rfl ?_
    have p6 := intR_len ([(by8 c.Do)] ++ c.Text) c.A
    refine step_r rfl rfl (by decide) (step_r rfl rfl trivial ?_)
    refine step_callJ (Hin := [.row _ _ _]) (out' := .ref 4 _ _ _) (H' := [(4, .row _ _ _), (3, _), (2, _), (1, _), (0, _)]) (nx' := 5) [3] rfl rfl rfl rfl rfl rfl rfl rfl rfl (by (repeat' apply And.intro) <;> first | trivial | rfl | exact flat_len (fun _ => rfl) _ | exact encI_len _ | exact encB_len _ | exact encY_len _ | exact Nat.le_of_ble_eq_true rfl | assumption) (intR_ok (intR ([(by8 c.Do)] ++ c.Text) c.A) false c.B (by first | assumption | omega | (simp only [List.length_append, List.length_cons, List.length_nil] at *; omega))) rfl (by decide) rfl rfl ⟨encY_solid, trivial⟩ rfl rfl rfl rfl ?_
    have p7 := intR_len (intR ([(by8 c.Do)] ++ c.Text) c.A) c.B
    refine step_r rfl rfl trivial (step_nil ?_)
    have e8 : encR_J17 c = (intR (intR ([(by8 c.Do)] ++ c.Text) c.A) c.B) := by
     unfold encR_J17
     try dsimp only
     rewrite [if_pos g5]
     all_goals rfl
    exact cutW_n (intR (intR ([(by8 c.Do)] ++ c.Text) c.A) c.B) e8 (Trans.ren [(0, 4), (4, 0)] (by decide +kernel) (by decide +kernel) rfl ⟨⟨rfl, rfl⟩, trivial⟩ ⟨⟨rfl, rfl, rfl⟩, trivial⟩ (by decide))
   ·have g5 : ¬ (two c.Do = true) := boo_f h5
    refine sem_skip ?_
    have e9 : encR_J17 c = ([(by8 c.Do)] ++ c.Text) := by
     unfold encR_J17
     try dsimp only
     rewrite [if_neg g5]
     all_goals rfl
    exact cutW_n ([(by8 c.Do)] ++ c.Text) e9 (Trans.ren [(0, 2), (2, 0)] (by decide +kernel) (by decide +kernel) rfl ⟨⟨rfl, rfl⟩, trivial⟩ ⟨⟨rfl, rfl, rfl⟩, trivial⟩ (by decide))
  ·rintro b_17 (hJ4 : encR_J17 c = b_17)
   show seqK _ _ _ .normal (⟨[(5, .ref 0 1 0 b_17.length)], [(0, .row 5 1 (encY b_17))], 1, [], 28, 0⟩ : St)
   refine seqK_n (sem_seq (sem_region rfl (step_r rfl rfl trivial (step_r rfl rfl trivial (step_r rfl rfl trivial (step_nil (seqK_n (sem_ret ?_))))))))
   have e10 : encR c = (b_17, 0) := by
    unfold encR
    try dsimp only
    rewrite [if_pos g2, hJ4]
    try dsimp only
    all_goals rfl
   rw [e10]
   exact answersGR [] [0] rfl ⟨trivial, trivial, trivial⟩ rfl (by (repeat' apply And.intro) <;> first | trivial | rfl | exact flat_len (fun _ => rfl) _ | exact encI_len _ | exact encB_len _ | exact encY_len _ | assumption) (rfl) rfl rfl rfl (by decide) rfl rfl ⟨⟨rfl, rfl⟩, trivial⟩

def pair (b : List UInt8) : Int × Int × Bool :=
  if ((readI b 0).2.2 : Int) = 0 then (if ((readI b ((readI b 0).2.1)).2.2 : Int) = 0 then ((readI b 0).1, (readI b ((readI b 0).2.1)).1, (((readI b ((readI b 0).2.1)).2.1 : Int) == b.length)) else ((readI b 0).1, (readI b ((readI b 0).2.1)).1, false)) else (0, 0, false)
theorem pair_ok (b : List UInt8) (b_f : Bool) : Ok Tryd.prog 20 [.pv (.slc b.length b_f (encY b))] [] (.tup [I (pair b).1, I (pair b).2.1, B (pair b).2.2]) [] [] := by
 refine Ok.len fun hlen => ?_
 have hl_b : b.length ≤ maxLen := hlen _ (by simp [lensL, lens, lensP])
 unfold maxLen at hl_b
 refine ok_of_sem Tryd.func20 rfl ?_
 show Walks Tryd.prog _ _ ⟨[(0, .pv (.slc b.length b_f (encY b)))], [], 0, [], 32, 0⟩
 refine sem_seq (sem_region rfl (step_r rfl rfl trivial (step_r rfl rfl trivial (step_r rfl rfl trivial (step_nil (seqK_n (sem_seq (sem_region rfl (step_r rfl rfl trivial (step_call rfl rfl rfl rfl (readI_ok b b_f 0) rfl rfl rfl (step_r rfl rfl trivial ?_)))))))))))
 refine step_r rfl rfl trivial (step_r rfl rfl trivial (step_r rfl rfl trivial (step_r rfl rfl trivial (step_r rfl rfl trivial (step_r rfl rfl trivial (step_nil (seqK_n (sem_seq (sem_seq (sem_region rfl (step_r rfl rfl trivial ?_)))))))))))
 refine step_bin rfl rfl rfl rfl rfl trivial (step_nil (seqK_n ?_))
 refine sem_cond rfl (fun h4 => ?_) (fun h4 => ?_)
 ·have g4 : ¬ (((readI b 0).2.2 : Int) = 0) := bne_t h4
  refine sem_seq (sem_region rfl (step_r rfl rfl trivial (step_r rfl rfl trivial (step_r rfl rfl trivial (step_nil (seqK_n (sem_ret (seqK_r ?_))))))))
  have e5 : pair b = (0, 0, false) := by
   unfold pair
   try dsimp only
   rewrite [if_neg g4]
   all_goals rfl
  rw [e5]
  exact answersR rfl ⟨trivial, trivial, trivial, trivial⟩ (rfl) rfl
 ·have g4 : ((readI b 0).2.2 : Int) = 0 := bne_f h4
  refine sem_skip (seqK_n (sem_seq (sem_region rfl (step_r rfl rfl trivial (step_r rfl rfl trivial (step_call rfl rfl rfl rfl (readI_ok b b_f ((readI b 0).2.1)) rfl rfl rfl (step_r rfl rfl trivial (step_r rfl rfl trivial (step_r rfl rfl trivial (step_r rfl rfl trivial (step_r rfl rfl trivial ?_)))))))))))
  refine step_r rfl rfl trivial (step_r rfl rfl trivial (step_nil (seqK_n (sem_seq (sem_region rfl (step_r rfl rfl trivial (step_r rfl rfl trivial (step_r rfl rfl trivial (step_bin rfl rfl rfl rfl rfl trivial (step_r rfl rfl trivial ?_))))))))))
  refine step_gs rfl (fun h10 => ?_) (fun h10 => ?_)
  ·have g10 : ((readI b ((readI b 0).2.1)).2.2 : Int) = 0 := beq_t h10
   refine step_g1 rfl h10 (step_r rfl rfl trivial (step_g1 rfl h10 (step_r rfl rfl trivial (step_g1 rfl h10 (step_r rfl rfl trivial (step_g1 rfl h10 (step_bin rfl rfl rfl rfl rfl trivial (step_pickT rfl h10 rfl rfl (step_r rfl rfl trivial (step_r rfl rfl trivial (step_r rfl rfl trivial ?_)))))))))))
   refine step_nil (seqK_n (sem_ret ?_))
   have e12 : pair b = ((readI b 0).1, (readI b ((readI b 0).2.1)).1, (((readI b ((readI b 0).2.1)).2.1 : Int) == b.length)) := by
    unfold pair
    try dsimp only
    rewrite [if_pos g4, if_pos g10]
    all_goals rfl
   rw [e12]
   exact answersR rfl ⟨trivial, trivial, trivial, trivial⟩ (rfl) rfl
  ·have g10 : ¬ (((readI b ((readI b 0).2.1)).2.2 : Int) = 0) := beq_f h10
   refine step_g0 rfl h10 rfl (step_g0 rfl h10 rfl (step_g0 rfl h10 rfl (step_g0 rfl h10 rfl (step_pickF rfl h10 rfl rfl (step_r rfl rfl trivial (step_r rfl rfl trivial (step_r rfl rfl trivial (step_nil (seqK_n (sem_ret ?_))))))))))
   have e13 : pair b = ((readI b 0).1, (readI b ((readI b 0).2.1)).1, false) := by
    unfold pair
    try dsimp only
    rewrite [if_pos g4, if_neg g10]
    all_goals rfl
   rw [e13]
   exact answersR rfl ⟨trivial, trivial, trivial, trivial⟩ (rfl) rfl

def decC_J28 (load : List UInt8) : Bool :=
  if (shape (IntKind.i64.wrap ((load.getD 0 default).toNat))).1 = true then true else if (shape (IntKind.i64.wrap ((load.getD 0 default).toNat))).2.1 = true then true else (((load.drop 1).length : Int) == 0)
def decC_J38 (load : List UInt8) (good_28 : Bool) : GCommand × Bool :=
  if (shape (IntKind.i64.wrap ((load.getD 0 default).toNat))).1 = true then ((⟨(IntKind.i64.wrap ((load.getD 0 default).toNat)), (load.drop 1), 0, 0⟩ : GCommand), good_28) else if (shape (IntKind.i64.wrap ((load.getD 0 default).toNat))).2.1 = true then ((⟨(IntKind.i64.wrap ((load.getD 0 default).toNat)), [], (pair (load.drop 1)).1, (pair (load.drop 1)).2.1⟩ : GCommand), (pair (load.drop 1)).2.2) else ((⟨(IntKind.i64.wrap ((load.getD 0 default).toNat)), [], 0, 0⟩ : GCommand), good_28)
def decC (load : List UInt8) : GCommand × Int :=
  if (load.length : Int) = 0 then ((⟨0, [], 0, 0⟩ : GCommand), 2) else (let good_28 := decC_J28 load; (match decC_J38 load good_28 with
    | (c_38, good_38) => if good_38 = true then (if rightC c_38 = true then (c_38, 0) else ((⟨0, [], 0, 0⟩ : GCommand), 2)) else ((⟨0, [], 0, 0⟩ : GCommand), 2)))
theorem decC_ok (load : List UInt8) (load_f : Bool) : Ok Tryd.prog 13 [.pv (.slc load.length load_f (encY load))] [] (.tup [aGCommand (decC load).1, I (decC load).2]) [] [] := by
 refine Ok.len fun hlen => ?_
 have hl_load : load.length ≤ maxLen := hlen _ (by simp [lensL, lens, lensP])
 unfold maxLen at hl_load
 refine ok_of_sem Tryd.func13 rfl ?_
 show Walks Tryd.prog _ _ ⟨[(0, .pv (.slc load.length load_f (encY load)))], [], 0, [], 61, 0⟩
 refine sem_seq (sem_region rfl (step_n (o := .box [_, _, _, _]) (nx' := 1) rfl rfl rfl trivial (step_r rfl rfl trivial (step_nil (seqK_n (sem_seq (sem_seq (sem_region rfl (step_r rfl rfl trivial (step_r rfl rfl trivial (step_bin rfl rfl rfl rfl rfl trivial ?_)))))))))))
 refine step_nil (seqK_n ?_)
 refine sem_cond rfl (fun h1 => ?_) (fun h1 => ?_)
 ·have g1 : (load.length : Int) = 0 := beq_t h1
  refine sem_seq (sem_region rfl (step_r (v := (.agg [_, _, _, _])) rfl rfl trivial ?_))
  refine step_storeB (H' := [(0, .box [_, _, _, _])]) rfl rfl rfl rfl rfl rfl (.inl rfl) rfl ?_
  refine step_r rfl rfl trivial (step_nil (seqK_n (sem_ret (seqK_r ?_))))
  have e2 : decC load = ((⟨0, [], 0, 0⟩ : GCommand), 2) := by
   unfold decC
   try dsimp only
   rewrite [if_pos g1]
   all_goals rfl
  rw [e2]
  exact answersR rfl ⟨Nat.le_of_ble_eq_true rfl, trivial, trivial⟩ (rfl) rfl
 ·have g1 : ¬ ((load.length : Int) = 0) := beq_f h1
  refine sem_skip (seqK_n (sem_seq (sem_region rfl (step_r rfl rfl trivial ?_))))
  have jk3 : 0 < load.length := by first | assumption | omega | (simp only [List.length_set, List.length_append]; omega) | (simp only [IntKind.wrap_i64] at *; omega) | (simp; omega) | simp_all
  refine step_idxS (k := 0) rfl rfl rfl rfl jk3 (encY_ne jk3) rfl (step_load_one rfl rfl rfl (encY_get (get_getD jk3)) rfl (step_r rfl rfl trivial (step_r (v := (.agg [_, _, _, _])) rfl rfl trivial (step_n (o := .box [_, _, _, _]) (nx' := 2) rfl rfl rfl trivial ?_))))
  refine step_storeB (H' := [(1, .box [_, _, _, _]), (0, _)]) rfl rfl rfl rfl rfl rfl (.inl rfl) rfl ?_
  refine step_nil (seqK_n (sem_seq (sem_region rfl (step_r rfl rfl trivial ?_))))
  refine step_slcFrom (k := 1) (n' := (load.drop 1).length) (cs' := encY (load.drop 1)) rfl rfl rfl rfl rfl (by first | omega | (simp only [IntKind.wrap_i64]; omega) | (simp; omega)) (List.length_drop ..).symm (encY_from load 1) rfl ?_
  refine step_r rfl rfl trivial (step_nil (seqK_n (sem_seq (sem_region rfl (step_r rfl rfl (by decide) (step_r rfl rfl trivial (step_call rfl rfl rfl rfl (shape_ok (IntKind.i64.wrap ((load.getD 0 default).toNat))) rfl rfl rfl (step_r rfl rfl trivial (step_r rfl rfl trivial (step_r rfl rfl trivial (step_r rfl rfl trivial ?_)))))))))))
  refine step_r rfl rfl trivial (step_r rfl rfl trivial (step_r rfl rfl trivial (step_nil (seqK_n (sem_seq ?_)))))
  refine sem_cutW (fun good_28 : Bool => (⟨[(2, .ptr 0 0), (4, .ptr 1 0), (5, .pv (.slc (load.drop 1).length load_f (encY (load.drop 1)))), (6, B (shape (IntKind.i64.wrap ((load.getD 0 default).toNat))).1), (7, B (shape (IntKind.i64.wrap ((load.getD 0 default).toNat))).2.1), (9, B good_28)], [(0, .box [I 0, .pv (.str []), I 0, I 0]), (1, .box [I (IntKind.i64.wrap ((load.getD 0 default).toNat)), .pv (.str []), I 0, I 0])], 2, [], 61, 0⟩ : St)) (fun w_ => decC_J28 load = w_) ?_ ?_
  ·refine sem_region rfl (step_r rfl rfl trivial (step_r rfl rfl trivial ?_))
   refine step_gs rfl (fun h8 => ?_) (fun h8 => ?_)
   ·have g8 : (shape (IntKind.i64.wrap ((load.getD 0 default).toNat))).1 = true := h8
    refine step_g0 rfl h8 rfl (step_pickT rfl h8 rfl rfl (step_r rfl rfl trivial (step_gf rfl rfl (step_gf rfl rfl (step_gf rfl rfl (step_r rfl rfl trivial (step_r rfl rfl trivial (step_nil ?_))))))))
    have e9 : decC_J28 load = true := by
     unfold decC_J28
     try dsimp only
     rewrite [if_pos g8]
     all_goals rfl
    exact cutW_n true e9 (Trans.ren [] (by decide +kernel) (by decide +kernel) rfl ⟨⟨rfl, rfl⟩, ⟨rfl, rfl⟩, ⟨rfl, rfl⟩, ⟨rfl, rfl⟩, ⟨rfl, rfl⟩, ⟨rfl, rfl⟩, trivial⟩ ⟨⟨rfl, rfl, rfl⟩, ⟨rfl, rfl, rfl⟩, trivial⟩ (by decide))
   ·have g8 : ¬ ((shape (IntKind.i64.wrap ((load.getD 0 default).toNat))).1 = true) := boo_f h8
    refine step_g1 rfl h8 (step_r rfl rfl trivial (step_pickF rfl h8 rfl rfl (step_r rfl rfl trivial ?_)))
    refine step_gs rfl (fun h10 => ?_) (fun h10 => ?_)
    ·have g10 : (shape (IntKind.i64.wrap ((load.getD 0 default).toNat))).2.1 = true := h10
     refine step_g0 rfl h10 rfl (step_g0 rfl h10 rfl (step_g0 rfl h10 rfl (step_pickT rfl h10 rfl rfl (step_r rfl rfl trivial (step_nil ?_)))))
     have e11 : decC_J28 load = true := by
      unfold decC_J28
      try dsimp only
      rewrite [if_neg g8, if_pos g10]
      all_goals rfl
     exact cutW_n true e11 (Trans.ren [] (by decide +kernel) (by decide +kernel) rfl ⟨⟨rfl, rfl⟩, ⟨rfl, rfl⟩, ⟨rfl, rfl⟩, ⟨rfl, rfl⟩, ⟨rfl, rfl⟩, ⟨rfl, rfl⟩, trivial⟩ ⟨⟨rfl, rfl, rfl⟩, ⟨rfl, rfl, rfl⟩, trivial⟩ (by decide))
    ·have g10 : ¬ ((shape (IntKind.i64.wrap ((load.getD 0 default).toNat))).2.1 = true) := boo_f h10
     refine step_g1 rfl h10 (step_r rfl rfl trivial (step_g1 rfl h10 (step_r rfl rfl trivial (step_g1 rfl h10 (step_bin rfl rfl rfl rfl rfl trivial (step_pickF rfl h10 rfl rfl (step_r rfl rfl trivial (step_nil ?_))))))))
     have e13 : decC_J28 load = (((load.drop 1).length : Int) == 0) := by
      unfold decC_J28
      try dsimp only
      rewrite [if_neg g8, if_neg g10]
      all_goals rfl
     exact cutW_n (((load.drop 1).length : Int) == 0) e13 (Trans.ren [] (by decide +kernel) (by decide +kernel) rfl ⟨⟨rfl, rfl⟩, ⟨rfl, rfl⟩, ⟨rfl, rfl⟩, ⟨rfl, rfl⟩, ⟨rfl, rfl⟩, ⟨rfl, rfl⟩, trivial⟩ ⟨⟨rfl, rfl, rfl⟩, ⟨rfl, rfl, rfl⟩, trivial⟩ (by decide))
  ·rintro good_28 (hJ7 : decC_J28 load = good_28)
   show seqK _ _ _ .normal (⟨[(2, .ptr 0 0), (4, .ptr 1 0), (5, .pv (.slc (load.drop 1).length load_f (encY (load.drop 1)))), (6, B (shape (IntKind.i64.wrap ((load.getD 0 default).toNat))).1), (7, B (shape (IntKind.i64.wrap ((load.getD 0 default).toNat))).2.1), (9, B good_28)], [(0, .box [I 0, .pv (.str []), I 0, I 0]), (1, .box [I (IntKind.i64.wrap ((load.getD 0 default).toNat)), .pv (.str []), I 0, I 0])], 2, [], 61, 0⟩ : St)
   refine seqK_n (sem_seq ?_)
   refine sem_cutW (fun w_ : GCommand × Bool => match w_ with | (c_38, good_38) => (⟨[(2, .ptr 0 0), (4, .ptr 1 0), (9, B good_38)], [(0, .box [I 0, .pv (.str []), I 0, I 0]), (1, .box [I c_38.Do, .pv (.str c_38.Text), I c_38.A, I c_38.B])], 2, [], 61, 0⟩ : St)) (fun w_ => decC_J38 load good_28 = w_) ?_ ?_
   ·refine sem_block (sem_seq (sem_region rfl (step_r rfl rfl trivial (step_r rfl rfl trivial (step_nil (seqK_n ?_))))))
    refine sem_cond rfl (fun h16 => ?_) (fun h16 => ?_)
    ·have g16 : (shape (IntKind.i64.wrap ((load.getD 0 default).toNat))).1 = true := h16
     refine sem_region rfl (step_r rfl rfl trivial ?_)
     refine step_cstr (l := (load.drop 1)) rfl rfl rfl rfl rfl ?_
     refine step_r rfl rfl (by decide) ?_
     refine step_storeB (H' := [(0, _), (1, .box [_, _, _, _])]) rfl rfl rfl rfl rfl rfl (.inl rfl) rfl ?_
     refine step_nil (blkK_n ?_)
     have e17 : decC_J38 load good_28 = ((⟨(IntKind.i64.wrap ((load.getD 0 default).toNat)), (load.drop 1), 0, 0⟩ : GCommand), good_28) := by
      unfold decC_J38
      try dsimp only
      rewrite [if_pos g16]
      all_goals rfl
     exact cutW_n ((⟨(IntKind.i64.wrap ((load.getD 0 default).toNat)), (load.drop 1), 0, 0⟩ : GCommand), good_28) e17 (Trans.ren [] (by decide +kernel) (by decide +kernel) rfl ⟨⟨rfl, rfl⟩, ⟨rfl, rfl⟩, ⟨rfl, rfl⟩, trivial⟩ ⟨⟨rfl, rfl, rfl⟩, ⟨rfl, rfl, rfl⟩, trivial⟩ (by decide))
    ·have g16 : ¬ ((shape (IntKind.i64.wrap ((load.getD 0 default).toNat))).1 = true) := boo_f h16
     refine sem_seq (sem_region rfl (step_r rfl rfl trivial (step_r rfl rfl trivial (step_nil (seqK_n ?_)))))
     refine sem_cond rfl (fun h19 => ?_) (fun h19 => ?_)
     ·have g19 : (shape (IntKind.i64.wrap ((load.getD 0 default).toNat))).2.1 = true := h19
      refine sem_region rfl (step_r rfl rfl trivial (step_call rfl rfl rfl rfl (pair_ok (load.drop 1) load_f) rfl rfl rfl (step_r rfl rfl trivial (step_r rfl rfl trivial (step_r rfl rfl trivial (step_r rfl rfl trivial (step_r rfl rfl (by decide) ?_)))))))
      refine step_storeB (H' := [(0, _), (1, .box [_, _, _, _])]) rfl rfl rfl rfl rfl rfl (.inl rfl) rfl ?_
      refine step_r rfl rfl (by decide) ?_
      refine step_storeB (H' := [(0, _), (1, .box [_, _, _, _])]) rfl rfl rfl rfl rfl rfl (.inl rfl) rfl ?_
      refine step_r rfl rfl trivial (step_nil (blkK_n ?_))
      have e21 : decC_J38 load good_28 = ((⟨(IntKind.i64.wrap ((load.getD 0 default).toNat)), [], (pair (load.drop 1)).1, (pair (load.drop 1)).2.1⟩ : GCommand), (pair (load.drop 1)).2.2) := by
       unfold decC_J38
       try dsimp only
       rewrite [if_neg g16, if_pos g19]
       all_goals rfl
      exact cutW_n ((⟨(IntKind.i64.wrap ((load.getD 0 default).toNat)), [], (pair (load.drop 1)).1, (pair (load.drop 1)).2.1⟩ : GCommand), (pair (load.drop 1)).2.2) e21 (Trans.ren [] (by decide +kernel) (by decide +kernel) rfl ⟨⟨rfl, rfl⟩, ⟨rfl, rfl⟩, ⟨rfl, rfl⟩, trivial⟩ ⟨⟨rfl, rfl, rfl⟩, ⟨rfl, rfl, rfl⟩, trivial⟩ (by decide))
     ·have g19 : ¬ ((shape (IntKind.i64.wrap ((load.getD 0 default).toNat))).2.1 = true) := boo_f h19
      refine sem_skip (blkK_n ?_)
      have e22 : decC_J38 load good_28 = ((⟨(IntKind.i64.wrap ((load.getD 0 default).toNat)), [], 0, 0⟩ : GCommand), good_28) := by
       unfold decC_J38
       try dsimp only
       rewrite [if_neg g16, if_neg g19]
       all_goals rfl
      exact cutW_n ((⟨(IntKind.i64.wrap ((load.getD 0 default).toNat)), [], 0, 0⟩ : GCommand), good_28) e22 (Trans.ren [] (by decide +kernel) (by decide +kernel) rfl ⟨⟨rfl, rfl⟩, ⟨rfl, rfl⟩, ⟨rfl, rfl⟩, trivial⟩ ⟨⟨rfl, rfl, rfl⟩, ⟨rfl, rfl, rfl⟩, trivial⟩ (by decide))
   ·rintro ⟨c_38, good_38⟩ (hJ14 : decC_J38 load good_28 = (c_38, good_38))
    show seqK _ _ _ .normal (⟨[(2, .ptr 0 0), (4, .ptr 1 0), (9, B good_38)], [(0, .box [I 0, .pv (.str []), I 0, I 0]), (1, .box [I c_38.Do, .pv (.str c_38.Text), I c_38.A, I c_38.B])], 2, [], 61, 0⟩ : St)
    refine seqK_n (sem_seq (sem_seq (sem_region rfl (step_r rfl rfl trivial (step_r rfl rfl trivial (step_r rfl rfl trivial ?_))))))
    refine step_gs rfl (fun h25 => ?_) (fun h25 => ?_)
    ·have g25 : ¬ (good_38 = true) := boo_f (not_t h25)
     refine step_g0 rfl h25 rfl (step_g0 rfl h25 rfl (step_g0 rfl h25 rfl (step_pickT rfl h25 rfl rfl (step_nil (seqK_n (sem_condT rfl (sem_seq (sem_region rfl (step_r (v := (.agg [_, _, _, _])) rfl rfl trivial ?_)))))))))
     refine step_storeB (H' := [(0, .box [_, _, _, _]), (1, _)]) rfl rfl rfl rfl rfl rfl (.inl rfl) rfl ?_
     refine step_r rfl rfl trivial (step_nil (seqK_n (sem_ret (seqK_r ?_))))
     have e26 : decC load = ((⟨0, [], 0, 0⟩ : GCommand), 2) := by
      unfold decC
      try dsimp only
      rewrite [if_neg g1, hJ7]
      try dsimp only
      rewrite [hJ14]
      try dsimp only
      rewrite [if_neg g25]
      all_goals rfl
     rw [e26]
     exact answersR rfl ⟨Nat.le_of_ble_eq_true rfl, trivial, trivial⟩ (rfl) rfl
    ·have g25 : good_38 = true := (not_f h25)
     refine step_g1 rfl h25 (step_r (v := (.agg [_, _, _, _])) rfl rfl (Nat.le_of_ble_eq_true rfl) (step_g1 rfl h25 (step_call rfl rfl rfl rfl (rightC_ok c_38) rfl rfl rfl (step_g1 rfl h25 (step_r rfl rfl trivial (step_pickF rfl h25 rfl rfl (step_nil (seqK_n ?_))))))))
     refine sem_cond rfl (fun h28 => ?_) (fun h28 => ?_)
     ·have g28 : ¬ (rightC c_38 = true) := boo_f (not_t h28)
      refine sem_seq (sem_region rfl (step_r (v := (.agg [_, _, _, _])) rfl rfl trivial ?_))
      refine step_storeB (H' := [(0, .box [_, _, _, _]), (1, _)]) rfl rfl rfl rfl rfl rfl (.inl rfl) rfl ?_
      refine step_r rfl rfl trivial (step_nil (seqK_n (sem_ret (seqK_r ?_))))
      have e29 : decC load = ((⟨0, [], 0, 0⟩ : GCommand), 2) := by
       unfold decC
       try dsimp only
       rewrite [if_neg g1, hJ7]
       try dsimp only
       rewrite [hJ14]
       try dsimp only
       rewrite [if_pos g25, if_neg g28]
       all_goals rfl
      rw [e29]
      exact answersR rfl ⟨Nat.le_of_ble_eq_true rfl, trivial, trivial⟩ (rfl) rfl
     ·have g28 : rightC c_38 = true := (not_f h28)
      have qg28 := rightC_len g28
      refine sem_skip (seqK_n (sem_seq (sem_region rfl (step_r (v := (.agg [_, _, _, _])) rfl rfl (Nat.le_of_ble_eq_true rfl) ?_))))
      refine step_storeB (H' := [(0, .box [_, _, _, _]), (1, _)]) rfl rfl rfl rfl rfl rfl (.inl rfl) rfl ?_
      refine step_r rfl rfl trivial (step_nil (seqK_n (sem_ret ?_)))
      have e30 : decC load = (c_38, 0) := by
       unfold decC
       try dsimp only
       rewrite [if_neg g1, hJ7]
       try dsimp only
       rewrite [hJ14]
       try dsimp only
       rewrite [if_pos g25, if_pos g28]
       all_goals rfl
      rw [e30]
      exact answersR rfl ⟨Nat.le_of_ble_eq_true rfl, trivial, trivial⟩ (rfl) rfl

def decR_J22 (load : List UInt8) : GCommand :=
  if (IntKind.i64.wrap ((load.getD 0 default).toNat) : Int) = 1 then (⟨(IntKind.i64.wrap ((load.getD 0 default).toNat)), (load.drop 1), 0, 0⟩ : GCommand) else (⟨(IntKind.i64.wrap ((load.getD 0 default).toNat)), [], 0, 0⟩ : GCommand)
def decR_J29 (load : List UInt8) (c_22 : GCommand) : GCommand :=
  if two c_22.Do = true then (⟨c_22.Do, c_22.Text, (readRI load 1).1, (readRI load ((readRI load 1).2.1)).1⟩ : GCommand) else c_22
def decR (load : List UInt8) : GCommand × Int :=
  if (load.length : Int) = 0 then ((⟨0, [], 0, 0⟩ : GCommand), 2) else (let c_22 := decR_J22 load; (let c_29 := decR_J29 load c_22; if ((encR c_29).2 : Int) = 0 then (if ((encR c_29).1) = load then (c_29, 0) else ((⟨0, [], 0, 0⟩ : GCommand), 2)) else ((⟨0, [], 0, 0⟩ : GCommand), 2)))
theorem decR_ok (load : List UInt8) (load_f : Bool) (hl : load.length ≤ 2048) : Ok Tryd.prog 14 [.pv (.slc load.length load_f (encY load))] [] (.tup [aGCommand (decR load).1, I (decR load).2]) [] [] := by
 refine Ok.len fun hlen => ?_
 have hl_load : load.length ≤ maxLen := hlen _ (by simp [lensL, lens, lensP])
 unfold maxLen at hl_load
 refine ok_of_sem Tryd.func14 rfl ?_
 show Walks Tryd.prog _ _ ⟨[(0, .pv (.slc load.length load_f (encY load)))], [], 0, [], 65, 0⟩
 refine sem_seq (sem_region rfl (step_n (o := .box [_, _, _, _]) (nx' := 1) rfl rfl rfl trivial (step_r rfl rfl trivial (step_nil (seqK_n (sem_seq (sem_seq (sem_region rfl (step_r rfl rfl trivial (step_r rfl rfl trivial (step_bin rfl rfl rfl rfl rfl trivial ?_)))))))))))
 refine step_nil (seqK_n ?_)
 refine sem_cond rfl (fun h1 => ?_) (fun h1 => ?_)
 ·have g1 : (load.length : Int) = 0 := beq_t h1
  refine sem_seq (sem_region rfl (step_r (v := (.agg [_, _, _, _])) rfl rfl trivial ?_))
  refine step_storeB (H' := [(0, .box [_, _, _, _])]) rfl rfl rfl rfl rfl rfl (.inl rfl) rfl ?_
  refine step_r rfl rfl trivial (step_nil (seqK_n (sem_ret (seqK_r ?_))))
  have e2 : decR load = ((⟨0, [], 0, 0⟩ : GCommand), 2) := by
   unfold decR
   try dsimp only
   rewrite [if_pos g1]
   all_goals rfl
  rw [e2]
  exact answersR rfl ⟨Nat.le_of_ble_eq_true rfl, trivial, trivial⟩ (rfl) rfl
 ·have g1 : ¬ ((load.length : Int) = 0) := beq_f h1
  refine sem_skip (seqK_n (sem_seq (sem_region rfl (step_r rfl rfl trivial ?_))))
  have jk3 : 0 < load.length := by first | assumption | omega | (simp only [List.length_set, List.length_append]; omega) | (simp only [IntKind.wrap_i64] at *; omega) | (simp; omega) | simp_all
  refine step_idxS (k := 0) rfl rfl rfl rfl jk3 (encY_ne jk3) rfl (step_load_one rfl rfl rfl (encY_get (get_getD jk3)) rfl (step_r rfl rfl trivial (step_r (v := (.agg [_, _, _, _])) rfl rfl trivial (step_n (o := .box [_, _, _, _]) (nx' := 2) rfl rfl rfl trivial ?_))))
  refine step_storeB (H' := [(1, .box [_, _, _, _]), (0, _)]) rfl rfl rfl rfl rfl rfl (.inl rfl) rfl ?_
  refine step_nil (seqK_n (sem_seq ?_))
  refine sem_cutW (fun c_22 : GCommand => (⟨[(0, .pv (.slc load.length load_f (encY load))), (2, .ptr 0 0), (4, .ptr 1 0)], [(0, .box [I 0, .pv (.str []), I 0, I 0]), (1, .box [I c_22.Do, .pv (.str c_22.Text), I c_22.A, I c_22.B])], 2, [], 65, 0⟩ : St)) (fun c_22 : GCommand => decR_J22 load = c_22 ∧ (c_22.Text.length ≤ 9223372036854775807)) ?_ ?_
  ·refine sem_seq (sem_region rfl (step_r rfl rfl (by decide) (step_r rfl rfl trivial (step_bin rfl rfl rfl rfl rfl trivial (step_nil (seqK_n ?_))))))
   refine sem_cond rfl (fun h5 => ?_) (fun h5 => ?_)
   ·have g5 : (IntKind.i64.wrap ((load.getD 0 default).toNat) : Int) = 1 := beq_t h5
    refine sem_region rfl (step_r rfl rfl trivial ?_)
    refine step_slcFrom (k := 1) (n' := (load.drop 1).length) (cs' := encY (load.drop 1)) rfl rfl rfl rfl rfl (by first | omega | (simp only [IntKind.wrap_i64]; omega) | (simp; omega)) (List.length_drop ..).symm (encY_from load 1) rfl ?_
    refine step_cstr (l := (load.drop 1)) rfl rfl rfl rfl rfl ?_
    refine step_r rfl rfl (by decide) ?_
    refine step_storeB (H' := [(1, .box [_, _, _, _]), (0, _)]) rfl rfl rfl rfl rfl rfl (.inl rfl) rfl ?_
    refine step_nil ?_
    have e6 : decR_J22 load = (⟨(IntKind.i64.wrap ((load.getD 0 default).toNat)), (load.drop 1), 0, 0⟩ : GCommand) := by
     unfold decR_J22
     try dsimp only
     rewrite [if_pos g5]
     all_goals rfl
    exact cutW_n (⟨(IntKind.i64.wrap ((load.getD 0 default).toNat)), (load.drop 1), 0, 0⟩ : GCommand) ⟨e6, by first | assumption | omega | (simp; omega) | simp_all | grind⟩ (Trans.ren [] (by decide +kernel) (by decide +kernel) rfl ⟨⟨rfl, rfl⟩, ⟨rfl, rfl⟩, ⟨rfl, rfl⟩, trivial⟩ ⟨⟨rfl, rfl, rfl⟩, ⟨rfl, rfl, rfl⟩, trivial⟩ (by decide))
   ·have g5 : ¬ ((IntKind.i64.wrap ((load.getD 0 default).toNat) : Int) = 1) := beq_f h5
    refine sem_skip ?_
    have e7 : decR_J22 load = (⟨(IntKind.i64.wrap ((load.getD 0 default).toNat)), [], 0, 0⟩ : GCommand) := by
     unfold decR_J22
     try dsimp only
     rewrite [if_neg g5]
     all_goals rfl
    exact cutW_n (⟨(IntKind.i64.wrap ((load.getD 0 default).toNat)), [], 0, 0⟩ : GCommand) ⟨e7, by first | assumption | omega | (simp; omega) | simp_all | grind⟩ (Trans.ren [] (by decide +kernel) (by decide +kernel) rfl ⟨⟨rfl, rfl⟩, ⟨rfl, rfl⟩, ⟨rfl, rfl⟩, trivial⟩ ⟨⟨rfl, rfl, rfl⟩, ⟨rfl, rfl, rfl⟩, trivial⟩ (by decide))
  ·rintro c_22 ⟨(hJ4 : decR_J22 load = c_22), hK22⟩
   show seqK _ _ _ .normal (⟨[(0, .pv (.slc load.length load_f (encY load))), (2, .ptr 0 0), (4, .ptr 1 0)], [(0, .box [I 0, .pv (.str []), I 0, I 0]), (1, .box [I c_22.Do, .pv (.str c_22.Text), I c_22.A, I c_22.B])], 2, [], 65, 0⟩ : St)
   refine seqK_n (sem_seq ?_)
   refine sem_cutW (fun c_29 : GCommand => (⟨[(0, .pv (.slc load.length load_f (encY load))), (2, .ptr 0 0), (4, .ptr 1 0)], [(0, .box [I 0, .pv (.str []), I 0, I 0]), (1, .box [I c_29.Do, .pv (.str c_29.Text), I c_29.A, I c_29.B])], 2, [], 65, 0⟩ : St)) (fun c_29 : GCommand => decR_J29 load c_22 = c_29 ∧ (c_29.Text.length ≤ 9223372036854775807)) ?_ ?_
   ·refine sem_seq (sem_region rfl (step_r rfl rfl (by decide) (step_r rfl rfl trivial (step_call rfl rfl rfl rfl (two_ok c_22.Do) rfl rfl rfl (step_nil (seqK_n ?_))))))
    refine sem_cond rfl (fun h9 => ?_) (fun h9 => ?_)
    ·have g9 : two c_22.Do = true := h9
     refine sem_seq (sem_region rfl (step_r rfl rfl trivial (step_call rfl rfl rfl rfl (readRI_ok load load_f 1) rfl rfl rfl (step_r rfl rfl trivial (step_r rfl rfl trivial (step_r rfl rfl trivial (step_r rfl rfl trivial (step_r rfl rfl trivial (step_r rfl rfl trivial (step_r rfl rfl trivial (step_nil ?_)))))))))))
     refine seqK_n (sem_seq (sem_region rfl (step_r rfl rfl trivial (step_r rfl rfl trivial (step_call rfl rfl rfl rfl (readRI_ok load load_f ((readRI load 1).2.1)) rfl rfl rfl (step_r rfl rfl trivial (step_r rfl rfl trivial (step_r rfl rfl trivial (step_r rfl rfl trivial (step_r rfl rfl trivial (step_r rfl rfl trivial ?_)))))))))))
     refine step_r rfl rfl trivial (step_nil (seqK_n (sem_seq (sem_region rfl (step_r rfl rfl trivial (step_r rfl rfl (by decide) ?_))))))
     refine step_storeB (H' := [(0, _), (1, .box [_, _, _, _])]) rfl rfl rfl rfl rfl rfl (.inl rfl) rfl ?_
     refine step_nil (seqK_n (sem_region rfl (step_r rfl rfl trivial (step_r rfl rfl (by decide) ?_))))
     refine step_storeB (H' := [(0, _), (1, .box [_, _, _, _])]) rfl rfl rfl rfl rfl rfl (.inl rfl) rfl ?_
     refine step_nil ?_
     have e16 : decR_J29 load c_22 = (⟨c_22.Do, c_22.Text, (readRI load 1).1, (readRI load ((readRI load 1).2.1)).1⟩ : GCommand) := by
      unfold decR_J29
      try dsimp only
      rewrite [if_pos g9]
      all_goals rfl
     exact cutW_n (⟨c_22.Do, c_22.Text, (readRI load 1).1, (readRI load ((readRI load 1).2.1)).1⟩ : GCommand) ⟨e16, by first | assumption | omega | (simp; omega) | simp_all | grind⟩ (Trans.ren [] (by decide +kernel) (by decide +kernel) rfl ⟨⟨rfl, rfl⟩, ⟨rfl, rfl⟩, ⟨rfl, rfl⟩, trivial⟩ ⟨⟨rfl, rfl, rfl⟩, ⟨rfl, rfl, rfl⟩, trivial⟩ (by decide))
    ·have g9 : ¬ (two c_22.Do = true) := boo_f h9
     refine sem_skip ?_
     have e17 : decR_J29 load c_22 = c_22 := by
      unfold decR_J29
      try dsimp only
      rewrite [if_neg g9]
      all_goals rfl
     exact cutW_n c_22 ⟨e17, by first | assumption | omega | (simp; omega) | simp_all | grind⟩ (Trans.ren [] (by decide +kernel) (by decide +kernel) rfl ⟨⟨rfl, rfl⟩, ⟨rfl, rfl⟩, ⟨rfl, rfl⟩, trivial⟩ ⟨⟨rfl, rfl, rfl⟩, ⟨rfl, rfl, rfl⟩, trivial⟩ (by decide))
   ·rintro c_29 ⟨(hJ8 : decR_J29 load c_22 = c_29), hK29⟩
    show seqK _ _ _ .normal (⟨[(0, .pv (.slc load.length load_f (encY load))), (2, .ptr 0 0), (4, .ptr 1 0)], [(0, .box [I 0, .pv (.str []), I 0, I 0]), (1, .box [I c_29.Do, .pv (.str c_29.Text), I c_29.A, I c_29.B])], 2, [], 65, 0⟩ : St)
    refine seqK_n (sem_seq (sem_region rfl (step_r (v := (.agg [_, _, _, _])) rfl rfl (Nat.le_of_ble_eq_true rfl) ?_)))
    refine step_callN (out' := .tup [.ref 2 _ _ _, _]) (H' := [(2, .row _ _ _), (0, _), (1, _)]) (nx' := 3) rfl rfl rfl rfl rfl rfl rfl (by (repeat' apply And.intro) <;> first | trivial | rfl | exact flat_len (fun _ => rfl) _ | exact encI_len _ | exact encB_len _ | exact encY_len _ | exact Nat.le_of_ble_eq_true rfl | assumption) (encR_ok c_29 (by first | assumption | omega | (simp only [IntKind.wrap_i64] at *; omega) | (simp; omega))) rfl rfl rfl rfl ?_
    refine step_r rfl rfl trivial (step_r rfl rfl trivial (step_r rfl rfl trivial (step_r rfl rfl trivial (step_r rfl rfl trivial (step_nil (seqK_n (sem_seq (sem_seq (sem_region rfl (step_r rfl rfl trivial (step_bin rfl rfl rfl rfl rfl trivial ?_)))))))))))
    refine step_r rfl rfl trivial ?_
    refine step_gs rfl (fun h20 => ?_) (fun h20 => ?_)
    ·have g20 : ¬ (((encR c_29).2 : Int) = 0) := bne_t h20
     refine step_g0 rfl h20 rfl (step_g0 rfl h20 rfl (step_g0 rfl h20 rfl (step_g0 rfl h20 rfl (step_g0 rfl h20 rfl (step_pickT rfl h20 rfl rfl (step_nil (seqK_n (sem_condT rfl (sem_seq (sem_region rfl (step_r (v := (.agg [_, _, _, _])) rfl rfl trivial ?_)))))))))))
     refine step_storeB (H' := [(2, _), (0, .box [_, _, _, _]), (1, _)]) rfl rfl rfl rfl rfl rfl (.inl rfl) rfl ?_
     refine step_r rfl rfl trivial (step_nil (seqK_n (sem_ret (seqK_r ?_))))
     have e21 : decR load = ((⟨0, [], 0, 0⟩ : GCommand), 2) := by
      unfold decR
      try dsimp only
      rewrite [if_neg g1, hJ4]
      try dsimp only
      rewrite [hJ8]
      try dsimp only
      rewrite [if_neg g20]
      all_goals rfl
     rw [e21]
     exact answersR rfl ⟨Nat.le_of_ble_eq_true rfl, trivial, trivial⟩ (rfl) rfl
    ·have g20 : ((encR c_29).2 : Int) = 0 := bne_f h20
     refine step_g1 rfl h20 (step_r rfl rfl trivial (step_g1 rfl h20 ?_))
     refine step_cstrR (l := (encR c_29).1) rfl rfl rfl rfl rfl rfl ?_
     refine step_g1 rfl h20 (step_r rfl rfl trivial (step_g1 rfl h20 ?_))
     refine step_cstr (l := load) rfl rfl rfl rfl rfl ?_
     refine step_g1 rfl h20 (step_bin rfl rfl rfl rfl rfl trivial (step_pickF rfl h20 rfl rfl (step_nil (seqK_n ?_))))
     refine sem_cond rfl (fun h23 => ?_) (fun h23 => ?_)
     ·have g23 : ¬ (((encR c_29).1) = load) := beq_f (not_t h23)
      refine sem_seq (sem_region rfl (step_r (v := (.agg [_, _, _, _])) rfl rfl trivial ?_))
      refine step_storeB (H' := [(2, _), (0, .box [_, _, _, _]), (1, _)]) rfl rfl rfl rfl rfl rfl (.inl rfl) rfl ?_
      refine step_r rfl rfl trivial (step_nil (seqK_n (sem_ret (seqK_r ?_))))
      have e24 : decR load = ((⟨0, [], 0, 0⟩ : GCommand), 2) := by
       unfold decR
       try dsimp only
       rewrite [if_neg g1, hJ4]
       try dsimp only
       rewrite [hJ8]
       try dsimp only
       rewrite [if_pos g20, if_neg g23]
       all_goals rfl
      rw [e24]
      exact answersR rfl ⟨Nat.le_of_ble_eq_true rfl, trivial, trivial⟩ (rfl) rfl
     ·have g23 : ((encR c_29).1) = load := beq_t (not_f h23)
      refine sem_skip (seqK_n (sem_seq (sem_region rfl (step_r (v := (.agg [_, _, _, _])) rfl rfl (Nat.le_of_ble_eq_true rfl) ?_))))
      refine step_storeB (H' := [(2, _), (0, .box [_, _, _, _]), (1, _)]) rfl rfl rfl rfl rfl rfl (.inl rfl) rfl ?_
      refine step_r rfl rfl trivial (step_nil (seqK_n (sem_ret ?_)))
      have e25 : decR load = (c_29, 0) := by
       unfold decR
       try dsimp only
       rewrite [if_neg g1, hJ4]
       try dsimp only
       rewrite [hJ8]
       try dsimp only
       rewrite [if_pos g20, if_pos g23]
       all_goals rfl
      rw [e25]
      exact answersR rfl ⟨Nat.le_of_ble_eq_true rfl, trivial, trivial⟩ (rfl) rfl
end Go.Proofs.YtghnjjbhcmcocaaDoor

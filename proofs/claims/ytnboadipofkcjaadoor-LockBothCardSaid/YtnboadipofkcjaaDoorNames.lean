import Derived.Test.YtnboadipofkcjaaDoorTrim
namespace Go.Proofs.YtnboadipofkcjaaDoor
open Go Go.RowKit Go.Proofs.YtnboadipofkcjaaDoorVm
attribute [local irreducible] opsWp AnswersE OpsS
set_option maxHeartbeats 400000
set_option maxRecDepth 100000
set_option linter.all false
def nameC (s : List UInt8) : Bool :=
  if s = ([]) then false else if (s.length : Int) ≤ 24 then ((trim s) == ([])) else false
theorem nameC_ok (s : List UInt8) : Ok Tryd.prog 24 [.pv (.str s)] [] (B (nameC s)) [] [] := by
 refine ok_of_sem Tryd.func24 rfl ?_
 show Walks Tryd.prog _ _ ⟨[(0, .pv (.str s))], [], 0, [], 15, 0⟩
 refine sem_seq (sem_region rfl (step_r rfl rfl trivial (step_nil (seqK_n (sem_seq (sem_region rfl (step_r rfl rfl trivial (step_bin rfl rfl rfl rfl rfl trivial (step_r rfl rfl trivial ?_)))))))))
 refine step_gs rfl (fun h3 => ?_) (fun h3 => ?_)
 ·have g3 : ¬ (s = ([])) := beq_f (not_t h3)
  refine step_g1 rfl h3 (step_r rfl rfl trivial (step_g1 rfl h3 (step_r rfl rfl trivial (step_g1 rfl h3 (step_bin rfl rfl rfl rfl rfl trivial (step_pickT rfl h3 rfl rfl (step_r rfl rfl trivial ?_)))))))
  refine step_gs rfl (fun h5 => ?_) (fun h5 => ?_)
  ·have g5 : (s.length : Int) ≤ 24 := of_decide_eq_true h5
   refine step_g1 rfl h5 (step_r rfl rfl trivial (step_g1 rfl h5 (step_call rfl rfl rfl rfl (trim_ok s (by first | assumption | omega | (simp only [decide_eq_true_eq] at *; omega))) rfl rfl rfl (step_g1 rfl h5 (step_bin rfl rfl rfl rfl rfl trivial (step_pickT rfl h5 rfl rfl (step_r rfl rfl trivial (step_nil (seqK_n (sem_ret ?_))))))))))
   have e7 : nameC s = ((trim s) == ([])) := by
    unfold nameC
    try dsimp only
    rewrite [if_neg g3, if_pos g5]
    all_goals rfl
   rw [e7]
   exact answersR rfl ⟨trivial, trivial⟩ (rfl) rfl
  ·have g5 : ¬ ((s.length : Int) ≤ 24) := of_decide_eq_false h5
   refine step_g0 rfl h5 rfl (step_g0 rfl h5 rfl (step_g0 rfl h5 rfl (step_pickF rfl h5 rfl rfl (step_r rfl rfl trivial (step_nil (seqK_n (sem_ret ?_)))))))
   have e8 : nameC s = false := by
    unfold nameC
    try dsimp only
    rewrite [if_neg g3, if_neg g5]
    all_goals rfl
   rw [e8]
   exact answersR rfl ⟨trivial, trivial⟩ (rfl) rfl
 ·have g3 : s = ([]) := beq_t (not_f h3)
  refine step_g0 rfl h3 rfl (step_g0 rfl h3 rfl (step_g0 rfl h3 rfl (step_pickF rfl h3 rfl rfl (step_r rfl rfl trivial (step_gf rfl rfl (step_gf rfl rfl (step_gf rfl rfl (step_r rfl rfl trivial (step_r rfl rfl trivial (step_nil (seqK_n ?_)))))))))))
  refine sem_ret ?_
  have e9 : nameC s = false := by
   unfold nameC
   try dsimp only
   rewrite [if_pos g3]
   all_goals rfl
  rw [e9]
  exact answersR rfl ⟨trivial, trivial⟩ (rfl) rfl

def nameR_L0 (s : List UInt8) : Nat → Nat → Sum Bool Unit
  | 0, k0 => .inr ()
  | n_ + 1, k0 => if ((s.getD k0 0).toNat : Int) = 45 then nameR_L0 s n_ (k0 + 1) else if ((s.getD k0 0).toNat : Int) < 48 then (if ((s.getD k0 0).toNat : Int) < 65 then (if ((s.getD k0 0).toNat : Int) < 97 then .inl false else if ((s.getD k0 0).toNat : Int) > 122 then .inl false else nameR_L0 s n_ (k0 + 1)) else if ((s.getD k0 0).toNat : Int) > 90 then (if ((s.getD k0 0).toNat : Int) < 97 then .inl false else if ((s.getD k0 0).toNat : Int) > 122 then .inl false else nameR_L0 s n_ (k0 + 1)) else nameR_L0 s n_ (k0 + 1)) else if ((s.getD k0 0).toNat : Int) > 57 then (if ((s.getD k0 0).toNat : Int) < 65 then (if ((s.getD k0 0).toNat : Int) < 97 then .inl false else if ((s.getD k0 0).toNat : Int) > 122 then .inl false else nameR_L0 s n_ (k0 + 1)) else if ((s.getD k0 0).toNat : Int) > 90 then (if ((s.getD k0 0).toNat : Int) < 97 then .inl false else if ((s.getD k0 0).toNat : Int) > 122 then .inl false else nameR_L0 s n_ (k0 + 1)) else nameR_L0 s n_ (k0 + 1)) else nameR_L0 s n_ (k0 + 1)
def nameR (s : List UInt8) : Bool :=
  (match nameR_L0 s (s.length - 0) 0 with
    | .inl r_ => r_
    | .inr () => if (s.length : Int) ≥ 1 then (decide ((s.length : Int) ≤ 24)) else false)
theorem nameR_ok (s : List UInt8) (hs : s.length ≤ 9223372036854775807) : Ok Tryd.prog 33 [.pv (.str s)] [] (B (nameR s)) [] [] := by
 refine ok_of_sem Tryd.func33 rfl ?_
 show Walks Tryd.prog _ _ ⟨[(0, .pv (.str s))], [], 0, [], 48, 0⟩
 refine sem_seq (sem_region rfl (step_r rfl rfl trivial (step_nil (seqK_n (sem_seq (sem_seq (sem_region rfl (step_r rfl rfl trivial (step_nil (seqK_n ?_))))))))))
 refine sem_cutW (fun w_ : Unit => match w_ with | () => (⟨[(0, .pv (.str s))], [], 0, [], 48, 0⟩ : St)) (fun w_ => nameR_L0 s (s.length - 0) 0 = .inr w_) ?_ ?_
 ·refine sem_block ?_
  refine sem_loopT (fun k0 : Nat => (⟨[(0, .pv (.str s)), (3, I k0)], [], 0, [], 48, 0⟩ : St)) (fun k0 : Nat => nameR_L0 s (s.length - k0) k0 = nameR_L0 s (s.length - 0) 0 ∧ k0 ≤ s.length) (fun k0 : Nat => s.length - k0) 0 (⟨rfl, (by first | omega | (simp; omega))⟩) ?_ (fun k0 hh_ => ?_)
  ·exact (Trans.ren [] (by decide +kernel) (by decide +kernel) rfl ⟨⟨rfl, rfl⟩, ⟨rfl, rfl⟩, trivial⟩ trivial (by decide))
  obtain ⟨hI0, hb0⟩ := hh_
  show Walks Tryd.prog _ _ (⟨[(0, .pv (.str s)), (3, I k0)], [], 0, [], 48, 0⟩ : St)
  refine sem_seq (sem_seq (sem_region rfl (step_r rfl rfl trivial (step_r rfl rfl trivial (step_r rfl rfl trivial (step_bin rfl rfl rfl rfl rfl trivial (step_nil (seqK_n ?_))))))))
  refine sem_cond rfl (fun h4 => ?_) (fun h4 => ?_)
  ·have g4 : (k0 : Int) < s.length := of_decide_eq_true h4
   have hm0 : s.length - k0 = (s.length - (k0 + 1)) + 1 := by omega
   refine sem_skip (seqK_n (sem_seq (sem_block (sem_seq (sem_region rfl (step_r rfl rfl trivial (step_r rfl rfl trivial ?_)))))))
   refine step_idxStr (k := k0) rfl rfl rfl rfl (by first | assumption | omega | (simp only [IntKind.wrap_i64]; omega) | (simp only [IntKind.wrap_i64] at *; omega) | (simp; omega)) rfl ?_
   refine step_r rfl rfl trivial (step_nil (seqK_n (sem_seq (sem_region rfl (step_r rfl rfl trivial (step_bin rfl rfl rfl rfl rfl trivial (step_r rfl rfl trivial ?_)))))))
   refine step_gs rfl (fun h7 => ?_) (fun h7 => ?_)
   ·have g7 : ¬ (((s.getD k0 0).toNat : Int) = 45) := bne_t h7
    refine step_g1 rfl h7 (step_r rfl rfl trivial (step_g1 rfl h7 (step_bin rfl rfl rfl rfl rfl trivial (step_g1 rfl h7 (step_r rfl rfl trivial ?_)))))
    refine step_gs rfl (fun h9 => ?_) (fun h9 => ?_)
    ·have g9 : ((s.getD k0 0).toNat : Int) < 48 := of_decide_eq_true h9
     refine step_g0 rfl h9 rfl (step_g0 rfl h9 rfl (step_g1 rfl h7 (step_pickT rfl h9 rfl rfl (step_pickT rfl h7 rfl rfl (step_r rfl rfl trivial (step_gt rfl (step_r rfl rfl trivial (step_gt rfl (step_bin rfl rfl rfl rfl rfl trivial (step_gt rfl (step_r rfl rfl trivial ?_)))))))))))
     refine step_gs rfl (fun h11 => ?_) (fun h11 => ?_)
     ·have g11 : ((s.getD k0 0).toNat : Int) < 65 := of_decide_eq_true h11
      refine step_g0 rfl h11 rfl (step_g0 rfl h11 rfl (step_gt rfl (step_pickT rfl h11 rfl rfl (step_r rfl rfl trivial (step_r rfl rfl trivial (step_gt rfl (step_r rfl rfl trivial (step_gt rfl (step_bin rfl rfl rfl rfl rfl trivial (step_gt rfl (step_r rfl rfl trivial ?_)))))))))))
      refine step_gs rfl (fun h13 => ?_) (fun h13 => ?_)
      ·have g13 : ((s.getD k0 0).toNat : Int) < 97 := of_decide_eq_true h13
       refine step_g0 rfl h13 rfl (step_g0 rfl h13 rfl (step_gt rfl (step_pickT rfl h13 rfl rfl (step_r rfl rfl trivial (step_nil (seqK_n (sem_condT rfl (sem_seq (sem_region rfl (step_r rfl rfl trivial (step_nil ?_)))))))))))
       refine seqK_n (sem_ret (blkK_r (seqK_r (lupK_r (blkK_r (cutW_r (seqK_r ?_)))))))
       have e14 : nameR_L0 s (s.length - 0) 0 = .inl false := by
        rewrite [← hI0, hm0]
        rewrite [nameR_L0]
        try dsimp only
        rewrite [if_neg g7, if_pos g9, if_pos g11, if_pos g13]
        all_goals rfl
       have e15 : nameR s = false := by
        unfold nameR
        try dsimp only
        rewrite [e14]
        try dsimp only
        all_goals rfl
       rw [e15]
       exact answersR rfl ⟨trivial, trivial⟩ (rfl) rfl
      ·have g13 : ¬ (((s.getD k0 0).toNat : Int) < 97) := of_decide_eq_false h13
       refine step_g1 rfl h13 (step_r rfl rfl trivial (step_g1 rfl h13 (step_bin rfl rfl rfl rfl rfl trivial (step_gt rfl (step_pickF rfl h13 rfl rfl (step_r rfl rfl trivial (step_nil (seqK_n ?_))))))))
       refine sem_cond rfl (fun h17 => ?_) (fun h17 => ?_)
       ·have g17 : ((s.getD k0 0).toNat : Int) > 122 := of_decide_eq_true h17
        refine sem_seq (sem_region rfl (step_r rfl rfl trivial (step_nil (seqK_n (sem_ret (blkK_r (seqK_r (lupK_r (blkK_r (cutW_r (seqK_r ?_)))))))))))
        have e18 : nameR_L0 s (s.length - 0) 0 = .inl false := by
         rewrite [← hI0, hm0]
         rewrite [nameR_L0]
         try dsimp only
         rewrite [if_neg g7, if_pos g9, if_pos g11, if_neg g13, if_pos g17]
         all_goals rfl
        have e19 : nameR s = false := by
         unfold nameR
         try dsimp only
         rewrite [e18]
         try dsimp only
         all_goals rfl
        rw [e19]
        exact answersR rfl ⟨trivial, trivial⟩ (rfl) rfl
       ·have g17 : ¬ (((s.getD k0 0).toNat : Int) > 122) := of_decide_eq_false h17
        refine sem_skip (blkK_n (seqK_n (sem_region rfl (step_r rfl rfl trivial (step_bin rfl rfl rfl rfl rfl trivial (step_r rfl rfl trivial (step_nil ?_)))))))
        have e21 : nameR_L0 s (s.length - k0) k0 = nameR_L0 s (s.length - (k0 + 1)) (k0 + 1) := by
         rewrite [hm0]
         rewrite [nameR_L0]
         try dsimp only
         rewrite [if_neg g7, if_pos g9, if_pos g11, if_neg g13, if_neg g17]
         all_goals rfl
        exact lup_againT (k0 + 1) ⟨e21.symm.trans hI0, (by omega)⟩ (by show s.length - (k0 + 1) < s.length - k0; omega) (Trans.ren [] (by decide +kernel) (by decide +kernel) rfl ⟨⟨rfl, rfl⟩, ⟨congrArg (fun n => some (I n)) (wrapI (k := k0) (by first | omega | (simp; omega))), rfl⟩, trivial⟩ trivial (by decide))
     ·have g11 : ¬ (((s.getD k0 0).toNat : Int) < 65) := of_decide_eq_false h11
      refine step_g1 rfl h11 (step_r rfl rfl trivial (step_g1 rfl h11 (step_bin rfl rfl rfl rfl rfl trivial (step_gt rfl (step_pickF rfl h11 rfl rfl (step_r rfl rfl trivial (step_r rfl rfl trivial ?_)))))))
      refine step_gs rfl (fun h23 => ?_) (fun h23 => ?_)
      ·have g23 : ((s.getD k0 0).toNat : Int) > 90 := of_decide_eq_true h23
       refine step_g1 rfl h23 (step_r rfl rfl trivial (step_g1 rfl h23 (step_bin rfl rfl rfl rfl rfl trivial (step_g1 rfl h23 (step_r rfl rfl trivial ?_)))))
       refine step_gs rfl (fun h25 => ?_) (fun h25 => ?_)
       ·have g25 : ((s.getD k0 0).toNat : Int) < 97 := of_decide_eq_true h25
        refine step_g0 rfl h25 rfl (step_g0 rfl h25 rfl (step_g1 rfl h23 (step_pickT rfl h25 rfl rfl (step_pickT rfl h23 rfl rfl (step_nil (seqK_n (sem_condT rfl (sem_seq (sem_region rfl (step_r rfl rfl trivial (step_nil ?_)))))))))))
        refine seqK_n (sem_ret (blkK_r (seqK_r (lupK_r (blkK_r (cutW_r (seqK_r ?_)))))))
        have e26 : nameR_L0 s (s.length - 0) 0 = .inl false := by
         rewrite [← hI0, hm0]
         rewrite [nameR_L0]
         try dsimp only
         rewrite [if_neg g7, if_pos g9, if_neg g11, if_pos g23, if_pos g25]
         all_goals rfl
        have e27 : nameR s = false := by
         unfold nameR
         try dsimp only
         rewrite [e26]
         try dsimp only
         all_goals rfl
        rw [e27]
        exact answersR rfl ⟨trivial, trivial⟩ (rfl) rfl
       ·have g25 : ¬ (((s.getD k0 0).toNat : Int) < 97) := of_decide_eq_false h25
        refine step_g1 rfl h25 (step_r rfl rfl trivial (step_g1 rfl h25 (step_bin rfl rfl rfl rfl rfl trivial (step_g1 rfl h23 (step_pickF rfl h25 rfl rfl (step_pickT rfl h23 rfl rfl (step_nil (seqK_n ?_))))))))
        refine sem_cond rfl (fun h29 => ?_) (fun h29 => ?_)
        ·have g29 : ((s.getD k0 0).toNat : Int) > 122 := of_decide_eq_true h29
         refine sem_seq (sem_region rfl (step_r rfl rfl trivial (step_nil (seqK_n (sem_ret (blkK_r (seqK_r (lupK_r (blkK_r (cutW_r (seqK_r ?_)))))))))))
         have e30 : nameR_L0 s (s.length - 0) 0 = .inl false := by
          rewrite [← hI0, hm0]
          rewrite [nameR_L0]
          try dsimp only
          rewrite [if_neg g7, if_pos g9, if_neg g11, if_pos g23, if_neg g25, if_pos g29]
          all_goals rfl
         have e31 : nameR s = false := by
          unfold nameR
          try dsimp only
          rewrite [e30]
          try dsimp only
          all_goals rfl
         rw [e31]
         exact answersR rfl ⟨trivial, trivial⟩ (rfl) rfl
        ·have g29 : ¬ (((s.getD k0 0).toNat : Int) > 122) := of_decide_eq_false h29
         refine sem_skip (blkK_n (seqK_n (sem_region rfl (step_r rfl rfl trivial (step_bin rfl rfl rfl rfl rfl trivial (step_r rfl rfl trivial (step_nil ?_)))))))
         have e33 : nameR_L0 s (s.length - k0) k0 = nameR_L0 s (s.length - (k0 + 1)) (k0 + 1) := by
          rewrite [hm0]
          rewrite [nameR_L0]
          try dsimp only
          rewrite [if_neg g7, if_pos g9, if_neg g11, if_pos g23, if_neg g25, if_neg g29]
          all_goals rfl
         exact lup_againT (k0 + 1) ⟨e33.symm.trans hI0, (by omega)⟩ (by show s.length - (k0 + 1) < s.length - k0; omega) (Trans.ren [] (by decide +kernel) (by decide +kernel) rfl ⟨⟨rfl, rfl⟩, ⟨congrArg (fun n => some (I n)) (wrapI (k := k0) (by first | omega | (simp; omega))), rfl⟩, trivial⟩ trivial (by decide))
      ·have g23 : ¬ (((s.getD k0 0).toNat : Int) > 90) := of_decide_eq_false h23
       refine step_g0 rfl h23 rfl (step_g0 rfl h23 rfl (step_g0 rfl h23 rfl (step_gf rfl rfl (step_gf rfl rfl (step_g0 rfl h23 rfl (step_pickF rfl h23 rfl rfl (step_nil (seqK_n (sem_condF rfl (sem_skip (blkK_n ?_)))))))))))
       refine seqK_n (sem_region rfl (step_r rfl rfl trivial (step_bin rfl rfl rfl rfl rfl trivial (step_r rfl rfl trivial (step_nil ?_)))))
       have e35 : nameR_L0 s (s.length - k0) k0 = nameR_L0 s (s.length - (k0 + 1)) (k0 + 1) := by
        rewrite [hm0]
        rewrite [nameR_L0]
        try dsimp only
        rewrite [if_neg g7, if_pos g9, if_neg g11, if_neg g23]
        all_goals rfl
       exact lup_againT (k0 + 1) ⟨e35.symm.trans hI0, (by omega)⟩ (by show s.length - (k0 + 1) < s.length - k0; omega) (Trans.ren [] (by decide +kernel) (by decide +kernel) rfl ⟨⟨rfl, rfl⟩, ⟨congrArg (fun n => some (I n)) (wrapI (k := k0) (by first | omega | (simp; omega))), rfl⟩, trivial⟩ trivial (by decide))
    ·have g9 : ¬ (((s.getD k0 0).toNat : Int) < 48) := of_decide_eq_false h9
     refine step_g1 rfl h9 (step_r rfl rfl trivial (step_g1 rfl h9 (step_bin rfl rfl rfl rfl rfl trivial (step_g1 rfl h7 (step_pickF rfl h9 rfl rfl (step_pickT rfl h7 rfl rfl (step_r rfl rfl trivial ?_)))))))
     refine step_gs rfl (fun h37 => ?_) (fun h37 => ?_)
     ·have g37 : ((s.getD k0 0).toNat : Int) > 57 := of_decide_eq_true h37
      refine step_g1 rfl h37 (step_r rfl rfl trivial (step_g1 rfl h37 (step_bin rfl rfl rfl rfl rfl trivial (step_g1 rfl h37 (step_r rfl rfl trivial ?_)))))
      refine step_gs rfl (fun h39 => ?_) (fun h39 => ?_)
      ·have g39 : ((s.getD k0 0).toNat : Int) < 65 := of_decide_eq_true h39
       refine step_g0 rfl h39 rfl (step_g0 rfl h39 rfl (step_g1 rfl h37 (step_pickT rfl h39 rfl rfl (step_pickT rfl h37 rfl rfl (step_r rfl rfl trivial (step_gt rfl (step_r rfl rfl trivial (step_gt rfl (step_bin rfl rfl rfl rfl rfl trivial (step_gt rfl (step_r rfl rfl trivial ?_)))))))))))
       refine step_gs rfl (fun h41 => ?_) (fun h41 => ?_)
       ·have g41 : ((s.getD k0 0).toNat : Int) < 97 := of_decide_eq_true h41
        refine step_g0 rfl h41 rfl (step_g0 rfl h41 rfl (step_gt rfl (step_pickT rfl h41 rfl rfl (step_r rfl rfl trivial (step_nil (seqK_n (sem_condT rfl (sem_seq (sem_region rfl (step_r rfl rfl trivial (step_nil ?_)))))))))))
        refine seqK_n (sem_ret (blkK_r (seqK_r (lupK_r (blkK_r (cutW_r (seqK_r ?_)))))))
        have e42 : nameR_L0 s (s.length - 0) 0 = .inl false := by
         rewrite [← hI0, hm0]
         rewrite [nameR_L0]
         try dsimp only
         rewrite [if_neg g7, if_neg g9, if_pos g37, if_pos g39, if_pos g41]
         all_goals rfl
        have e43 : nameR s = false := by
         unfold nameR
         try dsimp only
         rewrite [e42]
         try dsimp only
         all_goals rfl
        rw [e43]
        exact answersR rfl ⟨trivial, trivial⟩ (rfl) rfl
       ·have g41 : ¬ (((s.getD k0 0).toNat : Int) < 97) := of_decide_eq_false h41
        refine step_g1 rfl h41 (step_r rfl rfl trivial (step_g1 rfl h41 (step_bin rfl rfl rfl rfl rfl trivial (step_gt rfl (step_pickF rfl h41 rfl rfl (step_r rfl rfl trivial (step_nil (seqK_n ?_))))))))
        refine sem_cond rfl (fun h45 => ?_) (fun h45 => ?_)
        ·have g45 : ((s.getD k0 0).toNat : Int) > 122 := of_decide_eq_true h45
         refine sem_seq (sem_region rfl (step_r rfl rfl trivial (step_nil (seqK_n (sem_ret (blkK_r (seqK_r (lupK_r (blkK_r (cutW_r (seqK_r ?_)))))))))))
         have e46 : nameR_L0 s (s.length - 0) 0 = .inl false := by
          rewrite [← hI0, hm0]
          rewrite [nameR_L0]
          try dsimp only
          rewrite [if_neg g7, if_neg g9, if_pos g37, if_pos g39, if_neg g41, if_pos g45]
          all_goals rfl
         have e47 : nameR s = false := by
          unfold nameR
          try dsimp only
          rewrite [e46]
          try dsimp only
          all_goals rfl
         rw [e47]
         exact answersR rfl ⟨trivial, trivial⟩ (rfl) rfl
        ·have g45 : ¬ (((s.getD k0 0).toNat : Int) > 122) := of_decide_eq_false h45
         refine sem_skip (blkK_n (seqK_n (sem_region rfl (step_r rfl rfl trivial (step_bin rfl rfl rfl rfl rfl trivial (step_r rfl rfl trivial (step_nil ?_)))))))
         have e49 : nameR_L0 s (s.length - k0) k0 = nameR_L0 s (s.length - (k0 + 1)) (k0 + 1) := by
          rewrite [hm0]
          rewrite [nameR_L0]
          try dsimp only
          rewrite [if_neg g7, if_neg g9, if_pos g37, if_pos g39, if_neg g41, if_neg g45]
          all_goals rfl
         exact lup_againT (k0 + 1) ⟨e49.symm.trans hI0, (by omega)⟩ (by show s.length - (k0 + 1) < s.length - k0; omega) (Trans.ren [] (by decide +kernel) (by decide +kernel) rfl ⟨⟨rfl, rfl⟩, ⟨congrArg (fun n => some (I n)) (wrapI (k := k0) (by first | omega | (simp; omega))), rfl⟩, trivial⟩ trivial (by decide))
      ·have g39 : ¬ (((s.getD k0 0).toNat : Int) < 65) := of_decide_eq_false h39
       refine step_g1 rfl h39 (step_r rfl rfl trivial (step_g1 rfl h39 (step_bin rfl rfl rfl rfl rfl trivial (step_g1 rfl h37 (step_pickF rfl h39 rfl rfl (step_pickT rfl h37 rfl rfl (step_r rfl rfl trivial ?_)))))))
       refine step_gs rfl (fun h51 => ?_) (fun h51 => ?_)
       ·have g51 : ((s.getD k0 0).toNat : Int) > 90 := of_decide_eq_true h51
        refine step_g1 rfl h51 (step_r rfl rfl trivial (step_g1 rfl h51 (step_bin rfl rfl rfl rfl rfl trivial (step_g1 rfl h51 (step_r rfl rfl trivial ?_)))))
        refine step_gs rfl (fun h53 => ?_) (fun h53 => ?_)
        ·have g53 : ((s.getD k0 0).toNat : Int) < 97 := of_decide_eq_true h53
         refine step_g0 rfl h53 rfl (step_g0 rfl h53 rfl (step_g1 rfl h51 (step_pickT rfl h53 rfl rfl (step_pickT rfl h51 rfl rfl (step_nil (seqK_n (sem_condT rfl (sem_seq (sem_region rfl (step_r rfl rfl trivial (step_nil ?_)))))))))))
         refine seqK_n (sem_ret (blkK_r (seqK_r (lupK_r (blkK_r (cutW_r (seqK_r ?_)))))))
         have e54 : nameR_L0 s (s.length - 0) 0 = .inl false := by
          rewrite [← hI0, hm0]
          rewrite [nameR_L0]
          try dsimp only
          rewrite [if_neg g7, if_neg g9, if_pos g37, if_neg g39, if_pos g51, if_pos g53]
          all_goals rfl
         have e55 : nameR s = false := by
          unfold nameR
          try dsimp only
          rewrite [e54]
          try dsimp only
          all_goals rfl
         rw [e55]
         exact answersR rfl ⟨trivial, trivial⟩ (rfl) rfl
        ·have g53 : ¬ (((s.getD k0 0).toNat : Int) < 97) := of_decide_eq_false h53
         refine step_g1 rfl h53 (step_r rfl rfl trivial (step_g1 rfl h53 (step_bin rfl rfl rfl rfl rfl trivial (step_g1 rfl h51 (step_pickF rfl h53 rfl rfl (step_pickT rfl h51 rfl rfl (step_nil (seqK_n ?_))))))))
         refine sem_cond rfl (fun h57 => ?_) (fun h57 => ?_)
         ·have g57 : ((s.getD k0 0).toNat : Int) > 122 := of_decide_eq_true h57
          refine sem_seq (sem_region rfl (step_r rfl rfl trivial (step_nil (seqK_n (sem_ret (blkK_r (seqK_r (lupK_r (blkK_r (cutW_r (seqK_r ?_)))))))))))
          have e58 : nameR_L0 s (s.length - 0) 0 = .inl false := by
           rewrite [← hI0, hm0]
           rewrite [nameR_L0]
           try dsimp only
           rewrite [if_neg g7, if_neg g9, if_pos g37, if_neg g39, if_pos g51, if_neg g53, if_pos g57]
           all_goals rfl
          have e59 : nameR s = false := by
           unfold nameR
           try dsimp only
           rewrite [e58]
           try dsimp only
           all_goals rfl
          rw [e59]
          exact answersR rfl ⟨trivial, trivial⟩ (rfl) rfl
         ·have g57 : ¬ (((s.getD k0 0).toNat : Int) > 122) := of_decide_eq_false h57
          refine sem_skip (blkK_n (seqK_n (sem_region rfl (step_r rfl rfl trivial (step_bin rfl rfl rfl rfl rfl trivial (step_r rfl rfl trivial (step_nil ?_)))))))
          have e61 : nameR_L0 s (s.length - k0) k0 = nameR_L0 s (s.length - (k0 + 1)) (k0 + 1) := by
           rewrite [hm0]
           rewrite [nameR_L0]
           try dsimp only
           rewrite [if_neg g7, if_neg g9, if_pos g37, if_neg g39, if_pos g51, if_neg g53, if_neg g57]
           all_goals rfl
          exact lup_againT (k0 + 1) ⟨e61.symm.trans hI0, (by omega)⟩ (by show s.length - (k0 + 1) < s.length - k0; omega) (Trans.ren [] (by decide +kernel) (by decide +kernel) rfl ⟨⟨rfl, rfl⟩, ⟨congrArg (fun n => some (I n)) (wrapI (k := k0) (by first | omega | (simp; omega))), rfl⟩, trivial⟩ trivial (by decide))
       ·have g51 : ¬ (((s.getD k0 0).toNat : Int) > 90) := of_decide_eq_false h51
        refine step_g0 rfl h51 rfl (step_g0 rfl h51 rfl (step_g0 rfl h51 rfl (step_gf rfl rfl (step_gf rfl rfl (step_g0 rfl h51 rfl (step_pickF rfl h51 rfl rfl (step_nil (seqK_n (sem_condF rfl (sem_skip (blkK_n ?_)))))))))))
        refine seqK_n (sem_region rfl (step_r rfl rfl trivial (step_bin rfl rfl rfl rfl rfl trivial (step_r rfl rfl trivial (step_nil ?_)))))
        have e63 : nameR_L0 s (s.length - k0) k0 = nameR_L0 s (s.length - (k0 + 1)) (k0 + 1) := by
         rewrite [hm0]
         rewrite [nameR_L0]
         try dsimp only
         rewrite [if_neg g7, if_neg g9, if_pos g37, if_neg g39, if_neg g51]
         all_goals rfl
        exact lup_againT (k0 + 1) ⟨e63.symm.trans hI0, (by omega)⟩ (by show s.length - (k0 + 1) < s.length - k0; omega) (Trans.ren [] (by decide +kernel) (by decide +kernel) rfl ⟨⟨rfl, rfl⟩, ⟨congrArg (fun n => some (I n)) (wrapI (k := k0) (by first | omega | (simp; omega))), rfl⟩, trivial⟩ trivial (by decide))
     ·have g37 : ¬ (((s.getD k0 0).toNat : Int) > 57) := of_decide_eq_false h37
      refine step_g0 rfl h37 rfl (step_g0 rfl h37 rfl (step_g0 rfl h37 rfl (step_gf rfl rfl (step_gf rfl rfl (step_g0 rfl h37 rfl (step_pickF rfl h37 rfl rfl (step_r rfl rfl trivial (step_gf rfl rfl (step_gf rfl rfl (step_gf rfl rfl (step_gf rfl rfl ?_)))))))))))
      refine step_gf rfl rfl (step_gf rfl rfl (step_r rfl rfl trivial (step_nil (seqK_n (sem_condF rfl (sem_skip (blkK_n (seqK_n (sem_region rfl (step_r rfl rfl trivial (step_bin rfl rfl rfl rfl rfl trivial ?_)))))))))))
      refine step_r rfl rfl trivial (step_nil ?_)
      have e65 : nameR_L0 s (s.length - k0) k0 = nameR_L0 s (s.length - (k0 + 1)) (k0 + 1) := by
       rewrite [hm0]
       rewrite [nameR_L0]
       try dsimp only
       rewrite [if_neg g7, if_neg g9, if_neg g37]
       all_goals rfl
      exact lup_againT (k0 + 1) ⟨e65.symm.trans hI0, (by omega)⟩ (by show s.length - (k0 + 1) < s.length - k0; omega) (Trans.ren [] (by decide +kernel) (by decide +kernel) rfl ⟨⟨rfl, rfl⟩, ⟨congrArg (fun n => some (I n)) (wrapI (k := k0) (by first | omega | (simp; omega))), rfl⟩, trivial⟩ trivial (by decide))
   ·have g7 : ((s.getD k0 0).toNat : Int) = 45 := bne_f h7
    refine step_g0 rfl h7 rfl (step_g0 rfl h7 rfl (step_g0 rfl h7 rfl (step_gf rfl rfl (step_gf rfl rfl (step_g0 rfl h7 rfl (step_pickF rfl h7 rfl rfl (step_r rfl rfl trivial (step_gf rfl rfl (step_gf rfl rfl (step_gf rfl rfl (step_gf rfl rfl ?_)))))))))))
    refine step_gf rfl rfl (step_gf rfl rfl (step_r rfl rfl trivial (step_r rfl rfl trivial (step_gf rfl rfl (step_gf rfl rfl (step_gf rfl rfl (step_gf rfl rfl (step_gf rfl rfl (step_gf rfl rfl (step_r rfl rfl trivial (step_nil ?_)))))))))))
    refine seqK_n (sem_condF rfl (sem_skip (blkK_n (seqK_n (sem_region rfl (step_r rfl rfl trivial (step_bin rfl rfl rfl rfl rfl trivial (step_r rfl rfl trivial (step_nil ?_)))))))))
    have e67 : nameR_L0 s (s.length - k0) k0 = nameR_L0 s (s.length - (k0 + 1)) (k0 + 1) := by
     rewrite [hm0]
     rewrite [nameR_L0]
     try dsimp only
     rewrite [if_pos g7]
     all_goals rfl
    exact lup_againT (k0 + 1) ⟨e67.symm.trans hI0, (by omega)⟩ (by show s.length - (k0 + 1) < s.length - k0; omega) (Trans.ren [] (by decide +kernel) (by decide +kernel) rfl ⟨⟨rfl, rfl⟩, ⟨congrArg (fun n => some (I n)) (wrapI (k := k0) (by first | omega | (simp; omega))), rfl⟩, trivial⟩ trivial (by decide))
  ·have g4 : ¬ ((k0 : Int) < s.length) := of_decide_eq_false h4
   have hm0 : s.length - k0 = 0 := by omega
   refine sem_exit (seqK_e (lupK_e (blkK_t rfl ?_)))
   have e68 : nameR_L0 s (s.length - 0) 0 = .inr () := by
    rewrite [← hI0, hm0]
    rewrite [nameR_L0]
    try dsimp only
    all_goals rfl
   exact cutW_n () e68 (Trans.ren [] (by decide +kernel) (by decide +kernel) rfl ⟨⟨rfl, rfl⟩, trivial⟩ trivial (by decide))
 ·rintro ⟨⟩ (hJ1 : nameR_L0 s (s.length - 0) 0 = .inr ())
  show seqK _ _ _ .normal (⟨[(0, .pv (.str s))], [], 0, [], 48, 0⟩ : St)
  refine seqK_n (sem_seq (sem_region rfl (step_r rfl rfl trivial (step_r rfl rfl trivial (step_bin rfl rfl rfl rfl rfl trivial (step_r rfl rfl trivial ?_))))))
  refine step_gs rfl (fun h71 => ?_) (fun h71 => ?_)
  ·have g71 : (s.length : Int) ≥ 1 := of_decide_eq_true h71
   refine step_g1 rfl h71 (step_r rfl rfl trivial (step_g1 rfl h71 (step_r rfl rfl trivial (step_g1 rfl h71 (step_bin rfl rfl rfl rfl rfl trivial (step_pickT rfl h71 rfl rfl (step_r rfl rfl trivial (step_nil (seqK_n (sem_ret ?_))))))))))
   have e73 : nameR s = (decide ((s.length : Int) ≤ 24)) := by
    unfold nameR
    try dsimp only
    rewrite [hJ1]
    try dsimp only
    rewrite [if_pos g71]
    all_goals rfl
   rw [e73]
   exact answersR rfl ⟨trivial, trivial⟩ (rfl) rfl
  ·have g71 : ¬ ((s.length : Int) ≥ 1) := of_decide_eq_false h71
   refine step_g0 rfl h71 rfl (step_g0 rfl h71 rfl (step_g0 rfl h71 rfl (step_pickF rfl h71 rfl rfl (step_r rfl rfl trivial (step_nil (seqK_n (sem_ret ?_)))))))
   have e74 : nameR s = false := by
    unfold nameR
    try dsimp only
    rewrite [hJ1]
    try dsimp only
    rewrite [if_neg g71]
    all_goals rfl
   rw [e74]
   exact answersR rfl ⟨trivial, trivial⟩ (rfl) rfl

theorem nameC_len {s : List UInt8} (h : nameC s = true) : s.length ≤ 24 := by
  unfold nameC at h
  split at h
  · cases h
  · split at h
    · omega
    · cases h

end Go.Proofs.YtnboadipofkcjaaDoor

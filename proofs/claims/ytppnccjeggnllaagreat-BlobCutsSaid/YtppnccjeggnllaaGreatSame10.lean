import Derived.Test.YtppnccjeggnllaaGreatReadw
namespace Go.Proofs.YtppnccjeggnllaaGreat
open Go Go.RowKit Go.Proofs.YtppnccjeggnllaaGreatVm
attribute [local irreducible] opsWp AnswersE OpsS
set_option maxHeartbeats 400000
set_option maxRecDepth 100000
set_option linter.all false
def sameIR_L0 (a : List Int) (b : List Int) : Nat → Nat → Sum Bool Unit
  | 0, k0 => .inr ()
  | n_ + 1, k0 => if (a.getD k0 default : Int) = (b.getD k0 default) then sameIR_L0 a b n_ (k0 + 1) else .inl false
def sameIR (a : List Int) (b : List Int) : Bool :=
  if (a.length : Int) = b.length then (match sameIR_L0 a b (a.length - 0) 0 with
    | .inl r_ => r_
    | .inr () => true) else false
theorem sameIR_ok (a : List Int) (a_f : Bool) (b : List Int) (b_f : Bool) : Ok Tryz.prog 11 [.pv (.slc a.length a_f (encI a)), .pv (.slc b.length b_f (encI b))] [] (B (sameIR a b)) [] [] := by
 refine Ok.len fun hlen => ?_
 have hl_a : a.length ≤ maxLen := hlen _ (by simp [lensL, lens, lensP])
 have hl_b : b.length ≤ maxLen := hlen _ (by simp [lensL, lens, lensP])
 unfold maxLen at hl_a hl_b
 refine ok_of_sem Tryz.func11 rfl ?_
 show Walks Tryz.prog _ _ ⟨[(0, .pv (.slc a.length a_f (encI a))), (1, .pv (.slc b.length b_f (encI b)))], [], 0, [], 26, 0⟩
 refine sem_seq (sem_region rfl (step_r rfl rfl trivial (step_nil (seqK_n (sem_seq (sem_seq (sem_region rfl (step_r rfl rfl trivial (step_r rfl rfl trivial (step_r rfl rfl trivial (step_r rfl rfl trivial ?_)))))))))))
 refine step_bin rfl rfl rfl rfl rfl trivial (step_nil (seqK_n ?_))
 refine sem_cond rfl (fun h1 => ?_) (fun h1 => ?_)
 ·have g1 : ¬ ((a.length : Int) = b.length) := bne_t h1
  refine sem_seq (sem_region rfl (step_r rfl rfl trivial (step_nil (seqK_n (sem_ret (seqK_r ?_))))))
  have e2 : sameIR a b = false := by
   unfold sameIR
   try dsimp only
   rewrite [if_neg g1]
   all_goals rfl
  rw [e2]
  exact answersR rfl ⟨trivial, trivial⟩ (rfl) rfl
 ·have g1 : (a.length : Int) = b.length := bne_f h1
  refine sem_skip (seqK_n (sem_seq (sem_seq (sem_region rfl (step_r rfl rfl trivial (step_nil (seqK_n ?_)))))))
  refine sem_cutW (fun w_ : Unit => match w_ with | () => (⟨[], [], 0, [], 26, 0⟩ : St)) (fun w_ => sameIR_L0 a b (a.length - 0) 0 = .inr w_) ?_ ?_
  ·refine sem_block ?_
   refine sem_loopT (fun k0 : Nat => (⟨[(0, .pv (.slc a.length a_f (encI a))), (1, .pv (.slc b.length b_f (encI b))), (5, I k0)], [], 0, [], 26, 0⟩ : St)) (fun k0 : Nat => sameIR_L0 a b (a.length - k0) k0 = sameIR_L0 a b (a.length - 0) 0 ∧ k0 ≤ a.length) (fun k0 : Nat => a.length - k0) 0 (⟨rfl, (by first | omega | (simp; omega))⟩) ?_ (fun k0 hh_ => ?_)
   ·exact (Trans.ren [] (by decide +kernel) (by decide +kernel) rfl ⟨⟨rfl, rfl⟩, ⟨rfl, rfl⟩, ⟨rfl, rfl⟩, trivial⟩ trivial (by decide))
   obtain ⟨hI0, hb0⟩ := hh_
   show Walks Tryz.prog _ _ (⟨[(0, .pv (.slc a.length a_f (encI a))), (1, .pv (.slc b.length b_f (encI b))), (5, I k0)], [], 0, [], 26, 0⟩ : St)
   refine sem_seq (sem_seq (sem_region rfl (step_r rfl rfl trivial (step_r rfl rfl trivial (step_r rfl rfl trivial (step_bin rfl rfl rfl rfl rfl trivial (step_nil (seqK_n ?_))))))))
   refine sem_cond rfl (fun h5 => ?_) (fun h5 => ?_)
   ·have g5 : (k0 : Int) < a.length := of_decide_eq_true h5
    have hm0 : a.length - k0 = (a.length - (k0 + 1)) + 1 := by omega
    refine sem_skip (seqK_n (sem_seq (sem_block (sem_seq ?_))))
    refine sem_drawn rfl (by decide +kernel) rfl ?_
    refine step_r rfl rfl trivial (step_r rfl rfl trivial ?_)
    have jk6 : k0 < a.length := by first | assumption | omega | (simp only [List.length_set, List.length_append]; omega) | (simp only [IntKind.wrap_i64] at *; omega) | (simp; omega) | simp_all
    refine step_idxS (k := k0) rfl rfl rfl rfl jk6 (encI_ne jk6) rfl (step_load_one rfl rfl rfl (encI_get (get_getD jk6)) rfl (step_r rfl rfl trivial (step_r rfl rfl trivial ?_)))
    have jk7 : k0 < b.length := by first | assumption | omega | (simp only [List.length_set, List.length_append]; omega) | (simp only [IntKind.wrap_i64] at *; omega) | (simp; omega) | simp_all
    refine step_idxS (k := k0) rfl rfl rfl rfl jk7 (encI_ne jk7) rfl (step_load_one rfl rfl rfl (encI_get (get_getD jk7)) rfl (step_bin rfl rfl rfl rfl rfl trivial (step_nil (seqK_n ?_))))
    refine sem_cond rfl (fun h8 => ?_) (fun h8 => ?_)
    ·have g8 : ¬ ((a.getD k0 default : Int) = (b.getD k0 default)) := bne_t h8
     refine sem_seq (sem_region rfl (step_r rfl rfl trivial (step_nil (seqK_n (sem_ret (blkK_r (seqK_r (lupK_r (blkK_r (cutW_r (seqK_r ?_)))))))))))
     have e9 : sameIR_L0 a b (a.length - 0) 0 = .inl false := by
      rewrite [← hI0, hm0]
      rewrite [sameIR_L0]
      try dsimp only
      rewrite [if_neg g8]
      all_goals rfl
     have e10 : sameIR a b = false := by
      unfold sameIR
      try dsimp only
      rewrite [if_pos g1, e9]
      try dsimp only
      all_goals rfl
     rw [e10]
     exact answersR rfl ⟨trivial, trivial⟩ (rfl) rfl
    ·have g8 : (a.getD k0 default : Int) = (b.getD k0 default) := bne_f h8
     refine sem_skip (blkK_n (seqK_n (sem_region rfl (step_r rfl rfl trivial (step_bin rfl rfl rfl rfl rfl trivial (step_r rfl rfl trivial (step_nil ?_)))))))
     have e12 : sameIR_L0 a b (a.length - k0) k0 = sameIR_L0 a b (a.length - (k0 + 1)) (k0 + 1) := by
      rewrite [hm0]
      rewrite [sameIR_L0]
      try dsimp only
      rewrite [if_pos g8]
      all_goals rfl
     exact lup_againT (k0 + 1) ⟨e12.symm.trans hI0, (by omega)⟩ (by show a.length - (k0 + 1) < a.length - k0; omega) (Trans.ren [] (by decide +kernel) (by decide +kernel) rfl ⟨⟨rfl, rfl⟩, ⟨rfl, rfl⟩, ⟨congrArg (fun n => some (I n)) (wrapI (k := k0) (by first | omega | (simp; omega))), rfl⟩, trivial⟩ trivial (by decide))
   ·have g5 : ¬ ((k0 : Int) < a.length) := of_decide_eq_false h5
    have hm0 : a.length - k0 = 0 := by omega
    refine sem_exit (seqK_e (lupK_e (blkK_t rfl ?_)))
    have e13 : sameIR_L0 a b (a.length - 0) 0 = .inr () := by
     rewrite [← hI0, hm0]
     rewrite [sameIR_L0]
     try dsimp only
     all_goals rfl
    exact cutW_n () e13 (Trans.ren [] (by decide +kernel) (by decide +kernel) rfl trivial trivial (by decide))
  ·rintro ⟨⟩ (hJ3 : sameIR_L0 a b (a.length - 0) 0 = .inr ())
   show seqK _ _ _ .normal (⟨[], [], 0, [], 26, 0⟩ : St)
   refine seqK_n (sem_seq (sem_region rfl (step_r rfl rfl trivial (step_nil (seqK_n (sem_ret ?_))))))
   have e14 : sameIR a b = true := by
    unfold sameIR
    try dsimp only
    rewrite [if_pos g1, hJ3]
    try dsimp only
    all_goals rfl
   rw [e14]
   exact answersR rfl ⟨trivial, trivial⟩ (rfl) rfl

def sameAR_L0 (a : GAbility) (b : GAbility) : Nat → Nat → Sum Bool Unit
  | 0, k0 => .inr ()
  | n_ + 1, k0 => if ((((a.Effects.getD k0 default).Kind) == ((b.Effects.getD k0 default).Kind)) && ((((a.Effects.getD k0 default).Amount) == ((b.Effects.getD k0 default).Amount)) && ((((a.Effects.getD k0 default).Aura) == ((b.Effects.getD k0 default).Aura)) && true))) = true then sameAR_L0 a b n_ (k0 + 1) else .inl false
def sameAR (a : GAbility) (b : GAbility) : Bool :=
  if (a.Id : Int) = b.Id then (if (a.Cast : Int) = b.Cast then (if (a.Cool : Int) = b.Cool then (if (a.Charges : Int) = b.Charges then (if (a.Range : Int) = b.Range then (if (a.Cost : Int) = b.Cost then (if a.Sight = b.Sight then (if (a.Effects.length : Int) = b.Effects.length then (match sameAR_L0 a b (a.Effects.length - 0) 0 with
    | .inl r_ => r_
    | .inr () => true) else false) else false) else false) else false) else false) else false) else false) else false
theorem sameAR_ok (a : GAbility) (b : GAbility) : Ok Tryz.prog 36 [aGAbility a, aGAbility b] [] (B (sameAR a b)) [] [] := by
 refine Ok.len fun hlen => ?_
 have hl_a_Effects : a.Effects.length ≤ maxLen := hlen _ (by simp [lensL, lens, lensP])
 have hl_b_Effects : b.Effects.length ≤ maxLen := hlen _ (by simp [lensL, lens, lensP])
 unfold maxLen at hl_a_Effects hl_b_Effects
 refine ok_of_sem Tryz.func36 rfl ?_
 show Walks Tryz.prog _ _ ⟨[(0, aGAbility a), (1, aGAbility b)], [], 0, [], 80, 0⟩
 refine sem_seq (sem_region rfl (step_n (o := .box [_, _, _, _, _, _, _, _]) (nx' := 1) rfl rfl rfl trivial (step_n (o := .box [_, _, _, _, _, _, _, _]) (nx' := 2) rfl rfl rfl trivial (step_r rfl rfl trivial (step_nil (seqK_n (sem_seq (sem_seq (sem_region rfl (step_r rfl rfl (by decide) (step_r rfl rfl trivial ?_)))))))))))
 refine step_r rfl rfl (by decide) (step_r rfl rfl trivial (step_bin rfl rfl rfl rfl rfl trivial (step_r rfl rfl trivial ?_)))
 refine step_gs rfl (fun h2 => ?_) (fun h2 => ?_)
 ·have g2 : ¬ ((a.Id : Int) = b.Id) := bne_t h2
  refine step_g0 rfl h2 rfl (step_g0 rfl h2 rfl (step_g0 rfl h2 rfl (step_g0 rfl h2 rfl (step_g0 rfl h2 rfl (step_pickT rfl h2 rfl rfl (step_r rfl rfl trivial (step_gf rfl rfl (step_gf rfl rfl (step_gf rfl rfl (step_gf rfl rfl (step_gf rfl rfl ?_)))))))))))
  refine step_r rfl rfl trivial (step_r rfl rfl trivial (step_gf rfl rfl (step_gf rfl rfl (step_gf rfl rfl (step_gf rfl rfl (step_gf rfl rfl (step_r rfl rfl trivial (step_r rfl rfl trivial (step_gf rfl rfl (step_gf rfl rfl (step_gf rfl rfl ?_)))))))))))
  refine step_gf rfl rfl (step_gf rfl rfl (step_r rfl rfl trivial (step_r rfl rfl trivial (step_gf rfl rfl (step_gf rfl rfl (step_gf rfl rfl (step_gf rfl rfl (step_gf rfl rfl (step_r rfl rfl trivial (step_r rfl rfl trivial (step_gf rfl rfl ?_)))))))))))
  refine step_gf rfl rfl (step_gf rfl rfl (step_gf rfl rfl (step_gf rfl rfl (step_r rfl rfl trivial (step_r rfl rfl trivial (step_gf rfl rfl (step_gf rfl rfl (step_gf rfl rfl (step_gf rfl rfl (step_gf rfl rfl (step_gf rfl rfl ?_)))))))))))
  refine step_gf rfl rfl (step_r rfl rfl trivial (step_nil (seqK_n (sem_condT rfl (sem_seq (sem_region rfl (step_r rfl rfl trivial (step_nil (seqK_n (sem_ret (seqK_r ?_)))))))))))
  have e3 : sameAR a b = false := by
   unfold sameAR
   try dsimp only
   rewrite [if_neg g2]
   all_goals rfl
  rw [e3]
  exact answersR rfl ⟨trivial, trivial⟩ (rfl) rfl
 ·have g2 : (a.Id : Int) = b.Id := bne_f h2
  refine step_g1 rfl h2 (step_r rfl rfl (by decide) (step_g1 rfl h2 (step_r rfl rfl trivial (step_g1 rfl h2 (step_r rfl rfl (by decide) (step_g1 rfl h2 (step_r rfl rfl trivial (step_g1 rfl h2 (step_bin rfl rfl rfl rfl rfl trivial (step_pickF rfl h2 rfl rfl (step_r rfl rfl trivial ?_)))))))))))
  refine step_gs rfl (fun h5 => ?_) (fun h5 => ?_)
  ·have g5 : ¬ ((a.Cast : Int) = b.Cast) := bne_t h5
   refine step_g0 rfl h5 rfl (step_g0 rfl h5 rfl (step_g0 rfl h5 rfl (step_g0 rfl h5 rfl (step_g0 rfl h5 rfl (step_pickT rfl h5 rfl rfl (step_r rfl rfl trivial (step_gf rfl rfl (step_gf rfl rfl (step_gf rfl rfl (step_gf rfl rfl (step_gf rfl rfl ?_)))))))))))
   refine step_r rfl rfl trivial (step_r rfl rfl trivial (step_gf rfl rfl (step_gf rfl rfl (step_gf rfl rfl (step_gf rfl rfl (step_gf rfl rfl (step_r rfl rfl trivial (step_r rfl rfl trivial (step_gf rfl rfl (step_gf rfl rfl (step_gf rfl rfl ?_)))))))))))
   refine step_gf rfl rfl (step_gf rfl rfl (step_r rfl rfl trivial (step_r rfl rfl trivial (step_gf rfl rfl (step_gf rfl rfl (step_gf rfl rfl (step_gf rfl rfl (step_gf rfl rfl (step_r rfl rfl trivial (step_r rfl rfl trivial (step_gf rfl rfl ?_)))))))))))
   refine step_gf rfl rfl (step_gf rfl rfl (step_gf rfl rfl (step_gf rfl rfl (step_gf rfl rfl (step_gf rfl rfl (step_r rfl rfl trivial (step_nil (seqK_n (sem_condT rfl (sem_seq (sem_region rfl ?_)))))))))))
   refine step_r rfl rfl trivial (step_nil (seqK_n (sem_ret (seqK_r ?_))))
   have e6 : sameAR a b = false := by
    unfold sameAR
    try dsimp only
    rewrite [if_pos g2, if_neg g5]
    all_goals rfl
   rw [e6]
   exact answersR rfl ⟨trivial, trivial⟩ (rfl) rfl
  ·have g5 : (a.Cast : Int) = b.Cast := bne_f h5
   refine step_g1 rfl h5 (step_r rfl rfl (by decide) (step_g1 rfl h5 (step_r rfl rfl trivial (step_g1 rfl h5 (step_r rfl rfl (by decide) (step_g1 rfl h5 (step_r rfl rfl trivial (step_g1 rfl h5 (step_bin rfl rfl rfl rfl rfl trivial (step_pickF rfl h5 rfl rfl (step_r rfl rfl trivial ?_)))))))))))
   refine step_gs rfl (fun h8 => ?_) (fun h8 => ?_)
   ·have g8 : ¬ ((a.Cool : Int) = b.Cool) := bne_t h8
    refine step_g0 rfl h8 rfl (step_g0 rfl h8 rfl (step_g0 rfl h8 rfl (step_g0 rfl h8 rfl (step_g0 rfl h8 rfl (step_pickT rfl h8 rfl rfl (step_r rfl rfl trivial (step_gf rfl rfl (step_gf rfl rfl (step_gf rfl rfl (step_gf rfl rfl (step_gf rfl rfl ?_)))))))))))
    refine step_r rfl rfl trivial (step_r rfl rfl trivial (step_gf rfl rfl (step_gf rfl rfl (step_gf rfl rfl (step_gf rfl rfl (step_gf rfl rfl (step_r rfl rfl trivial (step_r rfl rfl trivial (step_gf rfl rfl (step_gf rfl rfl (step_gf rfl rfl ?_)))))))))))
    refine step_gf rfl rfl (step_gf rfl rfl (step_r rfl rfl trivial (step_r rfl rfl trivial (step_gf rfl rfl (step_gf rfl rfl (step_gf rfl rfl (step_gf rfl rfl (step_gf rfl rfl (step_gf rfl rfl (step_gf rfl rfl (step_r rfl rfl trivial ?_)))))))))))
    refine step_nil (seqK_n (sem_condT rfl (sem_seq (sem_region rfl (step_r rfl rfl trivial (step_nil (seqK_n (sem_ret (seqK_r ?_)))))))))
    have e9 : sameAR a b = false := by
     unfold sameAR
     try dsimp only
     rewrite [if_pos g2, if_pos g5, if_neg g8]
     all_goals rfl
    rw [e9]
    exact answersR rfl ⟨trivial, trivial⟩ (rfl) rfl
   ·have g8 : (a.Cool : Int) = b.Cool := bne_f h8
    refine step_g1 rfl h8 (step_r rfl rfl (by decide) (step_g1 rfl h8 (step_r rfl rfl trivial (step_g1 rfl h8 (step_r rfl rfl (by decide) (step_g1 rfl h8 (step_r rfl rfl trivial (step_g1 rfl h8 (step_bin rfl rfl rfl rfl rfl trivial (step_pickF rfl h8 rfl rfl (step_r rfl rfl trivial ?_)))))))))))
    refine step_gs rfl (fun h11 => ?_) (fun h11 => ?_)
    ·have g11 : ¬ ((a.Charges : Int) = b.Charges) := bne_t h11
     refine step_g0 rfl h11 rfl (step_g0 rfl h11 rfl (step_g0 rfl h11 rfl (step_g0 rfl h11 rfl (step_g0 rfl h11 rfl (step_pickT rfl h11 rfl rfl (step_r rfl rfl trivial (step_gf rfl rfl (step_gf rfl rfl (step_gf rfl rfl (step_gf rfl rfl (step_gf rfl rfl ?_)))))))))))
     refine step_r rfl rfl trivial (step_r rfl rfl trivial (step_gf rfl rfl (step_gf rfl rfl (step_gf rfl rfl (step_gf rfl rfl (step_gf rfl rfl (step_r rfl rfl trivial (step_r rfl rfl trivial (step_gf rfl rfl (step_gf rfl rfl (step_gf rfl rfl ?_)))))))))))
     refine step_gf rfl rfl (step_gf rfl rfl (step_gf rfl rfl (step_gf rfl rfl (step_r rfl rfl trivial (step_nil (seqK_n (sem_condT rfl (sem_seq (sem_region rfl (step_r rfl rfl trivial (step_nil ?_)))))))))))
     refine seqK_n (sem_ret (seqK_r ?_))
     have e12 : sameAR a b = false := by
      unfold sameAR
      try dsimp only
      rewrite [if_pos g2, if_pos g5, if_pos g8, if_neg g11]
      all_goals rfl
     rw [e12]
     exact answersR rfl ⟨trivial, trivial⟩ (rfl) rfl
    ·have g11 : (a.Charges : Int) = b.Charges := bne_f h11
     refine step_g1 rfl h11 (step_r rfl rfl (by decide) (step_g1 rfl h11 (step_r rfl rfl trivial (step_g1 rfl h11 (step_r rfl rfl (by decide) (step_g1 rfl h11 (step_r rfl rfl trivial (step_g1 rfl h11 (step_bin rfl rfl rfl rfl rfl trivial (step_pickF rfl h11 rfl rfl (step_r rfl rfl trivial ?_)))))))))))
     refine step_gs rfl (fun h14 => ?_) (fun h14 => ?_)
     ·have g14 : ¬ ((a.Range : Int) = b.Range) := bne_t h14
      refine step_g0 rfl h14 rfl (step_g0 rfl h14 rfl (step_g0 rfl h14 rfl (step_g0 rfl h14 rfl (step_g0 rfl h14 rfl (step_pickT rfl h14 rfl rfl (step_r rfl rfl trivial (step_gf rfl rfl (step_gf rfl rfl (step_gf rfl rfl (step_gf rfl rfl (step_gf rfl rfl ?_)))))))))))
      refine step_r rfl rfl trivial (step_r rfl rfl trivial (step_gf rfl rfl (step_gf rfl rfl (step_gf rfl rfl (step_gf rfl rfl (step_gf rfl rfl (step_gf rfl rfl (step_gf rfl rfl (step_r rfl rfl trivial (step_nil (seqK_n ?_)))))))))))
      refine sem_condT rfl (sem_seq (sem_region rfl (step_r rfl rfl trivial (step_nil (seqK_n (sem_ret (seqK_r ?_)))))))
      have e15 : sameAR a b = false := by
       unfold sameAR
       try dsimp only
       rewrite [if_pos g2, if_pos g5, if_pos g8, if_pos g11, if_neg g14]
       all_goals rfl
      rw [e15]
      exact answersR rfl ⟨trivial, trivial⟩ (rfl) rfl
     ·have g14 : (a.Range : Int) = b.Range := bne_f h14
      refine step_g1 rfl h14 (step_r rfl rfl (by decide) (step_g1 rfl h14 (step_r rfl rfl trivial (step_g1 rfl h14 (step_r rfl rfl (by decide) (step_g1 rfl h14 (step_r rfl rfl trivial (step_g1 rfl h14 (step_bin rfl rfl rfl rfl rfl trivial (step_pickF rfl h14 rfl rfl (step_r rfl rfl trivial ?_)))))))))))
      refine step_gs rfl (fun h17 => ?_) (fun h17 => ?_)
      ·have g17 : ¬ ((a.Cost : Int) = b.Cost) := bne_t h17
       refine step_g0 rfl h17 rfl (step_g0 rfl h17 rfl (step_g0 rfl h17 rfl (step_g0 rfl h17 rfl (step_g0 rfl h17 rfl (step_pickT rfl h17 rfl rfl (step_r rfl rfl trivial (step_gf rfl rfl (step_gf rfl rfl (step_gf rfl rfl (step_gf rfl rfl (step_gf rfl rfl ?_)))))))))))
       refine step_gf rfl rfl (step_gf rfl rfl (step_r rfl rfl trivial (step_nil (seqK_n (sem_condT rfl (sem_seq (sem_region rfl (step_r rfl rfl trivial (step_nil (seqK_n (sem_ret ?_)))))))))))
       refine seqK_r ?_
       have e18 : sameAR a b = false := by
        unfold sameAR
        try dsimp only
        rewrite [if_pos g2, if_pos g5, if_pos g8, if_pos g11, if_pos g14, if_neg g17]
        all_goals rfl
       rw [e18]
       exact answersR rfl ⟨trivial, trivial⟩ (rfl) rfl
      ·have g17 : (a.Cost : Int) = b.Cost := bne_f h17
       refine step_g1 rfl h17 (step_r rfl rfl (by decide) (step_g1 rfl h17 (step_r rfl rfl trivial (step_g1 rfl h17 (step_r rfl rfl (by decide) (step_g1 rfl h17 (step_r rfl rfl trivial (step_g1 rfl h17 (step_bin rfl rfl rfl rfl rfl trivial (step_pickF rfl h17 rfl rfl (step_r rfl rfl trivial ?_)))))))))))
       refine step_gs rfl (fun h20 => ?_) (fun h20 => ?_)
       ·have g20 : ¬ (a.Sight = b.Sight) := beq_f (not_t h20)
        refine step_g0 rfl h20 rfl (step_g0 rfl h20 rfl (step_g0 rfl h20 rfl (step_g0 rfl h20 rfl (step_g0 rfl h20 rfl (step_g0 rfl h20 rfl (step_g0 rfl h20 rfl (step_pickT rfl h20 rfl rfl (step_nil (seqK_n (sem_condT rfl (sem_seq ?_)))))))))))
        refine sem_region rfl (step_r rfl rfl trivial (step_nil (seqK_n (sem_ret (seqK_r ?_)))))
        have e21 : sameAR a b = false := by
         unfold sameAR
         try dsimp only
         rewrite [if_pos g2, if_pos g5, if_pos g8, if_pos g11, if_pos g14, if_pos g17, if_neg g20]
         all_goals rfl
        rw [e21]
        exact answersR rfl ⟨trivial, trivial⟩ (rfl) rfl
       ·have g20 : a.Sight = b.Sight := beq_t (not_f h20)
        refine step_g1 rfl h20 (step_r rfl rfl (by decide) (step_g1 rfl h20 (step_r rfl rfl trivial (step_g1 rfl h20 (step_r rfl rfl trivial (step_g1 rfl h20 (step_r rfl rfl (by decide) (step_g1 rfl h20 (step_r rfl rfl trivial (step_g1 rfl h20 (step_r rfl rfl trivial ?_)))))))))))
        refine step_g1 rfl h20 (step_bin rfl rfl rfl rfl rfl trivial (step_pickF rfl h20 rfl rfl (step_nil (seqK_n ?_))))
        refine sem_cond rfl (fun h23 => ?_) (fun h23 => ?_)
        ·have g23 : ¬ ((a.Effects.length : Int) = b.Effects.length) := bne_t h23
         refine sem_seq (sem_region rfl (step_r rfl rfl trivial (step_nil (seqK_n (sem_ret (seqK_r ?_))))))
         have e24 : sameAR a b = false := by
          unfold sameAR
          try dsimp only
          rewrite [if_pos g2, if_pos g5, if_pos g8, if_pos g11, if_pos g14, if_pos g17, if_pos g20, if_neg g23]
          all_goals rfl
         rw [e24]
         exact answersR rfl ⟨trivial, trivial⟩ (rfl) rfl
        ·have g23 : (a.Effects.length : Int) = b.Effects.length := bne_f h23
         refine sem_skip (seqK_n (sem_seq (sem_seq (sem_region rfl (step_r rfl rfl trivial (step_nil (seqK_n ?_)))))))
         refine sem_cutW (fun w_ : Unit => match w_ with | () => (⟨[], [], 0, [], 80, 0⟩ : St)) (fun w_ => sameAR_L0 a b (a.Effects.length - 0) 0 = .inr w_) ?_ ?_
         ·refine sem_block ?_
          refine sem_loopT (fun k0 : Nat => (⟨[(2, .ptr 0 0), (3, .ptr 1 0), (5, I k0)], [(0, .box [I a.Id, I a.Cast, I a.Cool, I a.Charges, I a.Range, I a.Cost, B a.Sight, .pv (.slc a.Effects.length false (a.Effects.flatMap encGEffect))]), (1, .box [I b.Id, I b.Cast, I b.Cool, I b.Charges, I b.Range, I b.Cost, B b.Sight, .pv (.slc b.Effects.length false (b.Effects.flatMap encGEffect))])], 2, [], 80, 0⟩ : St)) (fun k0 : Nat => sameAR_L0 a b (a.Effects.length - k0) k0 = sameAR_L0 a b (a.Effects.length - 0) 0 ∧ k0 ≤ a.Effects.length) (fun k0 : Nat => a.Effects.length - k0) 0 (⟨rfl, (by first | omega | (simp; omega))⟩) ?_ (fun k0 hh_ => ?_)
          ·exact (Trans.ren [] (by decide +kernel) (by decide +kernel) rfl ⟨⟨rfl, rfl⟩, ⟨rfl, rfl⟩, ⟨rfl, rfl⟩, trivial⟩ ⟨⟨rfl, rfl, rfl⟩, ⟨rfl, rfl, rfl⟩, trivial⟩ (by decide))
          obtain ⟨hI0, hb0⟩ := hh_
          show Walks Tryz.prog _ _ (⟨[(2, .ptr 0 0), (3, .ptr 1 0), (5, I k0)], [(0, .box [I a.Id, I a.Cast, I a.Cool, I a.Charges, I a.Range, I a.Cost, B a.Sight, .pv (.slc a.Effects.length false (a.Effects.flatMap encGEffect))]), (1, .box [I b.Id, I b.Cast, I b.Cool, I b.Charges, I b.Range, I b.Cost, B b.Sight, .pv (.slc b.Effects.length false (b.Effects.flatMap encGEffect))])], 2, [], 80, 0⟩ : St)
          refine sem_seq (sem_seq (sem_region rfl (step_r rfl rfl trivial (step_r rfl rfl (by decide) (step_r rfl rfl trivial (step_r rfl rfl trivial (step_bin rfl rfl rfl rfl rfl trivial (step_nil (seqK_n ?_)))))))))
          refine sem_cond rfl (fun h27 => ?_) (fun h27 => ?_)
          ·have g27 : (k0 : Int) < a.Effects.length := of_decide_eq_true h27
           have hm0 : a.Effects.length - k0 = (a.Effects.length - (k0 + 1)) + 1 := by omega
           refine sem_skip (seqK_n (sem_seq (sem_block (sem_seq ?_))))
           refine sem_drawn rfl (by decide +kernel) rfl ?_
           refine step_r rfl rfl (by decide) (step_r rfl rfl trivial (step_r rfl rfl trivial ?_))
           have jk28 : k0 < a.Effects.length := by first | assumption | omega | (simp only [List.length_set, List.length_append]; omega) | (simp only [IntKind.wrap_i64] at *; omega) | (simp; omega) | simp_all
           refine step_idxS (k := k0) rfl rfl rfl rfl jk28 (flat_ne (s := 3) (enc := encGEffect) (fun _ => rfl) (by decide) jk28) rfl (step_load_row rfl rfl rfl (flat_lt (s := 3) (enc := encGEffect) (fun _ => rfl) jk28) (flat_take (s := 3) (enc := encGEffect) (fun _ => rfl) (get_getD jk28)) rfl (step_r rfl rfl (by decide) (step_r rfl rfl trivial (step_r rfl rfl trivial ?_))))
           have jk29 : k0 < b.Effects.length := by first | assumption | omega | (simp only [List.length_set, List.length_append]; omega) | (simp only [IntKind.wrap_i64] at *; omega) | (simp; omega) | simp_all
           refine step_idxS (k := k0) rfl rfl rfl rfl jk29 (flat_ne (s := 3) (enc := encGEffect) (fun _ => rfl) (by decide) jk29) rfl (step_load_row rfl rfl rfl (flat_lt (s := 3) (enc := encGEffect) (fun _ => rfl) jk29) (flat_take (s := 3) (enc := encGEffect) (fun _ => rfl) (get_getD jk29)) rfl ?_)
           refine step_neqA rfl rfl rfl (by kernel_rfl) rfl rfl rfl rfl rfl ?_
           refine step_nil (seqK_n ?_)
           refine sem_cond rfl (fun h30 => ?_) (fun h30 => ?_)
           ·have g30 : ¬ (((((a.Effects.getD k0 default).Kind) == ((b.Effects.getD k0 default).Kind)) && ((((a.Effects.getD k0 default).Amount) == ((b.Effects.getD k0 default).Amount)) && ((((a.Effects.getD k0 default).Aura) == ((b.Effects.getD k0 default).Aura)) && true))) = true) := boo_f (not_t h30)
            refine sem_seq (sem_region rfl (step_r rfl rfl trivial (step_nil (seqK_n (sem_ret (blkK_r (seqK_r (lupK_r (blkK_r (cutW_r (seqK_r ?_)))))))))))
            have e31 : sameAR_L0 a b (a.Effects.length - 0) 0 = .inl false := by
             rewrite [← hI0, hm0]
             rewrite [sameAR_L0]
             try dsimp only
             rewrite [if_neg g30]
             all_goals rfl
            have e32 : sameAR a b = false := by
             unfold sameAR
             try dsimp only
             rewrite [if_pos g2, if_pos g5, if_pos g8, if_pos g11, if_pos g14, if_pos g17, if_pos g20, if_pos g23, e31]
             try dsimp only
             all_goals rfl
            rw [e32]
            exact answersR rfl ⟨trivial, trivial⟩ (rfl) rfl
           ·have g30 : ((((a.Effects.getD k0 default).Kind) == ((b.Effects.getD k0 default).Kind)) && ((((a.Effects.getD k0 default).Amount) == ((b.Effects.getD k0 default).Amount)) && ((((a.Effects.getD k0 default).Aura) == ((b.Effects.getD k0 default).Aura)) && true))) = true := (not_f h30)
            refine sem_skip (blkK_n (seqK_n (sem_region rfl (step_r rfl rfl trivial (step_bin rfl rfl rfl rfl rfl trivial (step_r rfl rfl trivial (step_nil ?_)))))))
            have e34 : sameAR_L0 a b (a.Effects.length - k0) k0 = sameAR_L0 a b (a.Effects.length - (k0 + 1)) (k0 + 1) := by
             rewrite [hm0]
             rewrite [sameAR_L0]
             try dsimp only
             rewrite [if_pos g30]
             all_goals rfl
            exact lup_againT (k0 + 1) ⟨e34.symm.trans hI0, (by omega)⟩ (by show a.Effects.length - (k0 + 1) < a.Effects.length - k0; omega) (Trans.ren [] (by decide +kernel) (by decide +kernel) rfl ⟨⟨rfl, rfl⟩, ⟨rfl, rfl⟩, ⟨congrArg (fun n => some (I n)) (wrapI (k := k0) (by first | omega | (simp; omega))), rfl⟩, trivial⟩ ⟨⟨rfl, rfl, rfl⟩, ⟨rfl, rfl, rfl⟩, trivial⟩ (by decide))
          ·have g27 : ¬ ((k0 : Int) < a.Effects.length) := of_decide_eq_false h27
           have hm0 : a.Effects.length - k0 = 0 := by omega
           refine sem_exit (seqK_e (lupK_e (blkK_t rfl ?_)))
           have e35 : sameAR_L0 a b (a.Effects.length - 0) 0 = .inr () := by
            rewrite [← hI0, hm0]
            rewrite [sameAR_L0]
            try dsimp only
            all_goals rfl
           exact cutW_n () e35 (Trans.ren [] (by decide +kernel) (by decide +kernel) rfl trivial trivial (by decide))
         ·rintro ⟨⟩ (hJ25 : sameAR_L0 a b (a.Effects.length - 0) 0 = .inr ())
          show seqK _ _ _ .normal (⟨[], [], 0, [], 80, 0⟩ : St)
          refine seqK_n (sem_seq (sem_region rfl (step_r rfl rfl trivial (step_nil (seqK_n (sem_ret ?_))))))
          have e36 : sameAR a b = true := by
           unfold sameAR
           try dsimp only
           rewrite [if_pos g2, if_pos g5, if_pos g8, if_pos g11, if_pos g14, if_pos g17, if_pos g20, if_pos g23, hJ25]
           try dsimp only
           all_goals rfl
          rw [e36]
          exact answersR rfl ⟨trivial, trivial⟩ (rfl) rfl

def sameFR_L0 (a : GFoe) (b : GFoe) : Nat → Nat → Sum Bool Unit
  | 0, k0 => .inr ()
  | n_ + 1, k0 => if ((((a.Script.getD k0 default).Phase) == ((b.Script.getD k0 default).Phase)) && ((((a.Script.getD k0 default).When) == ((b.Script.getD k0 default).When)) && ((((a.Script.getD k0 default).Arg) == ((b.Script.getD k0 default).Arg)) && ((((a.Script.getD k0 default).Do) == ((b.Script.getD k0 default).Do)) && ((((a.Script.getD k0 default).Value) == ((b.Script.getD k0 default).Value)) && true))))) = true then sameFR_L0 a b n_ (k0 + 1) else .inl false
def sameFR_L1 (a : GFoe) (b : GFoe) : Nat → Nat → Sum Bool Unit
  | 0, k1 => .inr ()
  | n_ + 1, k1 => if ((((a.Hoard.getD k1 default).Item) == ((b.Hoard.getD k1 default).Item)) && ((((a.Hoard.getD k1 default).Weight) == ((b.Hoard.getD k1 default).Weight)) && true)) = true then sameFR_L1 a b n_ (k1 + 1) else .inl false
def sameFR (a : GFoe) (b : GFoe) : Bool :=
  if (a.Id : Int) = b.Id then (if (a.Health : Int) = b.Health then (if (a.Hit : Int) = b.Hit then (if (a.Every : Int) = b.Every then (if (a.Reach : Int) = b.Reach then (if (a.Drops : Int) = b.Drops then (if (a.Script.length : Int) = b.Script.length then (if (a.Hoard.length : Int) = b.Hoard.length then (match sameFR_L0 a b (a.Script.length - 0) 0 with
    | .inl r_ => r_
    | .inr () => (match sameFR_L1 a b (a.Hoard.length - 0) 0 with
    | .inl r_ => r_
    | .inr () => true)) else false) else false) else false) else false) else false) else false) else false) else false
theorem sameFR_ok (a : GFoe) (b : GFoe) : Ok Tryz.prog 37 [aGFoe a, aGFoe b] [] (B (sameFR a b)) [] [] := by
 refine Ok.len fun hlen => ?_
 have hl_a_Script : a.Script.length ≤ maxLen := hlen _ (by simp [lensL, lens, lensP])
 have hl_a_Hoard : a.Hoard.length ≤ maxLen := hlen _ (by simp [lensL, lens, lensP])
 have hl_b_Script : b.Script.length ≤ maxLen := hlen _ (by simp [lensL, lens, lensP])
 have hl_b_Hoard : b.Hoard.length ≤ maxLen := hlen _ (by simp [lensL, lens, lensP])
 unfold maxLen at hl_a_Script hl_a_Hoard hl_b_Script hl_b_Hoard
 refine ok_of_sem Tryz.func37 rfl ?_
 show Walks Tryz.prog _ _ ⟨[(0, aGFoe a), (1, aGFoe b)], [], 0, [], 101, 0⟩
 refine sem_seq (sem_region rfl (step_n (o := .box [_, _, _, _, _, _, _, _]) (nx' := 1) rfl rfl rfl trivial (step_n (o := .box [_, _, _, _, _, _, _, _]) (nx' := 2) rfl rfl rfl trivial (step_r rfl rfl trivial (step_nil (seqK_n (sem_seq (sem_seq (sem_region rfl (step_r rfl rfl (by decide) (step_r rfl rfl trivial ?_)))))))))))
 refine step_r rfl rfl (by decide) (step_r rfl rfl trivial (step_bin rfl rfl rfl rfl rfl trivial (step_r rfl rfl trivial ?_)))
 refine step_gs rfl (fun h2 => ?_) (fun h2 => ?_)
 ·have g2 : ¬ ((a.Id : Int) = b.Id) := bne_t h2
  refine step_g0 rfl h2 rfl (step_g0 rfl h2 rfl (step_g0 rfl h2 rfl (step_g0 rfl h2 rfl (step_g0 rfl h2 rfl (step_pickT rfl h2 rfl rfl (step_r rfl rfl trivial (step_gf rfl rfl (step_gf rfl rfl (step_gf rfl rfl (step_gf rfl rfl (step_gf rfl rfl ?_)))))))))))
  refine step_r rfl rfl trivial (step_r rfl rfl trivial (step_gf rfl rfl (step_gf rfl rfl (step_gf rfl rfl (step_gf rfl rfl (step_gf rfl rfl (step_r rfl rfl trivial (step_r rfl rfl trivial (step_gf rfl rfl (step_gf rfl rfl (step_gf rfl rfl ?_)))))))))))
  refine step_gf rfl rfl (step_gf rfl rfl (step_r rfl rfl trivial (step_r rfl rfl trivial (step_gf rfl rfl (step_gf rfl rfl (step_gf rfl rfl (step_gf rfl rfl (step_gf rfl rfl (step_r rfl rfl trivial (step_r rfl rfl trivial (step_gf rfl rfl ?_)))))))))))
  refine step_gf rfl rfl (step_gf rfl rfl (step_gf rfl rfl (step_gf rfl rfl (step_gf rfl rfl (step_gf rfl rfl (step_r rfl rfl trivial (step_r rfl rfl trivial (step_gf rfl rfl (step_gf rfl rfl (step_gf rfl rfl (step_gf rfl rfl ?_)))))))))))
  refine step_gf rfl rfl (step_gf rfl rfl (step_gf rfl rfl (step_r rfl rfl trivial (step_nil (seqK_n (sem_condT rfl (sem_seq (sem_region rfl (step_r rfl rfl trivial (step_nil (seqK_n ?_)))))))))))
  refine sem_ret (seqK_r ?_)
  have e3 : sameFR a b = false := by
   unfold sameFR
   try dsimp only
   rewrite [if_neg g2]
   all_goals rfl
  rw [e3]
  exact answersR rfl ⟨trivial, trivial⟩ (rfl) rfl
 ·have g2 : (a.Id : Int) = b.Id := bne_f h2
  refine step_g1 rfl h2 (step_r rfl rfl (by decide) (step_g1 rfl h2 (step_r rfl rfl trivial (step_g1 rfl h2 (step_r rfl rfl (by decide) (step_g1 rfl h2 (step_r rfl rfl trivial (step_g1 rfl h2 (step_bin rfl rfl rfl rfl rfl trivial (step_pickF rfl h2 rfl rfl (step_r rfl rfl trivial ?_)))))))))))
  refine step_gs rfl (fun h5 => ?_) (fun h5 => ?_)
  ·have g5 : ¬ ((a.Health : Int) = b.Health) := bne_t h5
   refine step_g0 rfl h5 rfl (step_g0 rfl h5 rfl (step_g0 rfl h5 rfl (step_g0 rfl h5 rfl (step_g0 rfl h5 rfl (step_pickT rfl h5 rfl rfl (step_r rfl rfl trivial (step_gf rfl rfl (step_gf rfl rfl (step_gf rfl rfl (step_gf rfl rfl (step_gf rfl rfl ?_)))))))))))
   refine step_r rfl rfl trivial (step_r rfl rfl trivial (step_gf rfl rfl (step_gf rfl rfl (step_gf rfl rfl (step_gf rfl rfl (step_gf rfl rfl (step_r rfl rfl trivial (step_r rfl rfl trivial (step_gf rfl rfl (step_gf rfl rfl (step_gf rfl rfl ?_)))))))))))
   refine step_gf rfl rfl (step_gf rfl rfl (step_r rfl rfl trivial (step_r rfl rfl trivial (step_gf rfl rfl (step_gf rfl rfl (step_gf rfl rfl (step_gf rfl rfl (step_gf rfl rfl (step_gf rfl rfl (step_gf rfl rfl (step_r rfl rfl trivial ?_)))))))))))
   refine step_r rfl rfl trivial (step_gf rfl rfl (step_gf rfl rfl (step_gf rfl rfl (step_gf rfl rfl (step_gf rfl rfl (step_gf rfl rfl (step_gf rfl rfl (step_r rfl rfl trivial (step_nil (seqK_n (sem_condT rfl ?_)))))))))))
   refine sem_seq (sem_region rfl (step_r rfl rfl trivial (step_nil (seqK_n (sem_ret (seqK_r ?_))))))
   have e6 : sameFR a b = false := by
    unfold sameFR
    try dsimp only
    rewrite [if_pos g2, if_neg g5]
    all_goals rfl
   rw [e6]
   exact answersR rfl ⟨trivial, trivial⟩ (rfl) rfl
  ·have g5 : (a.Health : Int) = b.Health := bne_f h5
   refine step_g1 rfl h5 (step_r rfl rfl (by decide) (step_g1 rfl h5 (step_r rfl rfl trivial (step_g1 rfl h5 (step_r rfl rfl (by decide) (step_g1 rfl h5 (step_r rfl rfl trivial (step_g1 rfl h5 (step_bin rfl rfl rfl rfl rfl trivial (step_pickF rfl h5 rfl rfl (step_r rfl rfl trivial ?_)))))))))))
   refine step_gs rfl (fun h8 => ?_) (fun h8 => ?_)
   ·have g8 : ¬ ((a.Hit : Int) = b.Hit) := bne_t h8
    refine step_g0 rfl h8 rfl (step_g0 rfl h8 rfl (step_g0 rfl h8 rfl (step_g0 rfl h8 rfl (step_g0 rfl h8 rfl (step_pickT rfl h8 rfl rfl (step_r rfl rfl trivial (step_gf rfl rfl (step_gf rfl rfl (step_gf rfl rfl (step_gf rfl rfl (step_gf rfl rfl ?_)))))))))))
    refine step_r rfl rfl trivial (step_r rfl rfl trivial (step_gf rfl rfl (step_gf rfl rfl (step_gf rfl rfl (step_gf rfl rfl (step_gf rfl rfl (step_r rfl rfl trivial (step_r rfl rfl trivial (step_gf rfl rfl (step_gf rfl rfl (step_gf rfl rfl ?_)))))))))))
    refine step_gf rfl rfl (step_gf rfl rfl (step_gf rfl rfl (step_gf rfl rfl (step_r rfl rfl trivial (step_r rfl rfl trivial (step_gf rfl rfl (step_gf rfl rfl (step_gf rfl rfl (step_gf rfl rfl (step_gf rfl rfl (step_gf rfl rfl ?_)))))))))))
    refine step_gf rfl rfl (step_r rfl rfl trivial (step_nil (seqK_n (sem_condT rfl (sem_seq (sem_region rfl (step_r rfl rfl trivial (step_nil (seqK_n (sem_ret (seqK_r ?_)))))))))))
    have e9 : sameFR a b = false := by
     unfold sameFR
     try dsimp only
     rewrite [if_pos g2, if_pos g5, if_neg g8]
     all_goals rfl
    rw [e9]
    exact answersR rfl ⟨trivial, trivial⟩ (rfl) rfl
   ·have g8 : (a.Hit : Int) = b.Hit := bne_f h8
    refine step_g1 rfl h8 (step_r rfl rfl (by decide) (step_g1 rfl h8 (step_r rfl rfl trivial (step_g1 rfl h8 (step_r rfl rfl (by decide) (step_g1 rfl h8 (step_r rfl rfl trivial (step_g1 rfl h8 (step_bin rfl rfl rfl rfl rfl trivial (step_pickF rfl h8 rfl rfl (step_r rfl rfl trivial ?_)))))))))))
    refine step_gs rfl (fun h11 => ?_) (fun h11 => ?_)
    ·have g11 : ¬ ((a.Every : Int) = b.Every) := bne_t h11
     refine step_g0 rfl h11 rfl (step_g0 rfl h11 rfl (step_g0 rfl h11 rfl (step_g0 rfl h11 rfl (step_g0 rfl h11 rfl (step_pickT rfl h11 rfl rfl (step_r rfl rfl trivial (step_gf rfl rfl (step_gf rfl rfl (step_gf rfl rfl (step_gf rfl rfl (step_gf rfl rfl ?_)))))))))))
     refine step_r rfl rfl trivial (step_r rfl rfl trivial (step_gf rfl rfl (step_gf rfl rfl (step_gf rfl rfl (step_gf rfl rfl (step_gf rfl rfl (step_gf rfl rfl (step_gf rfl rfl (step_r rfl rfl trivial (step_r rfl rfl trivial (step_gf rfl rfl ?_)))))))))))
     refine step_gf rfl rfl (step_gf rfl rfl (step_gf rfl rfl (step_gf rfl rfl (step_gf rfl rfl (step_gf rfl rfl (step_r rfl rfl trivial (step_nil (seqK_n (sem_condT rfl (sem_seq (sem_region rfl ?_)))))))))))
     refine step_r rfl rfl trivial (step_nil (seqK_n (sem_ret (seqK_r ?_))))
     have e12 : sameFR a b = false := by
      unfold sameFR
      try dsimp only
      rewrite [if_pos g2, if_pos g5, if_pos g8, if_neg g11]
      all_goals rfl
     rw [e12]
     exact answersR rfl ⟨trivial, trivial⟩ (rfl) rfl
    ·have g11 : (a.Every : Int) = b.Every := bne_f h11
     refine step_g1 rfl h11 (step_r rfl rfl (by decide) (step_g1 rfl h11 (step_r rfl rfl trivial (step_g1 rfl h11 (step_r rfl rfl (by decide) (step_g1 rfl h11 (step_r rfl rfl trivial (step_g1 rfl h11 (step_bin rfl rfl rfl rfl rfl trivial (step_pickF rfl h11 rfl rfl (step_r rfl rfl trivial ?_)))))))))))
     refine step_gs rfl (fun h14 => ?_) (fun h14 => ?_)
     ·have g14 : ¬ ((a.Reach : Int) = b.Reach) := bne_t h14
      refine step_g0 rfl h14 rfl (step_g0 rfl h14 rfl (step_g0 rfl h14 rfl (step_g0 rfl h14 rfl (step_g0 rfl h14 rfl (step_pickT rfl h14 rfl rfl (step_r rfl rfl trivial (step_gf rfl rfl (step_gf rfl rfl (step_gf rfl rfl (step_gf rfl rfl (step_gf rfl rfl ?_)))))))))))
      refine step_gf rfl rfl (step_gf rfl rfl (step_r rfl rfl trivial (step_r rfl rfl trivial (step_gf rfl rfl (step_gf rfl rfl (step_gf rfl rfl (step_gf rfl rfl (step_gf rfl rfl (step_gf rfl rfl (step_gf rfl rfl (step_r rfl rfl trivial ?_)))))))))))
      refine step_nil (seqK_n (sem_condT rfl (sem_seq (sem_region rfl (step_r rfl rfl trivial (step_nil (seqK_n (sem_ret (seqK_r ?_)))))))))
      have e15 : sameFR a b = false := by
       unfold sameFR
       try dsimp only
       rewrite [if_pos g2, if_pos g5, if_pos g8, if_pos g11, if_neg g14]
       all_goals rfl
      rw [e15]
      exact answersR rfl ⟨trivial, trivial⟩ (rfl) rfl
     ·have g14 : (a.Reach : Int) = b.Reach := bne_f h14
      refine step_g1 rfl h14 (step_r rfl rfl (by decide) (step_g1 rfl h14 (step_r rfl rfl trivial (step_g1 rfl h14 (step_r rfl rfl (by decide) (step_g1 rfl h14 (step_r rfl rfl trivial (step_g1 rfl h14 (step_bin rfl rfl rfl rfl rfl trivial (step_pickF rfl h14 rfl rfl (step_r rfl rfl trivial ?_)))))))))))
      refine step_gs rfl (fun h17 => ?_) (fun h17 => ?_)
      ·have g17 : ¬ ((a.Drops : Int) = b.Drops) := bne_t h17
       refine step_g0 rfl h17 rfl (step_g0 rfl h17 rfl (step_g0 rfl h17 rfl (step_g0 rfl h17 rfl (step_g0 rfl h17 rfl (step_g0 rfl h17 rfl (step_g0 rfl h17 rfl (step_pickT rfl h17 rfl rfl (step_r rfl rfl trivial (step_gf rfl rfl (step_gf rfl rfl (step_gf rfl rfl ?_)))))))))))
       refine step_gf rfl rfl (step_gf rfl rfl (step_gf rfl rfl (step_gf rfl rfl (step_r rfl rfl trivial (step_nil (seqK_n (sem_condT rfl (sem_seq (sem_region rfl (step_r rfl rfl trivial (step_nil ?_)))))))))))
       refine seqK_n (sem_ret (seqK_r ?_))
       have e18 : sameFR a b = false := by
        unfold sameFR
        try dsimp only
        rewrite [if_pos g2, if_pos g5, if_pos g8, if_pos g11, if_pos g14, if_neg g17]
        all_goals rfl
       rw [e18]
       exact answersR rfl ⟨trivial, trivial⟩ (rfl) rfl
      ·have g17 : (a.Drops : Int) = b.Drops := bne_f h17
       refine step_g1 rfl h17 (step_r rfl rfl (by decide) (step_g1 rfl h17 (step_r rfl rfl trivial (step_g1 rfl h17 (step_r rfl rfl trivial (step_g1 rfl h17 (step_r rfl rfl (by decide) (step_g1 rfl h17 (step_r rfl rfl trivial (step_g1 rfl h17 (step_r rfl rfl trivial ?_)))))))))))
       refine step_g1 rfl h17 (step_bin rfl rfl rfl rfl rfl trivial (step_pickF rfl h17 rfl rfl (step_r rfl rfl trivial ?_)))
       refine step_gs rfl (fun h20 => ?_) (fun h20 => ?_)
       ·have g20 : ¬ ((a.Script.length : Int) = b.Script.length) := bne_t h20
        refine step_g0 rfl h20 rfl (step_g0 rfl h20 rfl (step_g0 rfl h20 rfl (step_g0 rfl h20 rfl (step_g0 rfl h20 rfl (step_g0 rfl h20 rfl (step_g0 rfl h20 rfl (step_pickT rfl h20 rfl rfl (step_nil (seqK_n (sem_condT rfl (sem_seq ?_)))))))))))
        refine sem_region rfl (step_r rfl rfl trivial (step_nil (seqK_n (sem_ret (seqK_r ?_)))))
        have e21 : sameFR a b = false := by
         unfold sameFR
         try dsimp only
         rewrite [if_pos g2, if_pos g5, if_pos g8, if_pos g11, if_pos g14, if_pos g17, if_neg g20]
         all_goals rfl
        rw [e21]
        exact answersR rfl ⟨trivial, trivial⟩ (rfl) rfl
       ·have g20 : (a.Script.length : Int) = b.Script.length := bne_f h20
        refine step_g1 rfl h20 (step_r rfl rfl (by decide) (step_g1 rfl h20 (step_r rfl rfl trivial (step_g1 rfl h20 (step_r rfl rfl trivial (step_g1 rfl h20 (step_r rfl rfl (by decide) (step_g1 rfl h20 (step_r rfl rfl trivial (step_g1 rfl h20 (step_r rfl rfl trivial ?_)))))))))))
        refine step_g1 rfl h20 (step_bin rfl rfl rfl rfl rfl trivial (step_pickF rfl h20 rfl rfl (step_nil (seqK_n ?_))))
        refine sem_cond rfl (fun h23 => ?_) (fun h23 => ?_)
        ·have g23 : ¬ ((a.Hoard.length : Int) = b.Hoard.length) := bne_t h23
         refine sem_seq (sem_region rfl (step_r rfl rfl trivial (step_nil (seqK_n (sem_ret (seqK_r ?_))))))
         have e24 : sameFR a b = false := by
          unfold sameFR
          try dsimp only
          rewrite [if_pos g2, if_pos g5, if_pos g8, if_pos g11, if_pos g14, if_pos g17, if_pos g20, if_neg g23]
          all_goals rfl
         rw [e24]
         exact answersR rfl ⟨trivial, trivial⟩ (rfl) rfl
        ·have g23 : (a.Hoard.length : Int) = b.Hoard.length := bne_f h23
         refine sem_skip (seqK_n (sem_seq (sem_seq (sem_region rfl (step_r rfl rfl trivial (step_nil (seqK_n ?_)))))))
         refine sem_cutW (fun w_ : Unit => match w_ with | () => (⟨[(2, .ptr 0 0), (3, .ptr 1 0)], [(0, .box [I a.Id, I a.Health, I a.Hit, I a.Every, I a.Reach, .pv (.slc a.Script.length false (a.Script.flatMap encGLine)), .pv (.slc a.Hoard.length false (a.Hoard.flatMap encGPrize)), I a.Drops]), (1, .box [I b.Id, I b.Health, I b.Hit, I b.Every, I b.Reach, .pv (.slc b.Script.length false (b.Script.flatMap encGLine)), .pv (.slc b.Hoard.length false (b.Hoard.flatMap encGPrize)), I b.Drops])], 2, [], 101, 0⟩ : St)) (fun w_ => sameFR_L0 a b (a.Script.length - 0) 0 = .inr w_) ?_ ?_
         ·refine sem_block ?_
          refine sem_loopT (fun k0 : Nat => (⟨[(2, .ptr 0 0), (3, .ptr 1 0), (5, I k0)], [(0, .box [I a.Id, I a.Health, I a.Hit, I a.Every, I a.Reach, .pv (.slc a.Script.length false (a.Script.flatMap encGLine)), .pv (.slc a.Hoard.length false (a.Hoard.flatMap encGPrize)), I a.Drops]), (1, .box [I b.Id, I b.Health, I b.Hit, I b.Every, I b.Reach, .pv (.slc b.Script.length false (b.Script.flatMap encGLine)), .pv (.slc b.Hoard.length false (b.Hoard.flatMap encGPrize)), I b.Drops])], 2, [], 101, 0⟩ : St)) (fun k0 : Nat => sameFR_L0 a b (a.Script.length - k0) k0 = sameFR_L0 a b (a.Script.length - 0) 0 ∧ k0 ≤ a.Script.length) (fun k0 : Nat => a.Script.length - k0) 0 (⟨rfl, (by first | omega | (simp; omega))⟩) ?_ (fun k0 hh_ => ?_)
          ·exact (Trans.ren [] (by decide +kernel) (by decide +kernel) rfl ⟨⟨rfl, rfl⟩, ⟨rfl, rfl⟩, ⟨rfl, rfl⟩, trivial⟩ ⟨⟨rfl, rfl, rfl⟩, ⟨rfl, rfl, rfl⟩, trivial⟩ (by decide))
          obtain ⟨hI0, hb0⟩ := hh_
          show Walks Tryz.prog _ _ (⟨[(2, .ptr 0 0), (3, .ptr 1 0), (5, I k0)], [(0, .box [I a.Id, I a.Health, I a.Hit, I a.Every, I a.Reach, .pv (.slc a.Script.length false (a.Script.flatMap encGLine)), .pv (.slc a.Hoard.length false (a.Hoard.flatMap encGPrize)), I a.Drops]), (1, .box [I b.Id, I b.Health, I b.Hit, I b.Every, I b.Reach, .pv (.slc b.Script.length false (b.Script.flatMap encGLine)), .pv (.slc b.Hoard.length false (b.Hoard.flatMap encGPrize)), I b.Drops])], 2, [], 101, 0⟩ : St)
          refine sem_seq (sem_seq (sem_region rfl (step_r rfl rfl trivial (step_r rfl rfl (by decide) (step_r rfl rfl trivial (step_r rfl rfl trivial (step_bin rfl rfl rfl rfl rfl trivial (step_nil (seqK_n ?_)))))))))
          refine sem_cond rfl (fun h27 => ?_) (fun h27 => ?_)
          ·have g27 : (k0 : Int) < a.Script.length := of_decide_eq_true h27
           have hm0 : a.Script.length - k0 = (a.Script.length - (k0 + 1)) + 1 := by omega
           refine sem_skip (seqK_n (sem_seq (sem_block (sem_seq ?_))))
           refine sem_drawn rfl (by decide +kernel) rfl ?_
           refine step_r rfl rfl (by decide) (step_r rfl rfl trivial (step_r rfl rfl trivial ?_))
           have jk28 : k0 < a.Script.length := by first | assumption | omega | (simp only [List.length_set, List.length_append]; omega) | (simp only [IntKind.wrap_i64] at *; omega) | (simp; omega) | simp_all
           refine step_idxS (k := k0) rfl rfl rfl rfl jk28 (flat_ne (s := 5) (enc := encGLine) (fun _ => rfl) (by decide) jk28) rfl (step_load_row rfl rfl rfl (flat_lt (s := 5) (enc := encGLine) (fun _ => rfl) jk28) (flat_take (s := 5) (enc := encGLine) (fun _ => rfl) (get_getD jk28)) rfl (step_r rfl rfl (by decide) (step_r rfl rfl trivial (step_r rfl rfl trivial ?_))))
           have jk29 : k0 < b.Script.length := by first | assumption | omega | (simp only [List.length_set, List.length_append]; omega) | (simp only [IntKind.wrap_i64] at *; omega) | (simp; omega) | simp_all
           refine step_idxS (k := k0) rfl rfl rfl rfl jk29 (flat_ne (s := 5) (enc := encGLine) (fun _ => rfl) (by decide) jk29) rfl (step_load_row rfl rfl rfl (flat_lt (s := 5) (enc := encGLine) (fun _ => rfl) jk29) (flat_take (s := 5) (enc := encGLine) (fun _ => rfl) (get_getD jk29)) rfl ?_)
           refine step_neqA rfl rfl rfl (by kernel_rfl) rfl rfl rfl rfl rfl ?_
           refine step_nil (seqK_n ?_)
           refine sem_cond rfl (fun h30 => ?_) (fun h30 => ?_)
           ·have g30 : ¬ (((((a.Script.getD k0 default).Phase) == ((b.Script.getD k0 default).Phase)) && ((((a.Script.getD k0 default).When) == ((b.Script.getD k0 default).When)) && ((((a.Script.getD k0 default).Arg) == ((b.Script.getD k0 default).Arg)) && ((((a.Script.getD k0 default).Do) == ((b.Script.getD k0 default).Do)) && ((((a.Script.getD k0 default).Value) == ((b.Script.getD k0 default).Value)) && true))))) = true) := boo_f (not_t h30)
            refine sem_seq (sem_region rfl (step_r rfl rfl trivial (step_nil (seqK_n (sem_ret (blkK_r (seqK_r (lupK_r (blkK_r (cutW_r (seqK_r ?_)))))))))))
            have e31 : sameFR_L0 a b (a.Script.length - 0) 0 = .inl false := by
             rewrite [← hI0, hm0]
             rewrite [sameFR_L0]
             try dsimp only
             rewrite [if_neg g30]
             all_goals rfl
            have e32 : sameFR a b = false := by
             unfold sameFR
             try dsimp only
             rewrite [if_pos g2, if_pos g5, if_pos g8, if_pos g11, if_pos g14, if_pos g17, if_pos g20, if_pos g23, e31]
             try dsimp only
             all_goals rfl
            rw [e32]
            exact answersR rfl ⟨trivial, trivial⟩ (rfl) rfl
           ·have g30 : ((((a.Script.getD k0 default).Phase) == ((b.Script.getD k0 default).Phase)) && ((((a.Script.getD k0 default).When) == ((b.Script.getD k0 default).When)) && ((((a.Script.getD k0 default).Arg) == ((b.Script.getD k0 default).Arg)) && ((((a.Script.getD k0 default).Do) == ((b.Script.getD k0 default).Do)) && ((((a.Script.getD k0 default).Value) == ((b.Script.getD k0 default).Value)) && true))))) = true := (not_f h30)
            refine sem_skip (blkK_n (seqK_n (sem_region rfl (step_r rfl rfl trivial (step_bin rfl rfl rfl rfl rfl trivial (step_r rfl rfl trivial (step_nil ?_)))))))
            have e34 : sameFR_L0 a b (a.Script.length - k0) k0 = sameFR_L0 a b (a.Script.length - (k0 + 1)) (k0 + 1) := by
             rewrite [hm0]
             rewrite [sameFR_L0]
             try dsimp only
             rewrite [if_pos g30]
             all_goals rfl
            exact lup_againT (k0 + 1) ⟨e34.symm.trans hI0, (by omega)⟩ (by show a.Script.length - (k0 + 1) < a.Script.length - k0; omega) (Trans.ren [] (by decide +kernel) (by decide +kernel) rfl ⟨⟨rfl, rfl⟩, ⟨rfl, rfl⟩, ⟨congrArg (fun n => some (I n)) (wrapI (k := k0) (by first | omega | (simp; omega))), rfl⟩, trivial⟩ ⟨⟨rfl, rfl, rfl⟩, ⟨rfl, rfl, rfl⟩, trivial⟩ (by decide))
          ·have g27 : ¬ ((k0 : Int) < a.Script.length) := of_decide_eq_false h27
           have hm0 : a.Script.length - k0 = 0 := by omega
           refine sem_exit (seqK_e (lupK_e (blkK_t rfl ?_)))
           have e35 : sameFR_L0 a b (a.Script.length - 0) 0 = .inr () := by
            rewrite [← hI0, hm0]
            rewrite [sameFR_L0]
            try dsimp only
            all_goals rfl
           exact cutW_n () e35 (Trans.ren [] (by decide +kernel) (by decide +kernel) rfl ⟨⟨rfl, rfl⟩, ⟨rfl, rfl⟩, trivial⟩ ⟨⟨rfl, rfl, rfl⟩, ⟨rfl, rfl, rfl⟩, trivial⟩ (by decide))
         ·rintro ⟨⟩ (hJ25 : sameFR_L0 a b (a.Script.length - 0) 0 = .inr ())
          show seqK _ _ _ .normal (⟨[(2, .ptr 0 0), (3, .ptr 1 0)], [(0, .box [I a.Id, I a.Health, I a.Hit, I a.Every, I a.Reach, .pv (.slc a.Script.length false (a.Script.flatMap encGLine)), .pv (.slc a.Hoard.length false (a.Hoard.flatMap encGPrize)), I a.Drops]), (1, .box [I b.Id, I b.Health, I b.Hit, I b.Every, I b.Reach, .pv (.slc b.Script.length false (b.Script.flatMap encGLine)), .pv (.slc b.Hoard.length false (b.Hoard.flatMap encGPrize)), I b.Drops])], 2, [], 101, 0⟩ : St)
          refine seqK_n (sem_seq (sem_seq (sem_region rfl (step_r rfl rfl trivial (step_nil (seqK_n ?_))))))
          refine sem_cutW (fun w_ : Unit => match w_ with | () => (⟨[], [], 0, [], 101, 0⟩ : St)) (fun w_ => sameFR_L1 a b (a.Hoard.length - 0) 0 = .inr w_) ?_ ?_
          ·refine sem_block ?_
           refine sem_loopT (fun k1 : Nat => (⟨[(2, .ptr 0 0), (3, .ptr 1 0), (6, I k1)], [(0, .box [I a.Id, I a.Health, I a.Hit, I a.Every, I a.Reach, .pv (.slc a.Script.length false (a.Script.flatMap encGLine)), .pv (.slc a.Hoard.length false (a.Hoard.flatMap encGPrize)), I a.Drops]), (1, .box [I b.Id, I b.Health, I b.Hit, I b.Every, I b.Reach, .pv (.slc b.Script.length false (b.Script.flatMap encGLine)), .pv (.slc b.Hoard.length false (b.Hoard.flatMap encGPrize)), I b.Drops])], 2, [], 101, 0⟩ : St)) (fun k1 : Nat => sameFR_L1 a b (a.Hoard.length - k1) k1 = sameFR_L1 a b (a.Hoard.length - 0) 0 ∧ k1 ≤ a.Hoard.length) (fun k1 : Nat => a.Hoard.length - k1) 0 (⟨rfl, (by first | omega | (simp; omega))⟩) ?_ (fun k1 hh_ => ?_)
           ·exact (Trans.ren [] (by decide +kernel) (by decide +kernel) rfl ⟨⟨rfl, rfl⟩, ⟨rfl, rfl⟩, ⟨rfl, rfl⟩, trivial⟩ ⟨⟨rfl, rfl, rfl⟩, ⟨rfl, rfl, rfl⟩, trivial⟩ (by decide))
           obtain ⟨hI1, hb1⟩ := hh_
           show Walks Tryz.prog _ _ (⟨[(2, .ptr 0 0), (3, .ptr 1 0), (6, I k1)], [(0, .box [I a.Id, I a.Health, I a.Hit, I a.Every, I a.Reach, .pv (.slc a.Script.length false (a.Script.flatMap encGLine)), .pv (.slc a.Hoard.length false (a.Hoard.flatMap encGPrize)), I a.Drops]), (1, .box [I b.Id, I b.Health, I b.Hit, I b.Every, I b.Reach, .pv (.slc b.Script.length false (b.Script.flatMap encGLine)), .pv (.slc b.Hoard.length false (b.Hoard.flatMap encGPrize)), I b.Drops])], 2, [], 101, 0⟩ : St)
           refine sem_seq (sem_seq (sem_region rfl (step_r rfl rfl trivial (step_r rfl rfl (by decide) (step_r rfl rfl trivial (step_r rfl rfl trivial (step_bin rfl rfl rfl rfl rfl trivial (step_nil (seqK_n ?_)))))))))
           refine sem_cond rfl (fun h38 => ?_) (fun h38 => ?_)
           ·have g38 : (k1 : Int) < a.Hoard.length := of_decide_eq_true h38
            have hm1 : a.Hoard.length - k1 = (a.Hoard.length - (k1 + 1)) + 1 := by omega
            refine sem_skip (seqK_n (sem_seq (sem_block (sem_seq ?_))))
            refine sem_drawn rfl (by decide +kernel) rfl ?_
            refine step_r rfl rfl (by decide) (step_r rfl rfl trivial (step_r rfl rfl trivial ?_))
            have jk39 : k1 < a.Hoard.length := by first | assumption | omega | (simp only [List.length_set, List.length_append]; omega) | (simp only [IntKind.wrap_i64] at *; omega) | (simp; omega) | simp_all
            refine step_idxS (k := k1) rfl rfl rfl rfl jk39 (flat_ne (s := 2) (enc := encGPrize) (fun _ => rfl) (by decide) jk39) rfl (step_load_row rfl rfl rfl (flat_lt (s := 2) (enc := encGPrize) (fun _ => rfl) jk39) (flat_take (s := 2) (enc := encGPrize) (fun _ => rfl) (get_getD jk39)) rfl (step_r rfl rfl (by decide) (step_r rfl rfl trivial (step_r rfl rfl trivial ?_))))
            have jk40 : k1 < b.Hoard.length := by first | assumption | omega | (simp only [List.length_set, List.length_append]; omega) | (simp only [IntKind.wrap_i64] at *; omega) | (simp; omega) | simp_all
            refine step_idxS (k := k1) rfl rfl rfl rfl jk40 (flat_ne (s := 2) (enc := encGPrize) (fun _ => rfl) (by decide) jk40) rfl (step_load_row rfl rfl rfl (flat_lt (s := 2) (enc := encGPrize) (fun _ => rfl) jk40) (flat_take (s := 2) (enc := encGPrize) (fun _ => rfl) (get_getD jk40)) rfl ?_)
            refine step_neqA rfl rfl rfl (by kernel_rfl) rfl rfl rfl rfl rfl ?_
            refine step_nil (seqK_n ?_)
            refine sem_cond rfl (fun h41 => ?_) (fun h41 => ?_)
            ·have g41 : ¬ (((((a.Hoard.getD k1 default).Item) == ((b.Hoard.getD k1 default).Item)) && ((((a.Hoard.getD k1 default).Weight) == ((b.Hoard.getD k1 default).Weight)) && true)) = true) := boo_f (not_t h41)
             refine sem_seq (sem_region rfl (step_r rfl rfl trivial (step_nil (seqK_n (sem_ret (blkK_r (seqK_r (lupK_r (blkK_r (cutW_r (seqK_r ?_)))))))))))
             have e42 : sameFR_L1 a b (a.Hoard.length - 0) 0 = .inl false := by
              rewrite [← hI1, hm1]
              rewrite [sameFR_L1]
              try dsimp only
              rewrite [if_neg g41]
              all_goals rfl
             have e43 : sameFR a b = false := by
              unfold sameFR
              try dsimp only
              rewrite [if_pos g2, if_pos g5, if_pos g8, if_pos g11, if_pos g14, if_pos g17, if_pos g20, if_pos g23, hJ25]
              try dsimp only
              rewrite [e42]
              try dsimp only
              all_goals rfl
             rw [e43]
             exact answersR rfl ⟨trivial, trivial⟩ (rfl) rfl
            ·have g41 : ((((a.Hoard.getD k1 default).Item) == ((b.Hoard.getD k1 default).Item)) && ((((a.Hoard.getD k1 default).Weight) == ((b.Hoard.getD k1 default).Weight)) && true)) = true := (not_f h41)
             refine sem_skip (blkK_n (seqK_n (sem_region rfl (step_r rfl rfl trivial (step_bin rfl rfl rfl rfl rfl trivial (step_r rfl rfl trivial (step_nil ?_)))))))
             have e45 : sameFR_L1 a b (a.Hoard.length - k1) k1 = sameFR_L1 a b (a.Hoard.length - (k1 + 1)) (k1 + 1) := by
              rewrite [hm1]
              rewrite [sameFR_L1]
              try dsimp only
              rewrite [if_pos g41]
              all_goals rfl
             exact lup_againT (k1 + 1) ⟨e45.symm.trans hI1, (by omega)⟩ (by show a.Hoard.length - (k1 + 1) < a.Hoard.length - k1; omega) (Trans.ren [] (by decide +kernel) (by decide +kernel) rfl ⟨⟨rfl, rfl⟩, ⟨rfl, rfl⟩, ⟨congrArg (fun n => some (I n)) (wrapI (k := k1) (by first | omega | (simp; omega))), rfl⟩, trivial⟩ ⟨⟨rfl, rfl, rfl⟩, ⟨rfl, rfl, rfl⟩, trivial⟩ (by decide))
           ·have g38 : ¬ ((k1 : Int) < a.Hoard.length) := of_decide_eq_false h38
            have hm1 : a.Hoard.length - k1 = 0 := by omega
            refine sem_exit (seqK_e (lupK_e (blkK_t rfl ?_)))
            have e46 : sameFR_L1 a b (a.Hoard.length - 0) 0 = .inr () := by
             rewrite [← hI1, hm1]
             rewrite [sameFR_L1]
             try dsimp only
             all_goals rfl
            exact cutW_n () e46 (Trans.ren [] (by decide +kernel) (by decide +kernel) rfl trivial trivial (by decide))
          ·rintro ⟨⟩ (hJ36 : sameFR_L1 a b (a.Hoard.length - 0) 0 = .inr ())
           show seqK _ _ _ .normal (⟨[], [], 0, [], 101, 0⟩ : St)
           refine seqK_n (sem_seq (sem_region rfl (step_r rfl rfl trivial (step_nil (seqK_n (sem_ret ?_))))))
           have e47 : sameFR a b = true := by
            unfold sameFR
            try dsimp only
            rewrite [if_pos g2, if_pos g5, if_pos g8, if_pos g11, if_pos g14, if_pos g17, if_pos g20, if_pos g23, hJ25]
            try dsimp only
            rewrite [hJ36]
            try dsimp only
            all_goals rfl
           rw [e47]
           exact answersR rfl ⟨trivial, trivial⟩ (rfl) rfl

def sameCR_L0 (a : GContent) (b : GContent) : Nat → Nat → Sum Bool Unit
  | 0, k0 => .inr ()
  | n_ + 1, k0 => if (a.Map.Wall.getD k0 default) = (b.Map.Wall.getD k0 default) then sameCR_L0 a b n_ (k0 + 1) else .inl false
def sameCR_L1 (a : GContent) (b : GContent) : Nat → Nat → Sum Bool Unit
  | 0, k1 => .inr ()
  | n_ + 1, k1 => if sameAR (a.Abilities.getD k1 default) (b.Abilities.getD k1 default) = true then sameCR_L1 a b n_ (k1 + 1) else .inl false
def sameCR_L2 (a : GContent) (b : GContent) : Nat → Nat → Sum Bool Unit
  | 0, k2 => .inr ()
  | n_ + 1, k2 => if ((((a.Auras.getD k2 default).Id) == ((b.Auras.getD k2 default).Id)) && ((((a.Auras.getD k2 default).Kind) == ((b.Auras.getD k2 default).Kind)) && ((((a.Auras.getD k2 default).Ticks) == ((b.Auras.getD k2 default).Ticks)) && ((((a.Auras.getD k2 default).Every) == ((b.Auras.getD k2 default).Every)) && ((((a.Auras.getD k2 default).Stacks) == ((b.Auras.getD k2 default).Stacks)) && ((((a.Auras.getD k2 default).Amount) == ((b.Auras.getD k2 default).Amount)) && ((((a.Auras.getD k2 default).Harm) == ((b.Auras.getD k2 default).Harm)) && true))))))) = true then sameCR_L2 a b n_ (k2 + 1) else .inl false
def sameCR_L3 (a : GContent) (b : GContent) : Nat → Nat → Sum Bool Unit
  | 0, k3 => .inr ()
  | n_ + 1, k3 => if sameFR (a.Foes.getD k3 default) (b.Foes.getD k3 default) = true then sameCR_L3 a b n_ (k3 + 1) else .inl false
def sameCR (a : GContent) (b : GContent) : Bool :=
  if ((a.Door.X == b.Door.X) && ((a.Door.Y == b.Door.Y) && true)) = true then (if ((a.Lair.X == b.Lair.X) && ((a.Lair.Y == b.Lair.Y) && true)) = true then (if (a.Map.W : Int) = b.Map.W then (if (a.Map.H : Int) = b.Map.H then (if (a.Map.Wall.length : Int) = b.Map.Wall.length then (if (a.Abilities.length : Int) = b.Abilities.length then (if (a.Auras.length : Int) = b.Auras.length then (if (a.Foes.length : Int) = b.Foes.length then (match sameCR_L0 a b (a.Map.Wall.length - 0) 0 with
    | .inl r_ => r_
    | .inr () => (match sameCR_L1 a b (a.Abilities.length - 0) 0 with
    | .inl r_ => r_
    | .inr () => (match sameCR_L2 a b (a.Auras.length - 0) 0 with
    | .inl r_ => r_
    | .inr () => (match sameCR_L3 a b (a.Foes.length - 0) 0 with
    | .inl r_ => r_
    | .inr () => true)))) else false) else false) else false) else false) else false) else false) else false) else false
theorem sameCR_ok (a : GContent) (b : GContent) : Ok Tryz.prog 15 [aGContent a, aGContent b] [] (B (sameCR a b)) [] [] := by
 refine Ok.len fun hlen => ?_
 have hl_a_Abilities : a.Abilities.length ≤ maxLen := hlen _ (by simp [lensL, lens, lensP])
 have hl_a_Auras : a.Auras.length ≤ maxLen := hlen _ (by simp [lensL, lens, lensP])
 have hl_a_Foes : a.Foes.length ≤ maxLen := hlen _ (by simp [lensL, lens, lensP])
 have hl_a_Map_Wall : a.Map.Wall.length ≤ maxLen := hlen _ (by simp [lensL, lens, lensP])
 have hl_b_Abilities : b.Abilities.length ≤ maxLen := hlen _ (by simp [lensL, lens, lensP])
 have hl_b_Auras : b.Auras.length ≤ maxLen := hlen _ (by simp [lensL, lens, lensP])
 have hl_b_Foes : b.Foes.length ≤ maxLen := hlen _ (by simp [lensL, lens, lensP])
 have hl_b_Map_Wall : b.Map.Wall.length ≤ maxLen := hlen _ (by simp [lensL, lens, lensP])
 unfold maxLen at hl_a_Abilities hl_a_Auras hl_a_Foes hl_a_Map_Wall hl_b_Abilities hl_b_Auras hl_b_Foes hl_b_Map_Wall
 refine ok_of_sem Tryz.func15 rfl ?_
 show Walks Tryz.prog _ _ ⟨[(0, aGContent a), (1, aGContent b)], [], 0, [], 158, 0⟩
 refine sem_seq (sem_region rfl (step_n (o := .box [_, _, _, _, _, _, _, _, _, _]) (nx' := 1) rfl rfl rfl trivial (step_n (o := .box [_, _, _, _, _, _, _, _, _, _]) (nx' := 2) rfl rfl rfl trivial (step_r rfl rfl trivial (step_nil (seqK_n (sem_seq (sem_seq (sem_region rfl (step_r rfl rfl (by decide) (step_r (v := (.agg [_, _])) rfl rfl (Nat.le_of_ble_eq_true rfl) ?_)))))))))))
 refine step_r rfl rfl (by decide) (step_r (v := (.agg [_, _])) rfl rfl (Nat.le_of_ble_eq_true rfl) ?_)
 refine step_neqA rfl rfl rfl (by kernel_rfl) rfl rfl rfl rfl rfl ?_
 refine step_r rfl rfl trivial ?_
 refine step_gs rfl (fun h2 => ?_) (fun h2 => ?_)
 ·have g2 : ¬ (((a.Door.X == b.Door.X) && ((a.Door.Y == b.Door.Y) && true)) = true) := boo_f (not_t h2)
  refine step_g0 rfl h2 rfl (step_g0 rfl h2 rfl (step_g0 rfl h2 rfl (step_g0 rfl h2 rfl (step_g0 rfl h2 rfl (step_pickT rfl h2 rfl rfl (step_r rfl rfl trivial (step_gf rfl rfl (step_gf rfl rfl (step_gf rfl rfl (step_gf rfl rfl (step_gf rfl rfl ?_)))))))))))
  refine step_gf rfl rfl (step_gf rfl rfl (step_r rfl rfl trivial (step_r rfl rfl trivial (step_gf rfl rfl (step_gf rfl rfl (step_gf rfl rfl (step_gf rfl rfl (step_gf rfl rfl (step_gf rfl rfl (step_gf rfl rfl (step_r rfl rfl trivial ?_)))))))))))
  refine step_r rfl rfl trivial (step_gf rfl rfl (step_gf rfl rfl (step_gf rfl rfl (step_gf rfl rfl (step_gf rfl rfl (step_gf rfl rfl (step_gf rfl rfl (step_gf rfl rfl (step_gf rfl rfl (step_r rfl rfl trivial (step_r rfl rfl trivial ?_)))))))))))
  refine step_gf rfl rfl (step_gf rfl rfl (step_gf rfl rfl (step_gf rfl rfl (step_gf rfl rfl (step_gf rfl rfl (step_gf rfl rfl (step_r rfl rfl trivial (step_r rfl rfl trivial (step_gf rfl rfl (step_gf rfl rfl (step_gf rfl rfl ?_)))))))))))
  refine step_gf rfl rfl (step_gf rfl rfl (step_gf rfl rfl (step_gf rfl rfl (step_r rfl rfl trivial (step_r rfl rfl trivial (step_gf rfl rfl (step_gf rfl rfl (step_gf rfl rfl (step_gf rfl rfl (step_gf rfl rfl (step_gf rfl rfl ?_)))))))))))
  refine step_gf rfl rfl (step_r rfl rfl trivial (step_nil (seqK_n (sem_condT rfl (sem_seq (sem_region rfl (step_r rfl rfl trivial (step_nil (seqK_n (sem_ret (seqK_r ?_)))))))))))
  have e3 : sameCR a b = false := by
   unfold sameCR
   try dsimp only
   rewrite [if_neg g2]
   all_goals rfl
  rw [e3]
  exact answersR rfl ⟨trivial, trivial⟩ (rfl) rfl
 ·have g2 : ((a.Door.X == b.Door.X) && ((a.Door.Y == b.Door.Y) && true)) = true := (not_f h2)
  refine step_g1 rfl h2 (step_r rfl rfl (by decide) (step_g1 rfl h2 (step_r (v := (.agg [_, _])) rfl rfl (Nat.le_of_ble_eq_true rfl) (step_g1 rfl h2 (step_r rfl rfl (by decide) (step_g1 rfl h2 (step_r (v := (.agg [_, _])) rfl rfl (Nat.le_of_ble_eq_true rfl) (step_g1 rfl h2 ?_))))))))
  refine step_neqA rfl rfl rfl (by kernel_rfl) rfl rfl rfl rfl rfl ?_
  refine step_pickF rfl h2 rfl rfl (step_r rfl rfl trivial ?_)
  refine step_gs rfl (fun h5 => ?_) (fun h5 => ?_)
  ·have g5 : ¬ (((a.Lair.X == b.Lair.X) && ((a.Lair.Y == b.Lair.Y) && true)) = true) := boo_f (not_t h5)
   refine step_g0 rfl h5 rfl (step_g0 rfl h5 rfl (step_g0 rfl h5 rfl (step_g0 rfl h5 rfl (step_g0 rfl h5 rfl (step_g0 rfl h5 rfl (step_g0 rfl h5 rfl (step_pickT rfl h5 rfl rfl (step_r rfl rfl trivial (step_gf rfl rfl (step_gf rfl rfl (step_gf rfl rfl ?_)))))))))))
   refine step_gf rfl rfl (step_gf rfl rfl (step_gf rfl rfl (step_gf rfl rfl (step_r rfl rfl trivial (step_r rfl rfl trivial (step_gf rfl rfl (step_gf rfl rfl (step_gf rfl rfl (step_gf rfl rfl (step_gf rfl rfl (step_gf rfl rfl ?_)))))))))))
   refine step_gf rfl rfl (step_gf rfl rfl (step_gf rfl rfl (step_r rfl rfl trivial (step_r rfl rfl trivial (step_gf rfl rfl (step_gf rfl rfl (step_gf rfl rfl (step_gf rfl rfl (step_gf rfl rfl (step_gf rfl rfl (step_gf rfl rfl ?_)))))))))))
   refine step_r rfl rfl trivial (step_r rfl rfl trivial (step_gf rfl rfl (step_gf rfl rfl (step_gf rfl rfl (step_gf rfl rfl (step_gf rfl rfl (step_gf rfl rfl (step_gf rfl rfl (step_r rfl rfl trivial (step_r rfl rfl trivial (step_gf rfl rfl ?_)))))))))))
   refine step_gf rfl rfl (step_gf rfl rfl (step_gf rfl rfl (step_gf rfl rfl (step_gf rfl rfl (step_gf rfl rfl (step_r rfl rfl trivial (step_nil (seqK_n (sem_condT rfl (sem_seq (sem_region rfl ?_)))))))))))
   refine step_r rfl rfl trivial (step_nil (seqK_n (sem_ret (seqK_r ?_))))
   have e6 : sameCR a b = false := by
    unfold sameCR
    try dsimp only
    rewrite [if_pos g2, if_neg g5]
    all_goals rfl
   rw [e6]
   exact answersR rfl ⟨trivial, trivial⟩ (rfl) rfl
  ·have g5 : ((a.Lair.X == b.Lair.X) && ((a.Lair.Y == b.Lair.Y) && true)) = true := (not_f h5)
   refine step_g1 rfl h5 (step_r rfl rfl (by decide) (step_g1 rfl h5 (step_r rfl rfl (by decide) (step_g1 rfl h5 (step_r rfl rfl trivial (step_g1 rfl h5 (step_r rfl rfl (by decide) (step_g1 rfl h5 (step_r rfl rfl (by decide) (step_g1 rfl h5 (step_r rfl rfl trivial ?_)))))))))))
   refine step_g1 rfl h5 (step_bin rfl rfl rfl rfl rfl trivial (step_pickF rfl h5 rfl rfl (step_r rfl rfl trivial ?_)))
   refine step_gs rfl (fun h8 => ?_) (fun h8 => ?_)
   ·have g8 : ¬ ((a.Map.W : Int) = b.Map.W) := bne_t h8
    refine step_g0 rfl h8 rfl (step_g0 rfl h8 rfl (step_g0 rfl h8 rfl (step_g0 rfl h8 rfl (step_g0 rfl h8 rfl (step_g0 rfl h8 rfl (step_g0 rfl h8 rfl (step_pickT rfl h8 rfl rfl (step_r rfl rfl trivial (step_gf rfl rfl (step_gf rfl rfl (step_gf rfl rfl ?_)))))))))))
    refine step_gf rfl rfl (step_gf rfl rfl (step_gf rfl rfl (step_gf rfl rfl (step_gf rfl rfl (step_gf rfl rfl (step_r rfl rfl trivial (step_r rfl rfl trivial (step_gf rfl rfl (step_gf rfl rfl (step_gf rfl rfl (step_gf rfl rfl ?_)))))))))))
    refine step_gf rfl rfl (step_gf rfl rfl (step_gf rfl rfl (step_r rfl rfl trivial (step_r rfl rfl trivial (step_gf rfl rfl (step_gf rfl rfl (step_gf rfl rfl (step_gf rfl rfl (step_gf rfl rfl (step_gf rfl rfl (step_gf rfl rfl ?_)))))))))))
    refine step_r rfl rfl trivial (step_r rfl rfl trivial (step_gf rfl rfl (step_gf rfl rfl (step_gf rfl rfl (step_gf rfl rfl (step_gf rfl rfl (step_gf rfl rfl (step_gf rfl rfl (step_r rfl rfl trivial (step_nil (seqK_n ?_)))))))))))
    refine sem_condT rfl (sem_seq (sem_region rfl (step_r rfl rfl trivial (step_nil (seqK_n (sem_ret (seqK_r ?_)))))))
    have e9 : sameCR a b = false := by
     unfold sameCR
     try dsimp only
     rewrite [if_pos g2, if_pos g5, if_neg g8]
     all_goals rfl
    rw [e9]
    exact answersR rfl ⟨trivial, trivial⟩ (rfl) rfl
   ·have g8 : (a.Map.W : Int) = b.Map.W := bne_f h8
    refine step_g1 rfl h8 (step_r rfl rfl (by decide) (step_g1 rfl h8 (step_r rfl rfl (by decide) (step_g1 rfl h8 (step_r rfl rfl trivial (step_g1 rfl h8 (step_r rfl rfl (by decide) (step_g1 rfl h8 (step_r rfl rfl (by decide) (step_g1 rfl h8 (step_r rfl rfl trivial ?_)))))))))))
    refine step_g1 rfl h8 (step_bin rfl rfl rfl rfl rfl trivial (step_pickF rfl h8 rfl rfl (step_r rfl rfl trivial ?_)))
    refine step_gs rfl (fun h11 => ?_) (fun h11 => ?_)
    ·have g11 : ¬ ((a.Map.H : Int) = b.Map.H) := bne_t h11
     refine step_g0 rfl h11 rfl (step_g0 rfl h11 rfl (step_g0 rfl h11 rfl (step_g0 rfl h11 rfl (step_g0 rfl h11 rfl (step_g0 rfl h11 rfl (step_g0 rfl h11 rfl (step_g0 rfl h11 rfl (step_g0 rfl h11 rfl (step_pickT rfl h11 rfl rfl (step_r rfl rfl trivial (step_gf rfl rfl ?_)))))))))))
     refine step_gf rfl rfl (step_gf rfl rfl (step_gf rfl rfl (step_gf rfl rfl (step_gf rfl rfl (step_gf rfl rfl (step_r rfl rfl trivial (step_r rfl rfl trivial (step_gf rfl rfl (step_gf rfl rfl (step_gf rfl rfl (step_gf rfl rfl ?_)))))))))))
     refine step_gf rfl rfl (step_gf rfl rfl (step_gf rfl rfl (step_r rfl rfl trivial (step_r rfl rfl trivial (step_gf rfl rfl (step_gf rfl rfl (step_gf rfl rfl (step_gf rfl rfl (step_gf rfl rfl (step_gf rfl rfl (step_gf rfl rfl ?_)))))))))))
     refine step_r rfl rfl trivial (step_nil (seqK_n (sem_condT rfl (sem_seq (sem_region rfl (step_r rfl rfl trivial (step_nil (seqK_n (sem_ret (seqK_r ?_))))))))))
     have e12 : sameCR a b = false := by
      unfold sameCR
      try dsimp only
      rewrite [if_pos g2, if_pos g5, if_pos g8, if_neg g11]
      all_goals rfl
     rw [e12]
     exact answersR rfl ⟨trivial, trivial⟩ (rfl) rfl
    ·have g11 : (a.Map.H : Int) = b.Map.H := bne_f h11
     refine step_g1 rfl h11 (step_r rfl rfl (by decide) (step_g1 rfl h11 (step_r rfl rfl (by decide) (step_g1 rfl h11 (step_r rfl rfl trivial (step_g1 rfl h11 (step_r rfl rfl trivial (step_g1 rfl h11 (step_r rfl rfl (by decide) (step_g1 rfl h11 (step_r rfl rfl (by decide) ?_)))))))))))
     refine step_g1 rfl h11 (step_r rfl rfl trivial (step_g1 rfl h11 (step_r rfl rfl trivial (step_g1 rfl h11 (step_bin rfl rfl rfl rfl rfl trivial (step_pickF rfl h11 rfl rfl (step_r rfl rfl trivial ?_)))))))
     refine step_gs rfl (fun h14 => ?_) (fun h14 => ?_)
     ·have g14 : ¬ ((a.Map.Wall.length : Int) = b.Map.Wall.length) := bne_t h14
      refine step_g0 rfl h14 rfl (step_g0 rfl h14 rfl (step_g0 rfl h14 rfl (step_g0 rfl h14 rfl (step_g0 rfl h14 rfl (step_g0 rfl h14 rfl (step_g0 rfl h14 rfl (step_pickT rfl h14 rfl rfl (step_r rfl rfl trivial (step_gf rfl rfl (step_gf rfl rfl (step_gf rfl rfl ?_)))))))))))
      refine step_gf rfl rfl (step_gf rfl rfl (step_gf rfl rfl (step_gf rfl rfl (step_r rfl rfl trivial (step_r rfl rfl trivial (step_gf rfl rfl (step_gf rfl rfl (step_gf rfl rfl (step_gf rfl rfl (step_gf rfl rfl (step_gf rfl rfl ?_)))))))))))
      refine step_gf rfl rfl (step_r rfl rfl trivial (step_nil (seqK_n (sem_condT rfl (sem_seq (sem_region rfl (step_r rfl rfl trivial (step_nil (seqK_n (sem_ret (seqK_r ?_)))))))))))
      have e15 : sameCR a b = false := by
       unfold sameCR
       try dsimp only
       rewrite [if_pos g2, if_pos g5, if_pos g8, if_pos g11, if_neg g14]
       all_goals rfl
      rw [e15]
      exact answersR rfl ⟨trivial, trivial⟩ (rfl) rfl
     ·have g14 : (a.Map.Wall.length : Int) = b.Map.Wall.length := bne_f h14
      refine step_g1 rfl h14 (step_r rfl rfl (by decide) (step_g1 rfl h14 (step_r rfl rfl trivial (step_g1 rfl h14 (step_r rfl rfl trivial (step_g1 rfl h14 (step_r rfl rfl (by decide) (step_g1 rfl h14 (step_r rfl rfl trivial (step_g1 rfl h14 (step_r rfl rfl trivial ?_)))))))))))
      refine step_g1 rfl h14 (step_bin rfl rfl rfl rfl rfl trivial (step_pickF rfl h14 rfl rfl (step_r rfl rfl trivial ?_)))
      refine step_gs rfl (fun h17 => ?_) (fun h17 => ?_)
      ·have g17 : ¬ ((a.Abilities.length : Int) = b.Abilities.length) := bne_t h17
       refine step_g0 rfl h17 rfl (step_g0 rfl h17 rfl (step_g0 rfl h17 rfl (step_g0 rfl h17 rfl (step_g0 rfl h17 rfl (step_g0 rfl h17 rfl (step_g0 rfl h17 rfl (step_pickT rfl h17 rfl rfl (step_r rfl rfl trivial (step_gf rfl rfl (step_gf rfl rfl (step_gf rfl rfl ?_)))))))))))
       refine step_gf rfl rfl (step_gf rfl rfl (step_gf rfl rfl (step_gf rfl rfl (step_r rfl rfl trivial (step_nil (seqK_n (sem_condT rfl (sem_seq (sem_region rfl (step_r rfl rfl trivial (step_nil ?_)))))))))))
       refine seqK_n (sem_ret (seqK_r ?_))
       have e18 : sameCR a b = false := by
        unfold sameCR
        try dsimp only
        rewrite [if_pos g2, if_pos g5, if_pos g8, if_pos g11, if_pos g14, if_neg g17]
        all_goals rfl
       rw [e18]
       exact answersR rfl ⟨trivial, trivial⟩ (rfl) rfl
      ·have g17 : (a.Abilities.length : Int) = b.Abilities.length := bne_f h17
       refine step_g1 rfl h17 (step_r rfl rfl (by decide) (step_g1 rfl h17 (step_r rfl rfl trivial (step_g1 rfl h17 (step_r rfl rfl trivial (step_g1 rfl h17 (step_r rfl rfl (by decide) (step_g1 rfl h17 (step_r rfl rfl trivial (step_g1 rfl h17 (step_r rfl rfl trivial ?_)))))))))))
       refine step_g1 rfl h17 (step_bin rfl rfl rfl rfl rfl trivial (step_pickF rfl h17 rfl rfl (step_r rfl rfl trivial ?_)))
       refine step_gs rfl (fun h20 => ?_) (fun h20 => ?_)
       ·have g20 : ¬ ((a.Auras.length : Int) = b.Auras.length) := bne_t h20
        refine step_g0 rfl h20 rfl (step_g0 rfl h20 rfl (step_g0 rfl h20 rfl (step_g0 rfl h20 rfl (step_g0 rfl h20 rfl (step_g0 rfl h20 rfl (step_g0 rfl h20 rfl (step_pickT rfl h20 rfl rfl (step_nil (seqK_n (sem_condT rfl (sem_seq ?_)))))))))))
        refine sem_region rfl (step_r rfl rfl trivial (step_nil (seqK_n (sem_ret (seqK_r ?_)))))
        have e21 : sameCR a b = false := by
         unfold sameCR
         try dsimp only
         rewrite [if_pos g2, if_pos g5, if_pos g8, if_pos g11, if_pos g14, if_pos g17, if_neg g20]
         all_goals rfl
        rw [e21]
        exact answersR rfl ⟨trivial, trivial⟩ (rfl) rfl
       ·have g20 : (a.Auras.length : Int) = b.Auras.length := bne_f h20
        refine step_g1 rfl h20 (step_r rfl rfl (by decide) (step_g1 rfl h20 (step_r rfl rfl trivial (step_g1 rfl h20 (step_r rfl rfl trivial (step_g1 rfl h20 (step_r rfl rfl (by decide) (step_g1 rfl h20 (step_r rfl rfl trivial (step_g1 rfl h20 (step_r rfl rfl trivial ?_)))))))))))
        refine step_g1 rfl h20 (step_bin rfl rfl rfl rfl rfl trivial (step_pickF rfl h20 rfl rfl (step_nil (seqK_n ?_))))
        refine sem_cond rfl (fun h23 => ?_) (fun h23 => ?_)
        ·have g23 : ¬ ((a.Foes.length : Int) = b.Foes.length) := bne_t h23
         refine sem_seq (sem_region rfl (step_r rfl rfl trivial (step_nil (seqK_n (sem_ret (seqK_r ?_))))))
         have e24 : sameCR a b = false := by
          unfold sameCR
          try dsimp only
          rewrite [if_pos g2, if_pos g5, if_pos g8, if_pos g11, if_pos g14, if_pos g17, if_pos g20, if_neg g23]
          all_goals rfl
         rw [e24]
         exact answersR rfl ⟨trivial, trivial⟩ (rfl) rfl
        ·have g23 : (a.Foes.length : Int) = b.Foes.length := bne_f h23
         refine sem_skip (seqK_n (sem_seq (sem_seq (sem_region rfl (step_r rfl rfl trivial (step_nil (seqK_n ?_)))))))
         refine sem_cutW (fun w_ : Unit => match w_ with | () => (⟨[(2, .ptr 0 0), (3, .ptr 1 0)], [(0, .box [.pv (.slc a.Abilities.length false (a.Abilities.flatMap encGAbility)), .pv (.slc a.Auras.length false (a.Auras.flatMap encGAura)), .pv (.slc a.Foes.length false (a.Foes.flatMap encGFoe)), I a.Map.W, I a.Map.H, .pv (.slc a.Map.Wall.length false (encB a.Map.Wall)), I a.Door.X, I a.Door.Y, I a.Lair.X, I a.Lair.Y]), (1, .box [.pv (.slc b.Abilities.length false (b.Abilities.flatMap encGAbility)), .pv (.slc b.Auras.length false (b.Auras.flatMap encGAura)), .pv (.slc b.Foes.length false (b.Foes.flatMap encGFoe)), I b.Map.W, I b.Map.H, .pv (.slc b.Map.Wall.length false (encB b.Map.Wall)), I b.Door.X, I b.Door.Y, I b.Lair.X, I b.Lair.Y])], 2, [], 158, 0⟩ : St)) (fun w_ => sameCR_L0 a b (a.Map.Wall.length - 0) 0 = .inr w_) ?_ ?_
         ·refine sem_block ?_
          refine sem_loopT (fun k0 : Nat => (⟨[(2, .ptr 0 0), (3, .ptr 1 0), (5, I k0)], [(0, .box [.pv (.slc a.Abilities.length false (a.Abilities.flatMap encGAbility)), .pv (.slc a.Auras.length false (a.Auras.flatMap encGAura)), .pv (.slc a.Foes.length false (a.Foes.flatMap encGFoe)), I a.Map.W, I a.Map.H, .pv (.slc a.Map.Wall.length false (encB a.Map.Wall)), I a.Door.X, I a.Door.Y, I a.Lair.X, I a.Lair.Y]), (1, .box [.pv (.slc b.Abilities.length false (b.Abilities.flatMap encGAbility)), .pv (.slc b.Auras.length false (b.Auras.flatMap encGAura)), .pv (.slc b.Foes.length false (b.Foes.flatMap encGFoe)), I b.Map.W, I b.Map.H, .pv (.slc b.Map.Wall.length false (encB b.Map.Wall)), I b.Door.X, I b.Door.Y, I b.Lair.X, I b.Lair.Y])], 2, [], 158, 0⟩ : St)) (fun k0 : Nat => sameCR_L0 a b (a.Map.Wall.length - k0) k0 = sameCR_L0 a b (a.Map.Wall.length - 0) 0 ∧ k0 ≤ a.Map.Wall.length) (fun k0 : Nat => a.Map.Wall.length - k0) 0 (⟨rfl, (by first | omega | (simp; omega))⟩) ?_ (fun k0 hh_ => ?_)
          ·exact (Trans.ren [] (by decide +kernel) (by decide +kernel) rfl ⟨⟨rfl, rfl⟩, ⟨rfl, rfl⟩, ⟨rfl, rfl⟩, trivial⟩ ⟨⟨rfl, rfl, rfl⟩, ⟨rfl, rfl, rfl⟩, trivial⟩ (by decide))
          obtain ⟨hI0, hb0⟩ := hh_
          show Walks Tryz.prog _ _ (⟨[(2, .ptr 0 0), (3, .ptr 1 0), (5, I k0)], [(0, .box [.pv (.slc a.Abilities.length false (a.Abilities.flatMap encGAbility)), .pv (.slc a.Auras.length false (a.Auras.flatMap encGAura)), .pv (.slc a.Foes.length false (a.Foes.flatMap encGFoe)), I a.Map.W, I a.Map.H, .pv (.slc a.Map.Wall.length false (encB a.Map.Wall)), I a.Door.X, I a.Door.Y, I a.Lair.X, I a.Lair.Y]), (1, .box [.pv (.slc b.Abilities.length false (b.Abilities.flatMap encGAbility)), .pv (.slc b.Auras.length false (b.Auras.flatMap encGAura)), .pv (.slc b.Foes.length false (b.Foes.flatMap encGFoe)), I b.Map.W, I b.Map.H, .pv (.slc b.Map.Wall.length false (encB b.Map.Wall)), I b.Door.X, I b.Door.Y, I b.Lair.X, I b.Lair.Y])], 2, [], 158, 0⟩ : St)
          refine sem_seq (sem_seq (sem_region rfl (step_r rfl rfl trivial (step_r rfl rfl (by decide) (step_r rfl rfl (by decide) (step_r rfl rfl trivial (step_r rfl rfl trivial (step_bin rfl rfl rfl rfl rfl trivial (step_nil (seqK_n ?_))))))))))
          refine sem_cond rfl (fun h27 => ?_) (fun h27 => ?_)
          ·have g27 : (k0 : Int) < a.Map.Wall.length := of_decide_eq_true h27
           have hm0 : a.Map.Wall.length - k0 = (a.Map.Wall.length - (k0 + 1)) + 1 := by omega
           refine sem_skip (seqK_n (sem_seq (sem_block (sem_seq ?_))))
           refine sem_drawn rfl (by decide +kernel) rfl ?_
           refine step_r rfl rfl (by decide) (step_r rfl rfl (by decide) (step_r rfl rfl trivial (step_r rfl rfl trivial ?_)))
           have jk28 : k0 < a.Map.Wall.length := by first | assumption | omega | (simp only [List.length_set, List.length_append]; omega) | (simp only [IntKind.wrap_i64] at *; omega) | (simp; omega) | simp_all
           refine step_idxS (k := k0) rfl rfl rfl rfl jk28 (encB_ne jk28) rfl (step_load_one rfl rfl rfl (encB_get (get_getD jk28)) rfl (step_r rfl rfl (by decide) (step_r rfl rfl (by decide) (step_r rfl rfl trivial (step_r rfl rfl trivial ?_)))))
           have jk29 : k0 < b.Map.Wall.length := by first | assumption | omega | (simp only [List.length_set, List.length_append]; omega) | (simp only [IntKind.wrap_i64] at *; omega) | (simp; omega) | simp_all
           refine step_idxS (k := k0) rfl rfl rfl rfl jk29 (encB_ne jk29) rfl (step_load_one rfl rfl rfl (encB_get (get_getD jk29)) rfl (step_bin rfl rfl rfl rfl rfl trivial (step_nil (seqK_n ?_))))
           refine sem_cond rfl (fun h30 => ?_) (fun h30 => ?_)
           ·have g30 : ¬ ((a.Map.Wall.getD k0 default) = (b.Map.Wall.getD k0 default)) := beq_f (not_t h30)
            refine sem_seq (sem_region rfl (step_r rfl rfl trivial (step_nil (seqK_n (sem_ret (blkK_r (seqK_r (lupK_r (blkK_r (cutW_r (seqK_r ?_)))))))))))
            have e31 : sameCR_L0 a b (a.Map.Wall.length - 0) 0 = .inl false := by
             rewrite [← hI0, hm0]
             rewrite [sameCR_L0]
             try dsimp only
             rewrite [if_neg g30]
             all_goals rfl
            have e32 : sameCR a b = false := by
             unfold sameCR
             try dsimp only
             rewrite [if_pos g2, if_pos g5, if_pos g8, if_pos g11, if_pos g14, if_pos g17, if_pos g20, if_pos g23, e31]
             try dsimp only
             all_goals rfl
            rw [e32]
            exact answersR rfl ⟨trivial, trivial⟩ (rfl) rfl
           ·have g30 : (a.Map.Wall.getD k0 default) = (b.Map.Wall.getD k0 default) := beq_t (not_f h30)
            refine sem_skip (blkK_n (seqK_n (sem_region rfl (step_r rfl rfl trivial (step_bin rfl rfl rfl rfl rfl trivial (step_r rfl rfl trivial (step_nil ?_)))))))
            have e34 : sameCR_L0 a b (a.Map.Wall.length - k0) k0 = sameCR_L0 a b (a.Map.Wall.length - (k0 + 1)) (k0 + 1) := by
             rewrite [hm0]
             rewrite [sameCR_L0]
             try dsimp only
             rewrite [if_pos g30]
             all_goals rfl
            exact lup_againT (k0 + 1) ⟨e34.symm.trans hI0, (by omega)⟩ (by show a.Map.Wall.length - (k0 + 1) < a.Map.Wall.length - k0; omega) (Trans.ren [] (by decide +kernel) (by decide +kernel) rfl ⟨⟨rfl, rfl⟩, ⟨rfl, rfl⟩, ⟨congrArg (fun n => some (I n)) (wrapI (k := k0) (by first | omega | (simp; omega))), rfl⟩, trivial⟩ ⟨⟨rfl, rfl, rfl⟩, ⟨rfl, rfl, rfl⟩, trivial⟩ (by decide))
          ·have g27 : ¬ ((k0 : Int) < a.Map.Wall.length) := of_decide_eq_false h27
           have hm0 : a.Map.Wall.length - k0 = 0 := by omega
           refine sem_exit (seqK_e (lupK_e (blkK_t rfl ?_)))
           have e35 : sameCR_L0 a b (a.Map.Wall.length - 0) 0 = .inr () := by
            rewrite [← hI0, hm0]
            rewrite [sameCR_L0]
            try dsimp only
            all_goals rfl
           exact cutW_n () e35 (Trans.ren [] (by decide +kernel) (by decide +kernel) rfl ⟨⟨rfl, rfl⟩, ⟨rfl, rfl⟩, trivial⟩ ⟨⟨rfl, rfl, rfl⟩, ⟨rfl, rfl, rfl⟩, trivial⟩ (by decide))
         ·rintro ⟨⟩ (hJ25 : sameCR_L0 a b (a.Map.Wall.length - 0) 0 = .inr ())
          show seqK _ _ _ .normal (⟨[(2, .ptr 0 0), (3, .ptr 1 0)], [(0, .box [.pv (.slc a.Abilities.length false (a.Abilities.flatMap encGAbility)), .pv (.slc a.Auras.length false (a.Auras.flatMap encGAura)), .pv (.slc a.Foes.length false (a.Foes.flatMap encGFoe)), I a.Map.W, I a.Map.H, .pv (.slc a.Map.Wall.length false (encB a.Map.Wall)), I a.Door.X, I a.Door.Y, I a.Lair.X, I a.Lair.Y]), (1, .box [.pv (.slc b.Abilities.length false (b.Abilities.flatMap encGAbility)), .pv (.slc b.Auras.length false (b.Auras.flatMap encGAura)), .pv (.slc b.Foes.length false (b.Foes.flatMap encGFoe)), I b.Map.W, I b.Map.H, .pv (.slc b.Map.Wall.length false (encB b.Map.Wall)), I b.Door.X, I b.Door.Y, I b.Lair.X, I b.Lair.Y])], 2, [], 158, 0⟩ : St)
          refine seqK_n (sem_seq (sem_seq (sem_region rfl (step_r rfl rfl trivial (step_nil (seqK_n ?_))))))
          refine sem_cutW (fun w_ : Unit => match w_ with | () => (⟨[(2, .ptr 0 0), (3, .ptr 1 0)], [(0, .box [.pv (.slc a.Abilities.length false (a.Abilities.flatMap encGAbility)), .pv (.slc a.Auras.length false (a.Auras.flatMap encGAura)), .pv (.slc a.Foes.length false (a.Foes.flatMap encGFoe)), I a.Map.W, I a.Map.H, .pv (.slc a.Map.Wall.length false (encB a.Map.Wall)), I a.Door.X, I a.Door.Y, I a.Lair.X, I a.Lair.Y]), (1, .box [.pv (.slc b.Abilities.length false (b.Abilities.flatMap encGAbility)), .pv (.slc b.Auras.length false (b.Auras.flatMap encGAura)), .pv (.slc b.Foes.length false (b.Foes.flatMap encGFoe)), I b.Map.W, I b.Map.H, .pv (.slc b.Map.Wall.length false (encB b.Map.Wall)), I b.Door.X, I b.Door.Y, I b.Lair.X, I b.Lair.Y])], 2, [], 158, 0⟩ : St)) (fun w_ => sameCR_L1 a b (a.Abilities.length - 0) 0 = .inr w_) ?_ ?_
          ·refine sem_block ?_
           refine sem_loopT (fun k1 : Nat => (⟨[(2, .ptr 0 0), (3, .ptr 1 0), (6, I k1)], [(0, .box [.pv (.slc a.Abilities.length false (a.Abilities.flatMap encGAbility)), .pv (.slc a.Auras.length false (a.Auras.flatMap encGAura)), .pv (.slc a.Foes.length false (a.Foes.flatMap encGFoe)), I a.Map.W, I a.Map.H, .pv (.slc a.Map.Wall.length false (encB a.Map.Wall)), I a.Door.X, I a.Door.Y, I a.Lair.X, I a.Lair.Y]), (1, .box [.pv (.slc b.Abilities.length false (b.Abilities.flatMap encGAbility)), .pv (.slc b.Auras.length false (b.Auras.flatMap encGAura)), .pv (.slc b.Foes.length false (b.Foes.flatMap encGFoe)), I b.Map.W, I b.Map.H, .pv (.slc b.Map.Wall.length false (encB b.Map.Wall)), I b.Door.X, I b.Door.Y, I b.Lair.X, I b.Lair.Y])], 2, [], 158, 0⟩ : St)) (fun k1 : Nat => sameCR_L1 a b (a.Abilities.length - k1) k1 = sameCR_L1 a b (a.Abilities.length - 0) 0 ∧ k1 ≤ a.Abilities.length) (fun k1 : Nat => a.Abilities.length - k1) 0 (⟨rfl, (by first | omega | (simp; omega))⟩) ?_ (fun k1 hh_ => ?_)
           ·exact (Trans.ren [] (by decide +kernel) (by decide +kernel) rfl ⟨⟨rfl, rfl⟩, ⟨rfl, rfl⟩, ⟨rfl, rfl⟩, trivial⟩ ⟨⟨rfl, rfl, rfl⟩, ⟨rfl, rfl, rfl⟩, trivial⟩ (by decide))
           obtain ⟨hI1, hb1⟩ := hh_
           show Walks Tryz.prog _ _ (⟨[(2, .ptr 0 0), (3, .ptr 1 0), (6, I k1)], [(0, .box [.pv (.slc a.Abilities.length false (a.Abilities.flatMap encGAbility)), .pv (.slc a.Auras.length false (a.Auras.flatMap encGAura)), .pv (.slc a.Foes.length false (a.Foes.flatMap encGFoe)), I a.Map.W, I a.Map.H, .pv (.slc a.Map.Wall.length false (encB a.Map.Wall)), I a.Door.X, I a.Door.Y, I a.Lair.X, I a.Lair.Y]), (1, .box [.pv (.slc b.Abilities.length false (b.Abilities.flatMap encGAbility)), .pv (.slc b.Auras.length false (b.Auras.flatMap encGAura)), .pv (.slc b.Foes.length false (b.Foes.flatMap encGFoe)), I b.Map.W, I b.Map.H, .pv (.slc b.Map.Wall.length false (encB b.Map.Wall)), I b.Door.X, I b.Door.Y, I b.Lair.X, I b.Lair.Y])], 2, [], 158, 0⟩ : St)
           refine sem_seq (sem_seq (sem_region rfl (step_r rfl rfl trivial (step_r rfl rfl (by decide) (step_r rfl rfl trivial (step_r rfl rfl trivial (step_bin rfl rfl rfl rfl rfl trivial (step_nil (seqK_n ?_)))))))))
           refine sem_cond rfl (fun h38 => ?_) (fun h38 => ?_)
           ·have g38 : (k1 : Int) < a.Abilities.length := of_decide_eq_true h38
            have hm1 : a.Abilities.length - k1 = (a.Abilities.length - (k1 + 1)) + 1 := by omega
            refine sem_skip (seqK_n (sem_seq (sem_block (sem_seq ?_))))
            refine sem_drawn rfl (by decide +kernel) rfl ?_
            refine step_r rfl rfl (by decide) (step_r rfl rfl trivial (step_r rfl rfl trivial ?_))
            have jk39 : k1 < a.Abilities.length := by first | assumption | omega | (simp only [List.length_set, List.length_append]; omega) | (simp only [IntKind.wrap_i64] at *; omega) | (simp; omega) | simp_all
            refine step_idxS (k := k1) rfl rfl rfl rfl jk39 (flat_ne (s := 8) (enc := encGAbility) (fun _ => rfl) (by decide) jk39) rfl (step_load_row rfl rfl rfl (flat_lt (s := 8) (enc := encGAbility) (fun _ => rfl) jk39) (flat_take (s := 8) (enc := encGAbility) (fun _ => rfl) (get_getD jk39)) rfl (step_r rfl rfl (by decide) (step_r rfl rfl trivial (step_r rfl rfl trivial ?_))))
            have jk40 : k1 < b.Abilities.length := by first | assumption | omega | (simp only [List.length_set, List.length_append]; omega) | (simp only [IntKind.wrap_i64] at *; omega) | (simp; omega) | simp_all
            refine step_idxS (k := k1) rfl rfl rfl rfl jk40 (flat_ne (s := 8) (enc := encGAbility) (fun _ => rfl) (by decide) jk40) rfl (step_load_row rfl rfl rfl (flat_lt (s := 8) (enc := encGAbility) (fun _ => rfl) jk40) (flat_take (s := 8) (enc := encGAbility) (fun _ => rfl) (get_getD jk40)) rfl (step_call rfl rfl rfl rfl (sameAR_ok (a.Abilities.getD k1 default) (b.Abilities.getD k1 default)) rfl rfl rfl (step_r rfl rfl trivial (step_nil (seqK_n (sem_seq (sem_region rfl (step_r rfl rfl trivial (step_r rfl rfl trivial (step_nil (seqK_n ?_)))))))))))
            refine sem_cond rfl (fun h42 => ?_) (fun h42 => ?_)
            ·have g42 : ¬ (sameAR (a.Abilities.getD k1 default) (b.Abilities.getD k1 default) = true) := boo_f (not_t h42)
             refine sem_seq (sem_region rfl (step_r rfl rfl trivial (step_nil (seqK_n (sem_ret (blkK_r (seqK_r (lupK_r (blkK_r (cutW_r (seqK_r ?_)))))))))))
             have e43 : sameCR_L1 a b (a.Abilities.length - 0) 0 = .inl false := by
              rewrite [← hI1, hm1]
              rewrite [sameCR_L1]
              try dsimp only
              rewrite [if_neg g42]
              all_goals rfl
             have e44 : sameCR a b = false := by
              unfold sameCR
              try dsimp only
              rewrite [if_pos g2, if_pos g5, if_pos g8, if_pos g11, if_pos g14, if_pos g17, if_pos g20, if_pos g23, hJ25]
              try dsimp only
              rewrite [e43]
              try dsimp only
              all_goals rfl
             rw [e44]
             exact answersR rfl ⟨trivial, trivial⟩ (rfl) rfl
            ·have g42 : sameAR (a.Abilities.getD k1 default) (b.Abilities.getD k1 default) = true := (not_f h42)
             refine sem_skip (blkK_n (seqK_n (sem_region rfl (step_r rfl rfl trivial (step_bin rfl rfl rfl rfl rfl trivial (step_r rfl rfl trivial (step_nil ?_)))))))
             have e46 : sameCR_L1 a b (a.Abilities.length - k1) k1 = sameCR_L1 a b (a.Abilities.length - (k1 + 1)) (k1 + 1) := by
              rewrite [hm1]
              rewrite [sameCR_L1]
              try dsimp only
              rewrite [if_pos g42]
              all_goals rfl
             exact lup_againT (k1 + 1) ⟨e46.symm.trans hI1, (by omega)⟩ (by show a.Abilities.length - (k1 + 1) < a.Abilities.length - k1; omega) (Trans.ren [] (by decide +kernel) (by decide +kernel) rfl ⟨⟨rfl, rfl⟩, ⟨rfl, rfl⟩, ⟨congrArg (fun n => some (I n)) (wrapI (k := k1) (by first | omega | (simp; omega))), rfl⟩, trivial⟩ ⟨⟨rfl, rfl, rfl⟩, ⟨rfl, rfl, rfl⟩, trivial⟩ (by decide))
           ·have g38 : ¬ ((k1 : Int) < a.Abilities.length) := of_decide_eq_false h38
            have hm1 : a.Abilities.length - k1 = 0 := by omega
            refine sem_exit (seqK_e (lupK_e (blkK_t rfl ?_)))
            have e47 : sameCR_L1 a b (a.Abilities.length - 0) 0 = .inr () := by
             rewrite [← hI1, hm1]
             rewrite [sameCR_L1]
             try dsimp only
             all_goals rfl
            exact cutW_n () e47 (Trans.ren [] (by decide +kernel) (by decide +kernel) rfl ⟨⟨rfl, rfl⟩, ⟨rfl, rfl⟩, trivial⟩ ⟨⟨rfl, rfl, rfl⟩, ⟨rfl, rfl, rfl⟩, trivial⟩ (by decide))
          ·rintro ⟨⟩ (hJ36 : sameCR_L1 a b (a.Abilities.length - 0) 0 = .inr ())
           show seqK _ _ _ .normal (⟨[(2, .ptr 0 0), (3, .ptr 1 0)], [(0, .box [.pv (.slc a.Abilities.length false (a.Abilities.flatMap encGAbility)), .pv (.slc a.Auras.length false (a.Auras.flatMap encGAura)), .pv (.slc a.Foes.length false (a.Foes.flatMap encGFoe)), I a.Map.W, I a.Map.H, .pv (.slc a.Map.Wall.length false (encB a.Map.Wall)), I a.Door.X, I a.Door.Y, I a.Lair.X, I a.Lair.Y]), (1, .box [.pv (.slc b.Abilities.length false (b.Abilities.flatMap encGAbility)), .pv (.slc b.Auras.length false (b.Auras.flatMap encGAura)), .pv (.slc b.Foes.length false (b.Foes.flatMap encGFoe)), I b.Map.W, I b.Map.H, .pv (.slc b.Map.Wall.length false (encB b.Map.Wall)), I b.Door.X, I b.Door.Y, I b.Lair.X, I b.Lair.Y])], 2, [], 158, 0⟩ : St)
           refine seqK_n (sem_seq (sem_seq (sem_region rfl (step_r rfl rfl trivial (step_nil (seqK_n ?_))))))
           refine sem_cutW (fun w_ : Unit => match w_ with | () => (⟨[(2, .ptr 0 0), (3, .ptr 1 0)], [(0, .box [.pv (.slc a.Abilities.length false (a.Abilities.flatMap encGAbility)), .pv (.slc a.Auras.length false (a.Auras.flatMap encGAura)), .pv (.slc a.Foes.length false (a.Foes.flatMap encGFoe)), I a.Map.W, I a.Map.H, .pv (.slc a.Map.Wall.length false (encB a.Map.Wall)), I a.Door.X, I a.Door.Y, I a.Lair.X, I a.Lair.Y]), (1, .box [.pv (.slc b.Abilities.length false (b.Abilities.flatMap encGAbility)), .pv (.slc b.Auras.length false (b.Auras.flatMap encGAura)), .pv (.slc b.Foes.length false (b.Foes.flatMap encGFoe)), I b.Map.W, I b.Map.H, .pv (.slc b.Map.Wall.length false (encB b.Map.Wall)), I b.Door.X, I b.Door.Y, I b.Lair.X, I b.Lair.Y])], 2, [], 158, 0⟩ : St)) (fun w_ => sameCR_L2 a b (a.Auras.length - 0) 0 = .inr w_) ?_ ?_
           ·refine sem_block ?_
            refine sem_loopT (fun k2 : Nat => (⟨[(2, .ptr 0 0), (3, .ptr 1 0), (8, I k2)], [(0, .box [.pv (.slc a.Abilities.length false (a.Abilities.flatMap encGAbility)), .pv (.slc a.Auras.length false (a.Auras.flatMap encGAura)), .pv (.slc a.Foes.length false (a.Foes.flatMap encGFoe)), I a.Map.W, I a.Map.H, .pv (.slc a.Map.Wall.length false (encB a.Map.Wall)), I a.Door.X, I a.Door.Y, I a.Lair.X, I a.Lair.Y]), (1, .box [.pv (.slc b.Abilities.length false (b.Abilities.flatMap encGAbility)), .pv (.slc b.Auras.length false (b.Auras.flatMap encGAura)), .pv (.slc b.Foes.length false (b.Foes.flatMap encGFoe)), I b.Map.W, I b.Map.H, .pv (.slc b.Map.Wall.length false (encB b.Map.Wall)), I b.Door.X, I b.Door.Y, I b.Lair.X, I b.Lair.Y])], 2, [], 158, 0⟩ : St)) (fun k2 : Nat => sameCR_L2 a b (a.Auras.length - k2) k2 = sameCR_L2 a b (a.Auras.length - 0) 0 ∧ k2 ≤ a.Auras.length) (fun k2 : Nat => a.Auras.length - k2) 0 (⟨rfl, (by first | omega | (simp; omega))⟩) ?_ (fun k2 hh_ => ?_)
            ·exact (Trans.ren [] (by decide +kernel) (by decide +kernel) rfl ⟨⟨rfl, rfl⟩, ⟨rfl, rfl⟩, ⟨rfl, rfl⟩, trivial⟩ ⟨⟨rfl, rfl, rfl⟩, ⟨rfl, rfl, rfl⟩, trivial⟩ (by decide))
            obtain ⟨hI2, hb2⟩ := hh_
            show Walks Tryz.prog _ _ (⟨[(2, .ptr 0 0), (3, .ptr 1 0), (8, I k2)], [(0, .box [.pv (.slc a.Abilities.length false (a.Abilities.flatMap encGAbility)), .pv (.slc a.Auras.length false (a.Auras.flatMap encGAura)), .pv (.slc a.Foes.length false (a.Foes.flatMap encGFoe)), I a.Map.W, I a.Map.H, .pv (.slc a.Map.Wall.length false (encB a.Map.Wall)), I a.Door.X, I a.Door.Y, I a.Lair.X, I a.Lair.Y]), (1, .box [.pv (.slc b.Abilities.length false (b.Abilities.flatMap encGAbility)), .pv (.slc b.Auras.length false (b.Auras.flatMap encGAura)), .pv (.slc b.Foes.length false (b.Foes.flatMap encGFoe)), I b.Map.W, I b.Map.H, .pv (.slc b.Map.Wall.length false (encB b.Map.Wall)), I b.Door.X, I b.Door.Y, I b.Lair.X, I b.Lair.Y])], 2, [], 158, 0⟩ : St)
            refine sem_seq (sem_seq (sem_region rfl (step_r rfl rfl trivial (step_r rfl rfl (by decide) (step_r rfl rfl trivial (step_r rfl rfl trivial (step_bin rfl rfl rfl rfl rfl trivial (step_nil (seqK_n ?_)))))))))
            refine sem_cond rfl (fun h50 => ?_) (fun h50 => ?_)
            ·have g50 : (k2 : Int) < a.Auras.length := of_decide_eq_true h50
             have hm2 : a.Auras.length - k2 = (a.Auras.length - (k2 + 1)) + 1 := by omega
             refine sem_skip (seqK_n (sem_seq (sem_block (sem_seq ?_))))
             refine sem_drawn rfl (by decide +kernel) rfl ?_
             refine step_r rfl rfl (by decide) (step_r rfl rfl trivial (step_r rfl rfl trivial ?_))
             have jk51 : k2 < a.Auras.length := by first | assumption | omega | (simp only [List.length_set, List.length_append]; omega) | (simp only [IntKind.wrap_i64] at *; omega) | (simp; omega) | simp_all
             refine step_idxS (k := k2) rfl rfl rfl rfl jk51 (flat_ne (s := 7) (enc := encGAura) (fun _ => rfl) (by decide) jk51) rfl (step_load_row rfl rfl rfl (flat_lt (s := 7) (enc := encGAura) (fun _ => rfl) jk51) (flat_take (s := 7) (enc := encGAura) (fun _ => rfl) (get_getD jk51)) rfl (step_r rfl rfl (by decide) (step_r rfl rfl trivial (step_r rfl rfl trivial ?_))))
             have jk52 : k2 < b.Auras.length := by first | assumption | omega | (simp only [List.length_set, List.length_append]; omega) | (simp only [IntKind.wrap_i64] at *; omega) | (simp; omega) | simp_all
             refine step_idxS (k := k2) rfl rfl rfl rfl jk52 (flat_ne (s := 7) (enc := encGAura) (fun _ => rfl) (by decide) jk52) rfl (step_load_row rfl rfl rfl (flat_lt (s := 7) (enc := encGAura) (fun _ => rfl) jk52) (flat_take (s := 7) (enc := encGAura) (fun _ => rfl) (get_getD jk52)) rfl ?_)
             refine step_neqA rfl rfl rfl (by kernel_rfl) rfl rfl rfl rfl rfl ?_
             refine step_nil (seqK_n ?_)
             refine sem_cond rfl (fun h53 => ?_) (fun h53 => ?_)
             ·have g53 : ¬ (((((a.Auras.getD k2 default).Id) == ((b.Auras.getD k2 default).Id)) && ((((a.Auras.getD k2 default).Kind) == ((b.Auras.getD k2 default).Kind)) && ((((a.Auras.getD k2 default).Ticks) == ((b.Auras.getD k2 default).Ticks)) && ((((a.Auras.getD k2 default).Every) == ((b.Auras.getD k2 default).Every)) && ((((a.Auras.getD k2 default).Stacks) == ((b.Auras.getD k2 default).Stacks)) && ((((a.Auras.getD k2 default).Amount) == ((b.Auras.getD k2 default).Amount)) && ((((a.Auras.getD k2 default).Harm) == ((b.Auras.getD k2 default).Harm)) && true))))))) = true) := boo_f (not_t h53)
              refine sem_seq (sem_region rfl (step_r rfl rfl trivial (step_nil (seqK_n (sem_ret (blkK_r (seqK_r (lupK_r (blkK_r (cutW_r (seqK_r ?_)))))))))))
              have e54 : sameCR_L2 a b (a.Auras.length - 0) 0 = .inl false := by
               rewrite [← hI2, hm2]
               rewrite [sameCR_L2]
               try dsimp only
               rewrite [if_neg g53]
               all_goals rfl
              have e55 : sameCR a b = false := by
               unfold sameCR
               try dsimp only
               rewrite [if_pos g2, if_pos g5, if_pos g8, if_pos g11, if_pos g14, if_pos g17, if_pos g20, if_pos g23, hJ25]
               try dsimp only
               rewrite [hJ36]
               try dsimp only
               rewrite [e54]
               try dsimp only
               all_goals rfl
              rw [e55]
              exact answersR rfl ⟨trivial, trivial⟩ (rfl) rfl
             ·have g53 : ((((a.Auras.getD k2 default).Id) == ((b.Auras.getD k2 default).Id)) && ((((a.Auras.getD k2 default).Kind) == ((b.Auras.getD k2 default).Kind)) && ((((a.Auras.getD k2 default).Ticks) == ((b.Auras.getD k2 default).Ticks)) && ((((a.Auras.getD k2 default).Every) == ((b.Auras.getD k2 default).Every)) && ((((a.Auras.getD k2 default).Stacks) == ((b.Auras.getD k2 default).Stacks)) && ((((a.Auras.getD k2 default).Amount) == ((b.Auras.getD k2 default).Amount)) && ((((a.Auras.getD k2 default).Harm) == ((b.Auras.getD k2 default).Harm)) && true))))))) = true := (not_f h53)
              refine sem_skip (blkK_n (seqK_n (sem_region rfl (step_r rfl rfl trivial (step_bin rfl rfl rfl rfl rfl trivial (step_r rfl rfl trivial (step_nil ?_)))))))
              have e57 : sameCR_L2 a b (a.Auras.length - k2) k2 = sameCR_L2 a b (a.Auras.length - (k2 + 1)) (k2 + 1) := by
               rewrite [hm2]
               rewrite [sameCR_L2]
               try dsimp only
               rewrite [if_pos g53]
               all_goals rfl
              exact lup_againT (k2 + 1) ⟨e57.symm.trans hI2, (by omega)⟩ (by show a.Auras.length - (k2 + 1) < a.Auras.length - k2; omega) (Trans.ren [] (by decide +kernel) (by decide +kernel) rfl ⟨⟨rfl, rfl⟩, ⟨rfl, rfl⟩, ⟨congrArg (fun n => some (I n)) (wrapI (k := k2) (by first | omega | (simp; omega))), rfl⟩, trivial⟩ ⟨⟨rfl, rfl, rfl⟩, ⟨rfl, rfl, rfl⟩, trivial⟩ (by decide))
            ·have g50 : ¬ ((k2 : Int) < a.Auras.length) := of_decide_eq_false h50
             have hm2 : a.Auras.length - k2 = 0 := by omega
             refine sem_exit (seqK_e (lupK_e (blkK_t rfl ?_)))
             have e58 : sameCR_L2 a b (a.Auras.length - 0) 0 = .inr () := by
              rewrite [← hI2, hm2]
              rewrite [sameCR_L2]
              try dsimp only
              all_goals rfl
             exact cutW_n () e58 (Trans.ren [] (by decide +kernel) (by decide +kernel) rfl ⟨⟨rfl, rfl⟩, ⟨rfl, rfl⟩, trivial⟩ ⟨⟨rfl, rfl, rfl⟩, ⟨rfl, rfl, rfl⟩, trivial⟩ (by decide))
           ·rintro ⟨⟩ (hJ48 : sameCR_L2 a b (a.Auras.length - 0) 0 = .inr ())
            show seqK _ _ _ .normal (⟨[(2, .ptr 0 0), (3, .ptr 1 0)], [(0, .box [.pv (.slc a.Abilities.length false (a.Abilities.flatMap encGAbility)), .pv (.slc a.Auras.length false (a.Auras.flatMap encGAura)), .pv (.slc a.Foes.length false (a.Foes.flatMap encGFoe)), I a.Map.W, I a.Map.H, .pv (.slc a.Map.Wall.length false (encB a.Map.Wall)), I a.Door.X, I a.Door.Y, I a.Lair.X, I a.Lair.Y]), (1, .box [.pv (.slc b.Abilities.length false (b.Abilities.flatMap encGAbility)), .pv (.slc b.Auras.length false (b.Auras.flatMap encGAura)), .pv (.slc b.Foes.length false (b.Foes.flatMap encGFoe)), I b.Map.W, I b.Map.H, .pv (.slc b.Map.Wall.length false (encB b.Map.Wall)), I b.Door.X, I b.Door.Y, I b.Lair.X, I b.Lair.Y])], 2, [], 158, 0⟩ : St)
            refine seqK_n (sem_seq (sem_seq (sem_region rfl (step_r rfl rfl trivial (step_nil (seqK_n ?_))))))
            refine sem_cutW (fun w_ : Unit => match w_ with | () => (⟨[], [], 0, [], 158, 0⟩ : St)) (fun w_ => sameCR_L3 a b (a.Foes.length - 0) 0 = .inr w_) ?_ ?_
            ·refine sem_block ?_
             refine sem_loopT (fun k3 : Nat => (⟨[(2, .ptr 0 0), (3, .ptr 1 0), (9, I k3)], [(0, .box [.pv (.slc a.Abilities.length false (a.Abilities.flatMap encGAbility)), .pv (.slc a.Auras.length false (a.Auras.flatMap encGAura)), .pv (.slc a.Foes.length false (a.Foes.flatMap encGFoe)), I a.Map.W, I a.Map.H, .pv (.slc a.Map.Wall.length false (encB a.Map.Wall)), I a.Door.X, I a.Door.Y, I a.Lair.X, I a.Lair.Y]), (1, .box [.pv (.slc b.Abilities.length false (b.Abilities.flatMap encGAbility)), .pv (.slc b.Auras.length false (b.Auras.flatMap encGAura)), .pv (.slc b.Foes.length false (b.Foes.flatMap encGFoe)), I b.Map.W, I b.Map.H, .pv (.slc b.Map.Wall.length false (encB b.Map.Wall)), I b.Door.X, I b.Door.Y, I b.Lair.X, I b.Lair.Y])], 2, [], 158, 0⟩ : St)) (fun k3 : Nat => sameCR_L3 a b (a.Foes.length - k3) k3 = sameCR_L3 a b (a.Foes.length - 0) 0 ∧ k3 ≤ a.Foes.length) (fun k3 : Nat => a.Foes.length - k3) 0 (⟨rfl, (by first | omega | (simp; omega))⟩) ?_ (fun k3 hh_ => ?_)
             ·exact (Trans.ren [] (by decide +kernel) (by decide +kernel) rfl ⟨⟨rfl, rfl⟩, ⟨rfl, rfl⟩, ⟨rfl, rfl⟩, trivial⟩ ⟨⟨rfl, rfl, rfl⟩, ⟨rfl, rfl, rfl⟩, trivial⟩ (by decide))
             obtain ⟨hI3, hb3⟩ := hh_
             show Walks Tryz.prog _ _ (⟨[(2, .ptr 0 0), (3, .ptr 1 0), (9, I k3)], [(0, .box [.pv (.slc a.Abilities.length false (a.Abilities.flatMap encGAbility)), .pv (.slc a.Auras.length false (a.Auras.flatMap encGAura)), .pv (.slc a.Foes.length false (a.Foes.flatMap encGFoe)), I a.Map.W, I a.Map.H, .pv (.slc a.Map.Wall.length false (encB a.Map.Wall)), I a.Door.X, I a.Door.Y, I a.Lair.X, I a.Lair.Y]), (1, .box [.pv (.slc b.Abilities.length false (b.Abilities.flatMap encGAbility)), .pv (.slc b.Auras.length false (b.Auras.flatMap encGAura)), .pv (.slc b.Foes.length false (b.Foes.flatMap encGFoe)), I b.Map.W, I b.Map.H, .pv (.slc b.Map.Wall.length false (encB b.Map.Wall)), I b.Door.X, I b.Door.Y, I b.Lair.X, I b.Lair.Y])], 2, [], 158, 0⟩ : St)
             refine sem_seq (sem_seq (sem_region rfl (step_r rfl rfl trivial (step_r rfl rfl (by decide) (step_r rfl rfl trivial (step_r rfl rfl trivial (step_bin rfl rfl rfl rfl rfl trivial (step_nil (seqK_n ?_)))))))))
             refine sem_cond rfl (fun h61 => ?_) (fun h61 => ?_)
             ·have g61 : (k3 : Int) < a.Foes.length := of_decide_eq_true h61
              have hm3 : a.Foes.length - k3 = (a.Foes.length - (k3 + 1)) + 1 := by omega
              refine sem_skip (seqK_n (sem_seq (sem_block (sem_seq ?_))))
              refine sem_drawn rfl (by decide +kernel) rfl ?_
              refine step_r rfl rfl (by decide) (step_r rfl rfl trivial (step_r rfl rfl trivial ?_))
              have jk62 : k3 < a.Foes.length := by first | assumption | omega | (simp only [List.length_set, List.length_append]; omega) | (simp only [IntKind.wrap_i64] at *; omega) | (simp; omega) | simp_all
              refine step_idxS (k := k3) rfl rfl rfl rfl jk62 (flat_ne (s := 8) (enc := encGFoe) (fun _ => rfl) (by decide) jk62) rfl (step_load_row rfl rfl rfl (flat_lt (s := 8) (enc := encGFoe) (fun _ => rfl) jk62) (flat_take (s := 8) (enc := encGFoe) (fun _ => rfl) (get_getD jk62)) rfl (step_r rfl rfl (by decide) (step_r rfl rfl trivial (step_r rfl rfl trivial ?_))))
              have jk63 : k3 < b.Foes.length := by first | assumption | omega | (simp only [List.length_set, List.length_append]; omega) | (simp only [IntKind.wrap_i64] at *; omega) | (simp; omega) | simp_all
              refine step_idxS (k := k3) rfl rfl rfl rfl jk63 (flat_ne (s := 8) (enc := encGFoe) (fun _ => rfl) (by decide) jk63) rfl (step_load_row rfl rfl rfl (flat_lt (s := 8) (enc := encGFoe) (fun _ => rfl) jk63) (flat_take (s := 8) (enc := encGFoe) (fun _ => rfl) (get_getD jk63)) rfl (step_call rfl rfl rfl rfl (sameFR_ok (a.Foes.getD k3 default) (b.Foes.getD k3 default)) rfl rfl rfl (step_r rfl rfl trivial (step_nil (seqK_n (sem_seq (sem_region rfl (step_r rfl rfl trivial (step_r rfl rfl trivial (step_nil (seqK_n ?_)))))))))))
              refine sem_cond rfl (fun h65 => ?_) (fun h65 => ?_)
              ·have g65 : ¬ (sameFR (a.Foes.getD k3 default) (b.Foes.getD k3 default) = true) := boo_f (not_t h65)
               refine sem_seq (sem_region rfl (step_r rfl rfl trivial (step_nil (seqK_n (sem_ret (blkK_r (seqK_r (lupK_r (blkK_r (cutW_r (seqK_r ?_)))))))))))
               have e66 : sameCR_L3 a b (a.Foes.length - 0) 0 = .inl false := by
                rewrite [← hI3, hm3]
                rewrite [sameCR_L3]
                try dsimp only
                rewrite [if_neg g65]
                all_goals rfl
               have e67 : sameCR a b = false := by
                unfold sameCR
                try dsimp only
                rewrite [if_pos g2, if_pos g5, if_pos g8, if_pos g11, if_pos g14, if_pos g17, if_pos g20, if_pos g23, hJ25]
                try dsimp only
                rewrite [hJ36]
                try dsimp only
                rewrite [hJ48]
                try dsimp only
                rewrite [e66]
                try dsimp only
                all_goals rfl
               rw [e67]
               exact answersR rfl ⟨trivial, trivial⟩ (rfl) rfl
              ·have g65 : sameFR (a.Foes.getD k3 default) (b.Foes.getD k3 default) = true := (not_f h65)
               refine sem_skip (blkK_n (seqK_n (sem_region rfl (step_r rfl rfl trivial (step_bin rfl rfl rfl rfl rfl trivial (step_r rfl rfl trivial (step_nil ?_)))))))
               have e69 : sameCR_L3 a b (a.Foes.length - k3) k3 = sameCR_L3 a b (a.Foes.length - (k3 + 1)) (k3 + 1) := by
                rewrite [hm3]
                rewrite [sameCR_L3]
                try dsimp only
                rewrite [if_pos g65]
                all_goals rfl
               exact lup_againT (k3 + 1) ⟨e69.symm.trans hI3, (by omega)⟩ (by show a.Foes.length - (k3 + 1) < a.Foes.length - k3; omega) (Trans.ren [] (by decide +kernel) (by decide +kernel) rfl ⟨⟨rfl, rfl⟩, ⟨rfl, rfl⟩, ⟨congrArg (fun n => some (I n)) (wrapI (k := k3) (by first | omega | (simp; omega))), rfl⟩, trivial⟩ ⟨⟨rfl, rfl, rfl⟩, ⟨rfl, rfl, rfl⟩, trivial⟩ (by decide))
             ·have g61 : ¬ ((k3 : Int) < a.Foes.length) := of_decide_eq_false h61
              have hm3 : a.Foes.length - k3 = 0 := by omega
              refine sem_exit (seqK_e (lupK_e (blkK_t rfl ?_)))
              have e70 : sameCR_L3 a b (a.Foes.length - 0) 0 = .inr () := by
               rewrite [← hI3, hm3]
               rewrite [sameCR_L3]
               try dsimp only
               all_goals rfl
              exact cutW_n () e70 (Trans.ren [] (by decide +kernel) (by decide +kernel) rfl trivial trivial (by decide))
            ·rintro ⟨⟩ (hJ59 : sameCR_L3 a b (a.Foes.length - 0) 0 = .inr ())
             show seqK _ _ _ .normal (⟨[], [], 0, [], 158, 0⟩ : St)
             refine seqK_n (sem_seq (sem_region rfl (step_r rfl rfl trivial (step_nil (seqK_n (sem_ret ?_))))))
             have e71 : sameCR a b = true := by
              unfold sameCR
              try dsimp only
              rewrite [if_pos g2, if_pos g5, if_pos g8, if_pos g11, if_pos g14, if_pos g17, if_pos g20, if_pos g23, hJ25]
              try dsimp only
              rewrite [hJ36]
              try dsimp only
              rewrite [hJ48]
              try dsimp only
              rewrite [hJ59]
              try dsimp only
              all_goals rfl
             rw [e71]
             exact answersR rfl ⟨trivial, trivial⟩ (rfl) rfl
end Go.Proofs.YtppnccjeggnllaaGreat

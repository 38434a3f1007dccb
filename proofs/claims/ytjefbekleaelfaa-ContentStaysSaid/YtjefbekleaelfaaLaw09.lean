import Derived.Test.YtjefbekleaelfaaContent
namespace Go.Proofs.Ytjefbekleaelfaa
open Go Go.RowKit Go.Proofs.YtjefbekleaelfaaVm
attribute [local irreducible] opsWp AnswersE OpsS
set_option maxHeartbeats 400000
set_option maxRecDepth 100000
set_option linter.all false
def sameAR_L0 (a : GAbility) (b : GAbility) : Nat → Nat → Sum Bool Unit
  | 0, k0 => .inr ()
  | n_ + 1, k0 => if ((((a.Effects.getD k0 default).Kind) == ((b.Effects.getD k0 default).Kind)) && ((((a.Effects.getD k0 default).Amount) == ((b.Effects.getD k0 default).Amount)) && ((((a.Effects.getD k0 default).Aura) == ((b.Effects.getD k0 default).Aura)) && true))) = true then sameAR_L0 a b n_ (k0 + 1) else .inl false
def sameAR (a : GAbility) (b : GAbility) : Bool :=
  if (a.Id : Int) = b.Id then (if (a.Cast : Int) = b.Cast then (if (a.Cool : Int) = b.Cool then (if (a.Charges : Int) = b.Charges then (if (a.Range : Int) = b.Range then (if (a.Cost : Int) = b.Cost then (if a.Sight = b.Sight then (if (a.Effects.length : Int) = b.Effects.length then (match sameAR_L0 a b (a.Effects.length - 0) 0 with
    | .inl r_ => r_
    | .inr () => true) else false) else false) else false) else false) else false) else false) else false) else false
theorem sameAR_ok (a : GAbility) (b : GAbility) : Ok Try.prog 14 [aGAbility a, aGAbility b] [] (B (sameAR a b)) [] [] := by
 refine Ok.len fun hlen => ?_
 have hl_a_Effects : a.Effects.length ≤ maxLen := hlen _ (by simp [lensL, lens, lensP])
 have hl_b_Effects : b.Effects.length ≤ maxLen := hlen _ (by simp [lensL, lens, lensP])
 unfold maxLen at hl_a_Effects hl_b_Effects
 refine ok_of_sem Try.func14 rfl ?_
 show Walks Try.prog _ _ ⟨[(0, aGAbility a), (1, aGAbility b)], [], 0, [], 80, 0⟩
 refine sem_seq ?_
 refine sem_region rfl ?_
 refine step_n (o := .box [_, _, _, _, _, _, _, _]) (nx' := 1) rfl rfl rfl trivial ?_
 refine step_n (o := .box [_, _, _, _, _, _, _, _]) (nx' := 2) rfl rfl rfl trivial ?_
 refine step_r rfl rfl trivial ?_
 refine step_nil ?_
 refine seqK_n ?_
 refine sem_seq ?_
 refine sem_seq ?_
 refine sem_region rfl ?_
 refine step_r rfl rfl (by decide) ?_
 refine step_r rfl rfl trivial ?_
 refine step_r rfl rfl (by decide) ?_
 refine step_r rfl rfl trivial ?_
 refine step_bin rfl rfl rfl rfl rfl trivial ?_
 refine step_r rfl rfl trivial ?_
 refine step_gs rfl (fun h2 => ?_) (fun h2 => ?_)
 ·have g2 : ¬ ((a.Id : Int) = b.Id) := bne_t h2
  refine step_g0 rfl h2 rfl ?_
  refine step_g0 rfl h2 rfl ?_
  refine step_g0 rfl h2 rfl ?_
  refine step_g0 rfl h2 rfl ?_
  refine step_g0 rfl h2 rfl ?_
  refine step_pickT rfl h2 rfl rfl ?_
  refine step_r rfl rfl trivial ?_
  refine step_gf rfl rfl ?_
  refine step_gf rfl rfl ?_
  refine step_gf rfl rfl ?_
  refine step_gf rfl rfl ?_
  refine step_gf rfl rfl ?_
  refine step_r rfl rfl trivial ?_
  refine step_r rfl rfl trivial ?_
  refine step_gf rfl rfl ?_
  refine step_gf rfl rfl ?_
  refine step_gf rfl rfl ?_
  refine step_gf rfl rfl ?_
  refine step_gf rfl rfl ?_
  refine step_r rfl rfl trivial ?_
  refine step_r rfl rfl trivial ?_
  refine step_gf rfl rfl ?_
  refine step_gf rfl rfl ?_
  refine step_gf rfl rfl ?_
  refine step_gf rfl rfl ?_
  refine step_gf rfl rfl ?_
  refine step_r rfl rfl trivial ?_
  refine step_r rfl rfl trivial ?_
  refine step_gf rfl rfl ?_
  refine step_gf rfl rfl ?_
  refine step_gf rfl rfl ?_
  refine step_gf rfl rfl ?_
  refine step_gf rfl rfl ?_
  refine step_r rfl rfl trivial ?_
  refine step_r rfl rfl trivial ?_
  refine step_gf rfl rfl ?_
  refine step_gf rfl rfl ?_
  refine step_gf rfl rfl ?_
  refine step_gf rfl rfl ?_
  refine step_gf rfl rfl ?_
  refine step_r rfl rfl trivial ?_
  refine step_r rfl rfl trivial ?_
  refine step_gf rfl rfl ?_
  refine step_gf rfl rfl ?_
  refine step_gf rfl rfl ?_
  refine step_gf rfl rfl ?_
  refine step_gf rfl rfl ?_
  refine step_gf rfl rfl ?_
  refine step_gf rfl rfl ?_
  refine step_r rfl rfl trivial ?_
  refine step_nil ?_
  refine seqK_n ?_
  refine sem_condT rfl ?_
  refine sem_seq ?_
  refine sem_region rfl ?_
  refine step_r rfl rfl trivial ?_
  refine step_nil ?_
  refine seqK_n ?_
  refine sem_ret ?_
  refine seqK_r ?_
  have e3 : sameAR a b = false := by
   unfold sameAR
   try dsimp only
   rewrite [if_neg g2]
   all_goals rfl
  rw [e3]
  exact answersR rfl ⟨trivial, trivial⟩ (rfl) rfl
 ·have g2 : (a.Id : Int) = b.Id := bne_f h2
  refine step_g1 rfl h2 ?_
  refine step_r rfl rfl (by decide) ?_
  refine step_g1 rfl h2 ?_
  refine step_r rfl rfl trivial ?_
  refine step_g1 rfl h2 ?_
  refine step_r rfl rfl (by decide) ?_
  refine step_g1 rfl h2 ?_
  refine step_r rfl rfl trivial ?_
  refine step_g1 rfl h2 ?_
  refine step_bin rfl rfl rfl rfl rfl trivial ?_
  refine step_pickF rfl h2 rfl rfl ?_
  refine step_r rfl rfl trivial ?_
  refine step_gs rfl (fun h5 => ?_) (fun h5 => ?_)
  ·have g5 : ¬ ((a.Cast : Int) = b.Cast) := bne_t h5
   refine step_g0 rfl h5 rfl ?_
   refine step_g0 rfl h5 rfl ?_
   refine step_g0 rfl h5 rfl ?_
   refine step_g0 rfl h5 rfl ?_
   refine step_g0 rfl h5 rfl ?_
   refine step_pickT rfl h5 rfl rfl ?_
   refine step_r rfl rfl trivial ?_
   refine step_gf rfl rfl ?_
   refine step_gf rfl rfl ?_
   refine step_gf rfl rfl ?_
   refine step_gf rfl rfl ?_
   refine step_gf rfl rfl ?_
   refine step_r rfl rfl trivial ?_
   refine step_r rfl rfl trivial ?_
   refine step_gf rfl rfl ?_
   refine step_gf rfl rfl ?_
   refine step_gf rfl rfl ?_
   refine step_gf rfl rfl ?_
   refine step_gf rfl rfl ?_
   refine step_r rfl rfl trivial ?_
   refine step_r rfl rfl trivial ?_
   refine step_gf rfl rfl ?_
   refine step_gf rfl rfl ?_
   refine step_gf rfl rfl ?_
   refine step_gf rfl rfl ?_
   refine step_gf rfl rfl ?_
   refine step_r rfl rfl trivial ?_
   refine step_r rfl rfl trivial ?_
   refine step_gf rfl rfl ?_
   refine step_gf rfl rfl ?_
   refine step_gf rfl rfl ?_
   refine step_gf rfl rfl ?_
   refine step_gf rfl rfl ?_
   refine step_r rfl rfl trivial ?_
   refine step_r rfl rfl trivial ?_
   refine step_gf rfl rfl ?_
   refine step_gf rfl rfl ?_
   refine step_gf rfl rfl ?_
   refine step_gf rfl rfl ?_
   refine step_gf rfl rfl ?_
   refine step_gf rfl rfl ?_
   refine step_gf rfl rfl ?_
   refine step_r rfl rfl trivial ?_
   refine step_nil ?_
   refine seqK_n ?_
   refine sem_condT rfl ?_
   refine sem_seq ?_
   refine sem_region rfl ?_
   refine step_r rfl rfl trivial ?_
   refine step_nil ?_
   refine seqK_n ?_
   refine sem_ret ?_
   refine seqK_r ?_
   have e6 : sameAR a b = false := by
    unfold sameAR
    try dsimp only
    rewrite [if_pos g2, if_neg g5]
    all_goals rfl
   rw [e6]
   exact answersR rfl ⟨trivial, trivial⟩ (rfl) rfl
  ·have g5 : (a.Cast : Int) = b.Cast := bne_f h5
   refine step_g1 rfl h5 ?_
   refine step_r rfl rfl (by decide) ?_
   refine step_g1 rfl h5 ?_
   refine step_r rfl rfl trivial ?_
   refine step_g1 rfl h5 ?_
   refine step_r rfl rfl (by decide) ?_
   refine step_g1 rfl h5 ?_
   refine step_r rfl rfl trivial ?_
   refine step_g1 rfl h5 ?_
   refine step_bin rfl rfl rfl rfl rfl trivial ?_
   refine step_pickF rfl h5 rfl rfl ?_
   refine step_r rfl rfl trivial ?_
   refine step_gs rfl (fun h8 => ?_) (fun h8 => ?_)
   ·have g8 : ¬ ((a.Cool : Int) = b.Cool) := bne_t h8
    refine step_g0 rfl h8 rfl ?_
    refine step_g0 rfl h8 rfl ?_
    refine step_g0 rfl h8 rfl ?_
    refine step_g0 rfl h8 rfl ?_
    refine step_g0 rfl h8 rfl ?_
    refine step_pickT rfl h8 rfl rfl ?_
    refine step_r rfl rfl trivial ?_
    refine step_gf rfl rfl ?_
    refine step_gf rfl rfl ?_
    refine step_gf rfl rfl ?_
    refine step_gf rfl rfl ?_
    refine step_gf rfl rfl ?_
    refine step_r rfl rfl trivial ?_
    refine step_r rfl rfl trivial ?_
    refine step_gf rfl rfl ?_
    refine step_gf rfl rfl ?_
    refine step_gf rfl rfl ?_
    refine step_gf rfl rfl ?_
    refine step_gf rfl rfl ?_
    refine step_r rfl rfl trivial ?_
    refine step_r rfl rfl trivial ?_
    refine step_gf rfl rfl ?_
    refine step_gf rfl rfl ?_
    refine step_gf rfl rfl ?_
    refine step_gf rfl rfl ?_
    refine step_gf rfl rfl ?_
    refine step_r rfl rfl trivial ?_
    refine step_r rfl rfl trivial ?_
    refine step_gf rfl rfl ?_
    refine step_gf rfl rfl ?_
    refine step_gf rfl rfl ?_
    refine step_gf rfl rfl ?_
    refine step_gf rfl rfl ?_
    refine step_gf rfl rfl ?_
    refine step_gf rfl rfl ?_
    refine step_r rfl rfl trivial ?_
    refine step_nil ?_
    refine seqK_n ?_
    refine sem_condT rfl ?_
    refine sem_seq ?_
    refine sem_region rfl ?_
    refine step_r rfl rfl trivial ?_
    refine step_nil ?_
    refine seqK_n ?_
    refine sem_ret ?_
    refine seqK_r ?_
    have e9 : sameAR a b = false := by
     unfold sameAR
     try dsimp only
     rewrite [if_pos g2, if_pos g5, if_neg g8]
     all_goals rfl
    rw [e9]
    exact answersR rfl ⟨trivial, trivial⟩ (rfl) rfl
   ·have g8 : (a.Cool : Int) = b.Cool := bne_f h8
    refine step_g1 rfl h8 ?_
    refine step_r rfl rfl (by decide) ?_
    refine step_g1 rfl h8 ?_
    refine step_r rfl rfl trivial ?_
    refine step_g1 rfl h8 ?_
    refine step_r rfl rfl (by decide) ?_
    refine step_g1 rfl h8 ?_
    refine step_r rfl rfl trivial ?_
    refine step_g1 rfl h8 ?_
    refine step_bin rfl rfl rfl rfl rfl trivial ?_
    refine step_pickF rfl h8 rfl rfl ?_
    refine step_r rfl rfl trivial ?_
    refine step_gs rfl (fun h11 => ?_) (fun h11 => ?_)
    ·have g11 : ¬ ((a.Charges : Int) = b.Charges) := bne_t h11
     refine step_g0 rfl h11 rfl ?_
     refine step_g0 rfl h11 rfl ?_
     refine step_g0 rfl h11 rfl ?_
     refine step_g0 rfl h11 rfl ?_
     refine step_g0 rfl h11 rfl ?_
     refine step_pickT rfl h11 rfl rfl ?_
     refine step_r rfl rfl trivial ?_
     refine step_gf rfl rfl ?_
     refine step_gf rfl rfl ?_
     refine step_gf rfl rfl ?_
     refine step_gf rfl rfl ?_
     refine step_gf rfl rfl ?_
     refine step_r rfl rfl trivial ?_
     refine step_r rfl rfl trivial ?_
     refine step_gf rfl rfl ?_
     refine step_gf rfl rfl ?_
     refine step_gf rfl rfl ?_
     refine step_gf rfl rfl ?_
     refine step_gf rfl rfl ?_
     refine step_r rfl rfl trivial ?_
     refine step_r rfl rfl trivial ?_
     refine step_gf rfl rfl ?_
     refine step_gf rfl rfl ?_
     refine step_gf rfl rfl ?_
     refine step_gf rfl rfl ?_
     refine step_gf rfl rfl ?_
     refine step_gf rfl rfl ?_
     refine step_gf rfl rfl ?_
     refine step_r rfl rfl trivial ?_
     refine step_nil ?_
     refine seqK_n ?_
     refine sem_condT rfl ?_
     refine sem_seq ?_
     refine sem_region rfl ?_
     refine step_r rfl rfl trivial ?_
     refine step_nil ?_
     refine seqK_n ?_
     refine sem_ret ?_
     refine seqK_r ?_
     have e12 : sameAR a b = false := by
      unfold sameAR
      try dsimp only
      rewrite [if_pos g2, if_pos g5, if_pos g8, if_neg g11]
      all_goals rfl
     rw [e12]
     exact answersR rfl ⟨trivial, trivial⟩ (rfl) rfl
    ·have g11 : (a.Charges : Int) = b.Charges := bne_f h11
     refine step_g1 rfl h11 ?_
     refine step_r rfl rfl (by decide) ?_
     refine step_g1 rfl h11 ?_
     refine step_r rfl rfl trivial ?_
     refine step_g1 rfl h11 ?_
     refine step_r rfl rfl (by decide) ?_
     refine step_g1 rfl h11 ?_
     refine step_r rfl rfl trivial ?_
     refine step_g1 rfl h11 ?_
     refine step_bin rfl rfl rfl rfl rfl trivial ?_
     refine step_pickF rfl h11 rfl rfl ?_
     refine step_r rfl rfl trivial ?_
     refine step_gs rfl (fun h14 => ?_) (fun h14 => ?_)
     ·have g14 : ¬ ((a.Range : Int) = b.Range) := bne_t h14
      refine step_g0 rfl h14 rfl ?_
      refine step_g0 rfl h14 rfl ?_
      refine step_g0 rfl h14 rfl ?_
      refine step_g0 rfl h14 rfl ?_
      refine step_g0 rfl h14 rfl ?_
      refine step_pickT rfl h14 rfl rfl ?_
      refine step_r rfl rfl trivial ?_
      refine step_gf rfl rfl ?_
      refine step_gf rfl rfl ?_
      refine step_gf rfl rfl ?_
      refine step_gf rfl rfl ?_
      refine step_gf rfl rfl ?_
      refine step_r rfl rfl trivial ?_
      refine step_r rfl rfl trivial ?_
      refine step_gf rfl rfl ?_
      refine step_gf rfl rfl ?_
      refine step_gf rfl rfl ?_
      refine step_gf rfl rfl ?_
      refine step_gf rfl rfl ?_
      refine step_gf rfl rfl ?_
      refine step_gf rfl rfl ?_
      refine step_r rfl rfl trivial ?_
      refine step_nil ?_
      refine seqK_n ?_
      refine sem_condT rfl ?_
      refine sem_seq ?_
      refine sem_region rfl ?_
      refine step_r rfl rfl trivial ?_
      refine step_nil ?_
      refine seqK_n ?_
      refine sem_ret ?_
      refine seqK_r ?_
      have e15 : sameAR a b = false := by
       unfold sameAR
       try dsimp only
       rewrite [if_pos g2, if_pos g5, if_pos g8, if_pos g11, if_neg g14]
       all_goals rfl
      rw [e15]
      exact answersR rfl ⟨trivial, trivial⟩ (rfl) rfl
     ·have g14 : (a.Range : Int) = b.Range := bne_f h14
      refine step_g1 rfl h14 ?_
      refine step_r rfl rfl (by decide) ?_
      refine step_g1 rfl h14 ?_
      refine step_r rfl rfl trivial ?_
      refine step_g1 rfl h14 ?_
      refine step_r rfl rfl (by decide) ?_
      refine step_g1 rfl h14 ?_
      refine step_r rfl rfl trivial ?_
      refine step_g1 rfl h14 ?_
      refine step_bin rfl rfl rfl rfl rfl trivial ?_
      refine step_pickF rfl h14 rfl rfl ?_
      refine step_r rfl rfl trivial ?_
      refine step_gs rfl (fun h17 => ?_) (fun h17 => ?_)
      ·have g17 : ¬ ((a.Cost : Int) = b.Cost) := bne_t h17
       refine step_g0 rfl h17 rfl ?_
       refine step_g0 rfl h17 rfl ?_
       refine step_g0 rfl h17 rfl ?_
       refine step_g0 rfl h17 rfl ?_
       refine step_g0 rfl h17 rfl ?_
       refine step_pickT rfl h17 rfl rfl ?_
       refine step_r rfl rfl trivial ?_
       refine step_gf rfl rfl ?_
       refine step_gf rfl rfl ?_
       refine step_gf rfl rfl ?_
       refine step_gf rfl rfl ?_
       refine step_gf rfl rfl ?_
       refine step_gf rfl rfl ?_
       refine step_gf rfl rfl ?_
       refine step_r rfl rfl trivial ?_
       refine step_nil ?_
       refine seqK_n ?_
       refine sem_condT rfl ?_
       refine sem_seq ?_
       refine sem_region rfl ?_
       refine step_r rfl rfl trivial ?_
       refine step_nil ?_
       refine seqK_n ?_
       refine sem_ret ?_
       refine seqK_r ?_
       have e18 : sameAR a b = false := by
        unfold sameAR
        try dsimp only
        rewrite [if_pos g2, if_pos g5, if_pos g8, if_pos g11, if_pos g14, if_neg g17]
        all_goals rfl
       rw [e18]
       exact answersR rfl ⟨trivial, trivial⟩ (rfl) rfl
      ·have g17 : (a.Cost : Int) = b.Cost := bne_f h17
       refine step_g1 rfl h17 ?_
       refine step_r rfl rfl (by decide) ?_
       refine step_g1 rfl h17 ?_
       refine step_r rfl rfl trivial ?_
       refine step_g1 rfl h17 ?_
       refine step_r rfl rfl (by decide) ?_
       refine step_g1 rfl h17 ?_
       refine step_r rfl rfl trivial ?_
       refine step_g1 rfl h17 ?_
       refine step_bin rfl rfl rfl rfl rfl trivial ?_
       refine step_pickF rfl h17 rfl rfl ?_
       refine step_r rfl rfl trivial ?_
       refine step_gs rfl (fun h20 => ?_) (fun h20 => ?_)
       ·have g20 : ¬ (a.Sight = b.Sight) := beq_f (not_t h20)
        refine step_g0 rfl h20 rfl ?_
        refine step_g0 rfl h20 rfl ?_
        refine step_g0 rfl h20 rfl ?_
        refine step_g0 rfl h20 rfl ?_
        refine step_g0 rfl h20 rfl ?_
        refine step_g0 rfl h20 rfl ?_
        refine step_g0 rfl h20 rfl ?_
        refine step_pickT rfl h20 rfl rfl ?_
        refine step_nil ?_
        refine seqK_n ?_
        refine sem_condT rfl ?_
        refine sem_seq ?_
        refine sem_region rfl ?_
        refine step_r rfl rfl trivial ?_
        refine step_nil ?_
        refine seqK_n ?_
        refine sem_ret ?_
        refine seqK_r ?_
        have e21 : sameAR a b = false := by
         unfold sameAR
         try dsimp only
         rewrite [if_pos g2, if_pos g5, if_pos g8, if_pos g11, if_pos g14, if_pos g17, if_neg g20]
         all_goals rfl
        rw [e21]
        exact answersR rfl ⟨trivial, trivial⟩ (rfl) rfl
       ·have g20 : a.Sight = b.Sight := beq_t (not_f h20)
        refine step_g1 rfl h20 ?_
        refine step_r rfl rfl (by decide) ?_
        refine step_g1 rfl h20 ?_
        refine step_r rfl rfl trivial ?_
        refine step_g1 rfl h20 ?_
        refine step_r rfl rfl trivial ?_
        refine step_g1 rfl h20 ?_
        refine step_r rfl rfl (by decide) ?_
        refine step_g1 rfl h20 ?_
        refine step_r rfl rfl trivial ?_
        refine step_g1 rfl h20 ?_
        refine step_r rfl rfl trivial ?_
        refine step_g1 rfl h20 ?_
        refine step_bin rfl rfl rfl rfl rfl trivial ?_
        refine step_pickF rfl h20 rfl rfl ?_
        refine step_nil ?_
        refine seqK_n ?_
        refine sem_cond rfl (fun h23 => ?_) (fun h23 => ?_)
        ·have g23 : ¬ ((a.Effects.length : Int) = b.Effects.length) := bne_t h23
         refine sem_seq ?_
         refine sem_region rfl ?_
         refine step_r rfl rfl trivial ?_
         refine step_nil ?_
         refine seqK_n ?_
         refine sem_ret ?_
         refine seqK_r ?_
         have e24 : sameAR a b = false := by
          unfold sameAR
          try dsimp only
          rewrite [if_pos g2, if_pos g5, if_pos g8, if_pos g11, if_pos g14, if_pos g17, if_pos g20, if_neg g23]
          all_goals rfl
         rw [e24]
         exact answersR rfl ⟨trivial, trivial⟩ (rfl) rfl
        ·have g23 : (a.Effects.length : Int) = b.Effects.length := bne_f h23
         refine sem_skip ?_
         refine seqK_n ?_
         refine sem_seq ?_
         refine sem_seq ?_
         refine sem_region rfl ?_
         refine step_r rfl rfl trivial ?_
         refine step_nil ?_
         refine seqK_n ?_
         refine sem_cutW (fun w_ : Unit => match w_ with | () => (⟨[], [], 0, [], 80, 0⟩ : St)) (fun w_ => sameAR_L0 a b (a.Effects.length - 0) 0 = .inr w_) ?_ ?_
         ·refine sem_block ?_
          refine sem_loopT (fun k0 : Nat => (⟨[(2, .ptr 0 0), (3, .ptr 1 0), (5, I k0)], [(0, .box [I a.Id, I a.Cast, I a.Cool, I a.Charges, I a.Range, I a.Cost, B a.Sight, .pv (.slc a.Effects.length false (a.Effects.flatMap encGEffect))]), (1, .box [I b.Id, I b.Cast, I b.Cool, I b.Charges, I b.Range, I b.Cost, B b.Sight, .pv (.slc b.Effects.length false (b.Effects.flatMap encGEffect))])], 2, [], 80, 0⟩ : St)) (fun k0 : Nat => sameAR_L0 a b (a.Effects.length - k0) k0 = sameAR_L0 a b (a.Effects.length - 0) 0 ∧ k0 ≤ a.Effects.length) (fun k0 : Nat => a.Effects.length - k0) 0 (⟨rfl, (by first | omega | (simp; omega))⟩) ?_ (fun k0 hh_ => ?_)
          ·exact (Trans.ren [] (by decide +kernel) (by decide +kernel) rfl ⟨⟨rfl, rfl⟩, ⟨rfl, rfl⟩, ⟨rfl, rfl⟩, trivial⟩ ⟨⟨rfl, rfl, rfl⟩, ⟨rfl, rfl, rfl⟩, trivial⟩ (by decide))
          obtain ⟨hI0, hb0⟩ := hh_
          show Walks Try.prog _ _ (⟨[(2, .ptr 0 0), (3, .ptr 1 0), (5, I k0)], [(0, .box [I a.Id, I a.Cast, I a.Cool, I a.Charges, I a.Range, I a.Cost, B a.Sight, .pv (.slc a.Effects.length false (a.Effects.flatMap encGEffect))]), (1, .box [I b.Id, I b.Cast, I b.Cool, I b.Charges, I b.Range, I b.Cost, B b.Sight, .pv (.slc b.Effects.length false (b.Effects.flatMap encGEffect))])], 2, [], 80, 0⟩ : St)
          refine sem_seq ?_
          refine sem_seq ?_
          refine sem_region rfl ?_
          refine step_r rfl rfl trivial ?_
          refine step_r rfl rfl (by decide) ?_
          refine step_r rfl rfl trivial ?_
          refine step_r rfl rfl trivial ?_
          refine step_bin rfl rfl rfl rfl rfl trivial ?_
          refine step_nil ?_
          refine seqK_n ?_
          refine sem_cond rfl (fun h27 => ?_) (fun h27 => ?_)
          ·have g27 : (k0 : Int) < a.Effects.length := of_decide_eq_true h27
           have hm0 : a.Effects.length - k0 = (a.Effects.length - (k0 + 1)) + 1 := by omega
           refine sem_skip ?_
           refine seqK_n ?_
           refine sem_seq ?_
           refine sem_block ?_
           refine sem_seq ?_
           refine sem_drawn rfl (by decide +kernel) rfl ?_
           refine step_r rfl rfl (by decide) ?_
           refine step_r rfl rfl trivial ?_
           refine step_r rfl rfl trivial ?_
           have jk28 : k0 < a.Effects.length := by first | assumption | omega | (simp only [List.length_set, List.length_append]; omega) | (simp only [IntKind.wrap_i64] at *; omega) | (simp; omega) | simp_all
           refine step_idxS (k := k0) rfl rfl rfl rfl jk28 (flat_ne (s := 3) (enc := encGEffect) (fun _ => rfl) (by decide) jk28) rfl ?_
           refine step_load_row rfl rfl rfl (flat_lt (s := 3) (enc := encGEffect) (fun _ => rfl) jk28) (flat_take (s := 3) (enc := encGEffect) (fun _ => rfl) (get_getD jk28)) rfl ?_
           refine step_r rfl rfl (by decide) ?_
           refine step_r rfl rfl trivial ?_
           refine step_r rfl rfl trivial ?_
           have jk29 : k0 < b.Effects.length := by first | assumption | omega | (simp only [List.length_set, List.length_append]; omega) | (simp only [IntKind.wrap_i64] at *; omega) | (simp; omega) | simp_all
           refine step_idxS (k := k0) rfl rfl rfl rfl jk29 (flat_ne (s := 3) (enc := encGEffect) (fun _ => rfl) (by decide) jk29) rfl ?_
           refine step_load_row rfl rfl rfl (flat_lt (s := 3) (enc := encGEffect) (fun _ => rfl) jk29) (flat_take (s := 3) (enc := encGEffect) (fun _ => rfl) (get_getD jk29)) rfl ?_
           refine step_neqA rfl rfl rfl (by kernel_rfl) rfl rfl rfl rfl rfl ?_
           refine step_nil ?_
           refine seqK_n ?_
           refine sem_cond rfl (fun h30 => ?_) (fun h30 => ?_)
           ·have g30 : ¬ (((((a.Effects.getD k0 default).Kind) == ((b.Effects.getD k0 default).Kind)) && ((((a.Effects.getD k0 default).Amount) == ((b.Effects.getD k0 default).Amount)) && ((((a.Effects.getD k0 default).Aura) == ((b.Effects.getD k0 default).Aura)) && true))) = true) := boo_f (not_t h30)
            refine sem_seq ?_
            refine sem_region rfl ?_
            refine step_r rfl rfl trivial ?_
            refine step_nil ?_
            refine seqK_n ?_
            refine sem_ret ?_
            refine blkK_r ?_
            refine seqK_r ?_
            refine lupK_r ?_
            refine blkK_r ?_
            refine cutW_r ?_
            refine seqK_r ?_
            have e31 : sameAR_L0 a b (a.Effects.length - 0) 0 = .inl false := by
             rewrite [← hI0, hm0]
             rewrite [sameAR_L0]
             try dsimp only
             rewrite [if_neg g30]
             all_goals rfl
            have e32 : sameAR a b = false := by
             unfold sameAR
             try dsimp only
             rewrite [if_pos g2, if_pos g5, if_pos g8, if_pos g11, if_pos g14, if_pos g17, if_pos g20, if_pos g23, e31]
             try dsimp only
             all_goals rfl
            rw [e32]
            exact answersR rfl ⟨trivial, trivial⟩ (rfl) rfl
           ·have g30 : ((((a.Effects.getD k0 default).Kind) == ((b.Effects.getD k0 default).Kind)) && ((((a.Effects.getD k0 default).Amount) == ((b.Effects.getD k0 default).Amount)) && ((((a.Effects.getD k0 default).Aura) == ((b.Effects.getD k0 default).Aura)) && true))) = true := (not_f h30)
            refine sem_skip ?_
            refine blkK_n ?_
            refine seqK_n ?_
            refine sem_region rfl ?_
            refine step_r rfl rfl trivial ?_
            refine step_bin rfl rfl rfl rfl rfl trivial ?_
            refine step_r rfl rfl trivial ?_
            refine step_nil ?_
            have e34 : sameAR_L0 a b (a.Effects.length - k0) k0 = sameAR_L0 a b (a.Effects.length - (k0 + 1)) (k0 + 1) := by
             rewrite [hm0]
             rewrite [sameAR_L0]
             try dsimp only
             rewrite [if_pos g30]
             all_goals rfl
            exact lup_againT (k0 + 1) ⟨e34.symm.trans hI0, (by omega)⟩ (by show a.Effects.length - (k0 + 1) < a.Effects.length - k0; omega) (Trans.ren [] (by decide +kernel) (by decide +kernel) rfl ⟨⟨rfl, rfl⟩, ⟨rfl, rfl⟩, ⟨congrArg (fun n => some (I n)) (wrapI (k := k0) (by first | omega | (simp; omega))), rfl⟩, trivial⟩ ⟨⟨rfl, rfl, rfl⟩, ⟨rfl, rfl, rfl⟩, trivial⟩ (by decide))
          ·have g27 : ¬ ((k0 : Int) < a.Effects.length) := of_decide_eq_false h27
           have hm0 : a.Effects.length - k0 = 0 := by omega
           refine sem_exit ?_
           refine seqK_e ?_
           refine lupK_e ?_
           refine blkK_t rfl ?_
           have e35 : sameAR_L0 a b (a.Effects.length - 0) 0 = .inr () := by
            rewrite [← hI0, hm0]
            rewrite [sameAR_L0]
            try dsimp only
            all_goals rfl
           exact cutW_n () e35 (Trans.ren [] (by decide +kernel) (by decide +kernel) rfl trivial trivial (by decide))
         ·rintro ⟨⟩ (hJ25 : sameAR_L0 a b (a.Effects.length - 0) 0 = .inr ())
          show seqK _ _ _ .normal (⟨[], [], 0, [], 80, 0⟩ : St)
          refine seqK_n ?_
          refine sem_seq ?_
          refine sem_region rfl ?_
          refine step_r rfl rfl trivial ?_
          refine step_nil ?_
          refine seqK_n ?_
          refine sem_ret ?_
          have e36 : sameAR a b = true := by
           unfold sameAR
           try dsimp only
           rewrite [if_pos g2, if_pos g5, if_pos g8, if_pos g11, if_pos g14, if_pos g17, if_pos g20, if_pos g23, hJ25]
           try dsimp only
           all_goals rfl
          rw [e36]
          exact answersR rfl ⟨trivial, trivial⟩ (rfl) rfl

def sameFR_L0 (a : GFoe) (b : GFoe) : Nat → Nat → Sum Bool Unit
  | 0, k0 => .inr ()
  | n_ + 1, k0 => if ((((a.Script.getD k0 default).Phase) == ((b.Script.getD k0 default).Phase)) && ((((a.Script.getD k0 default).When) == ((b.Script.getD k0 default).When)) && ((((a.Script.getD k0 default).Arg) == ((b.Script.getD k0 default).Arg)) && ((((a.Script.getD k0 default).Do) == ((b.Script.getD k0 default).Do)) && ((((a.Script.getD k0 default).Value) == ((b.Script.getD k0 default).Value)) && true))))) = true then sameFR_L0 a b n_ (k0 + 1) else .inl false
def sameFR_L1 (a : GFoe) (b : GFoe) : Nat → Nat → Sum Bool Unit
  | 0, k1 => .inr ()
  | n_ + 1, k1 => if ((((a.Hoard.getD k1 default).Item) == ((b.Hoard.getD k1 default).Item)) && ((((a.Hoard.getD k1 default).Weight) == ((b.Hoard.getD k1 default).Weight)) && true)) = true then sameFR_L1 a b n_ (k1 + 1) else .inl false
def sameFR (a : GFoe) (b : GFoe) : Bool :=
  if (a.Id : Int) = b.Id then (if (a.Health : Int) = b.Health then (if (a.Hit : Int) = b.Hit then (if (a.Every : Int) = b.Every then (if (a.Reach : Int) = b.Reach then (if (a.Drops : Int) = b.Drops then (if (a.Script.length : Int) = b.Script.length then (if (a.Hoard.length : Int) = b.Hoard.length then (match sameFR_L0 a b (a.Script.length - 0) 0 with
    | .inl r_ => r_
    | .inr () => (match sameFR_L1 a b (a.Hoard.length - 0) 0 with
    | .inl r_ => r_
    | .inr () => true)) else false) else false) else false) else false) else false) else false) else false) else false
theorem sameFR_ok (a : GFoe) (b : GFoe) : Ok Try.prog 15 [aGFoe a, aGFoe b] [] (B (sameFR a b)) [] [] := by
 refine Ok.len fun hlen => ?_
 have hl_a_Script : a.Script.length ≤ maxLen := hlen _ (by simp [lensL, lens, lensP])
 have hl_a_Hoard : a.Hoard.length ≤ maxLen := hlen _ (by simp [lensL, lens, lensP])
 have hl_b_Script : b.Script.length ≤ maxLen := hlen _ (by simp [lensL, lens, lensP])
 have hl_b_Hoard : b.Hoard.length ≤ maxLen := hlen _ (by simp [lensL, lens, lensP])
 unfold maxLen at hl_a_Script hl_a_Hoard hl_b_Script hl_b_Hoard
 refine ok_of_sem Try.func15 rfl ?_
 show Walks Try.prog _ _ ⟨[(0, aGFoe a), (1, aGFoe b)], [], 0, [], 101, 0⟩
 refine sem_seq ?_
 refine sem_region rfl ?_
 refine step_n (o := .box [_, _, _, _, _, _, _, _]) (nx' := 1) rfl rfl rfl trivial ?_
 refine step_n (o := .box [_, _, _, _, _, _, _, _]) (nx' := 2) rfl rfl rfl trivial ?_
 refine step_r rfl rfl trivial ?_
 refine step_nil ?_
 refine seqK_n ?_
 refine sem_seq ?_
 refine sem_seq ?_
 refine sem_region rfl ?_
 refine step_r rfl rfl (by decide) ?_
 refine step_r rfl rfl trivial ?_
 refine step_r rfl rfl (by decide) ?_
 refine step_r rfl rfl trivial ?_
 refine step_bin rfl rfl rfl rfl rfl trivial ?_
 refine step_r rfl rfl trivial ?_
 refine step_gs rfl (fun h2 => ?_) (fun h2 => ?_)
 ·have g2 : ¬ ((a.Id : Int) = b.Id) := bne_t h2
  refine step_g0 rfl h2 rfl ?_
  refine step_g0 rfl h2 rfl ?_
  refine step_g0 rfl h2 rfl ?_
  refine step_g0 rfl h2 rfl ?_
  refine step_g0 rfl h2 rfl ?_
  refine step_pickT rfl h2 rfl rfl ?_
  refine step_r rfl rfl trivial ?_
  refine step_gf rfl rfl ?_
  refine step_gf rfl rfl ?_
  refine step_gf rfl rfl ?_
  refine step_gf rfl rfl ?_
  refine step_gf rfl rfl ?_
  refine step_r rfl rfl trivial ?_
  refine step_r rfl rfl trivial ?_
  refine step_gf rfl rfl ?_
  refine step_gf rfl rfl ?_
  refine step_gf rfl rfl ?_
  refine step_gf rfl rfl ?_
  refine step_gf rfl rfl ?_
  refine step_r rfl rfl trivial ?_
  refine step_r rfl rfl trivial ?_
  refine step_gf rfl rfl ?_
  refine step_gf rfl rfl ?_
  refine step_gf rfl rfl ?_
  refine step_gf rfl rfl ?_
  refine step_gf rfl rfl ?_
  refine step_r rfl rfl trivial ?_
  refine step_r rfl rfl trivial ?_
  refine step_gf rfl rfl ?_
  refine step_gf rfl rfl ?_
  refine step_gf rfl rfl ?_
  refine step_gf rfl rfl ?_
  refine step_gf rfl rfl ?_
  refine step_r rfl rfl trivial ?_
  refine step_r rfl rfl trivial ?_
  refine step_gf rfl rfl ?_
  refine step_gf rfl rfl ?_
  refine step_gf rfl rfl ?_
  refine step_gf rfl rfl ?_
  refine step_gf rfl rfl ?_
  refine step_gf rfl rfl ?_
  refine step_gf rfl rfl ?_
  refine step_r rfl rfl trivial ?_
  refine step_r rfl rfl trivial ?_
  refine step_gf rfl rfl ?_
  refine step_gf rfl rfl ?_
  refine step_gf rfl rfl ?_
  refine step_gf rfl rfl ?_
  refine step_gf rfl rfl ?_
  refine step_gf rfl rfl ?_
  refine step_gf rfl rfl ?_
  refine step_r rfl rfl trivial ?_
  refine step_nil ?_
  refine seqK_n ?_
  refine sem_condT rfl ?_
  refine sem_seq ?_
  refine sem_region rfl ?_
  refine step_r rfl rfl trivial ?_
  refine step_nil ?_
  refine seqK_n ?_
  refine sem_ret ?_
  refine seqK_r ?_
  have e3 : sameFR a b = false := by
   unfold sameFR
   try dsimp only
   rewrite [if_neg g2]
   all_goals rfl
  rw [e3]
  exact answersR rfl ⟨trivial, trivial⟩ (rfl) rfl
 ·have g2 : (a.Id : Int) = b.Id := bne_f h2
  refine step_g1 rfl h2 ?_
  refine step_r rfl rfl (by decide) ?_
  refine step_g1 rfl h2 ?_
  refine step_r rfl rfl trivial ?_
  refine step_g1 rfl h2 ?_
  refine step_r rfl rfl (by decide) ?_
  refine step_g1 rfl h2 ?_
  refine step_r rfl rfl trivial ?_
  refine step_g1 rfl h2 ?_
  refine step_bin rfl rfl rfl rfl rfl trivial ?_
  refine step_pickF rfl h2 rfl rfl ?_
  refine step_r rfl rfl trivial ?_
  refine step_gs rfl (fun h5 => ?_) (fun h5 => ?_)
  ·have g5 : ¬ ((a.Health : Int) = b.Health) := bne_t h5
   refine step_g0 rfl h5 rfl ?_
   refine step_g0 rfl h5 rfl ?_
   refine step_g0 rfl h5 rfl ?_
   refine step_g0 rfl h5 rfl ?_
   refine step_g0 rfl h5 rfl ?_
   refine step_pickT rfl h5 rfl rfl ?_
   refine step_r rfl rfl trivial ?_
   refine step_gf rfl rfl ?_
   refine step_gf rfl rfl ?_
   refine step_gf rfl rfl ?_
   refine step_gf rfl rfl ?_
   refine step_gf rfl rfl ?_
   refine step_r rfl rfl trivial ?_
   refine step_r rfl rfl trivial ?_
   refine step_gf rfl rfl ?_
   refine step_gf rfl rfl ?_
   refine step_gf rfl rfl ?_
   refine step_gf rfl rfl ?_
   refine step_gf rfl rfl ?_
   refine step_r rfl rfl trivial ?_
   refine step_r rfl rfl trivial ?_
   refine step_gf rfl rfl ?_
   refine step_gf rfl rfl ?_
   refine step_gf rfl rfl ?_
   refine step_gf rfl rfl ?_
   refine step_gf rfl rfl ?_
   refine step_r rfl rfl trivial ?_
   refine step_r rfl rfl trivial ?_
   refine step_gf rfl rfl ?_
   refine step_gf rfl rfl ?_
   refine step_gf rfl rfl ?_
   refine step_gf rfl rfl ?_
   refine step_gf rfl rfl ?_
   refine step_gf rfl rfl ?_
   refine step_gf rfl rfl ?_
   refine step_r rfl rfl trivial ?_
   refine step_r rfl rfl trivial ?_
   refine step_gf rfl rfl ?_
   refine step_gf rfl rfl ?_
   refine step_gf rfl rfl ?_
   refine step_gf rfl rfl ?_
   refine step_gf rfl rfl ?_
   refine step_gf rfl rfl ?_
   refine step_gf rfl rfl ?_
   refine step_r rfl rfl trivial ?_
   refine step_nil ?_
   refine seqK_n ?_
   refine sem_condT rfl ?_
   refine sem_seq ?_
   refine sem_region rfl ?_
   refine step_r rfl rfl trivial ?_
   refine step_nil ?_
   refine seqK_n ?_
   refine sem_ret ?_
   refine seqK_r ?_
   have e6 : sameFR a b = false := by
    unfold sameFR
    try dsimp only
    rewrite [if_pos g2, if_neg g5]
    all_goals rfl
   rw [e6]
   exact answersR rfl ⟨trivial, trivial⟩ (rfl) rfl
  ·have g5 : (a.Health : Int) = b.Health := bne_f h5
   refine step_g1 rfl h5 ?_
   refine step_r rfl rfl (by decide) ?_
   refine step_g1 rfl h5 ?_
   refine step_r rfl rfl trivial ?_
   refine step_g1 rfl h5 ?_
   refine step_r rfl rfl (by decide) ?_
   refine step_g1 rfl h5 ?_
   refine step_r rfl rfl trivial ?_
   refine step_g1 rfl h5 ?_
   refine step_bin rfl rfl rfl rfl rfl trivial ?_
   refine step_pickF rfl h5 rfl rfl ?_
   refine step_r rfl rfl trivial ?_
   refine step_gs rfl (fun h8 => ?_) (fun h8 => ?_)
   ·have g8 : ¬ ((a.Hit : Int) = b.Hit) := bne_t h8
    refine step_g0 rfl h8 rfl ?_
    refine step_g0 rfl h8 rfl ?_
    refine step_g0 rfl h8 rfl ?_
    refine step_g0 rfl h8 rfl ?_
    refine step_g0 rfl h8 rfl ?_
    refine step_pickT rfl h8 rfl rfl ?_
    refine step_r rfl rfl trivial ?_
    refine step_gf rfl rfl ?_
    refine step_gf rfl rfl ?_
    refine step_gf rfl rfl ?_
    refine step_gf rfl rfl ?_
    refine step_gf rfl rfl ?_
    refine step_r rfl rfl trivial ?_
    refine step_r rfl rfl trivial ?_
    refine step_gf rfl rfl ?_
    refine step_gf rfl rfl ?_
    refine step_gf rfl rfl ?_
    refine step_gf rfl rfl ?_
    refine step_gf rfl rfl ?_
    refine step_r rfl rfl trivial ?_
    refine step_r rfl rfl trivial ?_
    refine step_gf rfl rfl ?_
    refine step_gf rfl rfl ?_
    refine step_gf rfl rfl ?_
    refine step_gf rfl rfl ?_
    refine step_gf rfl rfl ?_
    refine step_gf rfl rfl ?_
    refine step_gf rfl rfl ?_
    refine step_r rfl rfl trivial ?_
    refine step_r rfl rfl trivial ?_
    refine step_gf rfl rfl ?_
    refine step_gf rfl rfl ?_
    refine step_gf rfl rfl ?_
    refine step_gf rfl rfl ?_
    refine step_gf rfl rfl ?_
    refine step_gf rfl rfl ?_
    refine step_gf rfl rfl ?_
    refine step_r rfl rfl trivial ?_
    refine step_nil ?_
    refine seqK_n ?_
    refine sem_condT rfl ?_
    refine sem_seq ?_
    refine sem_region rfl ?_
    refine step_r rfl rfl trivial ?_
    refine step_nil ?_
    refine seqK_n ?_
    refine sem_ret ?_
    refine seqK_r ?_
    have e9 : sameFR a b = false := by
     unfold sameFR
     try dsimp only
     rewrite [if_pos g2, if_pos g5, if_neg g8]
     all_goals rfl
    rw [e9]
    exact answersR rfl ⟨trivial, trivial⟩ (rfl) rfl
   ·have g8 : (a.Hit : Int) = b.Hit := bne_f h8
    refine step_g1 rfl h8 ?_
    refine step_r rfl rfl (by decide) ?_
    refine step_g1 rfl h8 ?_
    refine step_r rfl rfl trivial ?_
    refine step_g1 rfl h8 ?_
    refine step_r rfl rfl (by decide) ?_
    refine step_g1 rfl h8 ?_
    refine step_r rfl rfl trivial ?_
    refine step_g1 rfl h8 ?_
    refine step_bin rfl rfl rfl rfl rfl trivial ?_
    refine step_pickF rfl h8 rfl rfl ?_
    refine step_r rfl rfl trivial ?_
    refine step_gs rfl (fun h11 => ?_) (fun h11 => ?_)
    ·have g11 : ¬ ((a.Every : Int) = b.Every) := bne_t h11
     refine step_g0 rfl h11 rfl ?_
     refine step_g0 rfl h11 rfl ?_
     refine step_g0 rfl h11 rfl ?_
     refine step_g0 rfl h11 rfl ?_
     refine step_g0 rfl h11 rfl ?_
     refine step_pickT rfl h11 rfl rfl ?_
     refine step_r rfl rfl trivial ?_
     refine step_gf rfl rfl ?_
     refine step_gf rfl rfl ?_
     refine step_gf rfl rfl ?_
     refine step_gf rfl rfl ?_
     refine step_gf rfl rfl ?_
     refine step_r rfl rfl trivial ?_
     refine step_r rfl rfl trivial ?_
     refine step_gf rfl rfl ?_
     refine step_gf rfl rfl ?_
     refine step_gf rfl rfl ?_
     refine step_gf rfl rfl ?_
     refine step_gf rfl rfl ?_
     refine step_gf rfl rfl ?_
     refine step_gf rfl rfl ?_
     refine step_r rfl rfl trivial ?_
     refine step_r rfl rfl trivial ?_
     refine step_gf rfl rfl ?_
     refine step_gf rfl rfl ?_
     refine step_gf rfl rfl ?_
     refine step_gf rfl rfl ?_
     refine step_gf rfl rfl ?_
     refine step_gf rfl rfl ?_
     refine step_gf rfl rfl ?_
     refine step_r rfl rfl trivial ?_
     refine step_nil ?_
     refine seqK_n ?_
     refine sem_condT rfl ?_
     refine sem_seq ?_
     refine sem_region rfl ?_
     refine step_r rfl rfl trivial ?_
     refine step_nil ?_
     refine seqK_n ?_
     refine sem_ret ?_
     refine seqK_r ?_
     have e12 : sameFR a b = false := by
      unfold sameFR
      try dsimp only
      rewrite [if_pos g2, if_pos g5, if_pos g8, if_neg g11]
      all_goals rfl
     rw [e12]
     exact answersR rfl ⟨trivial, trivial⟩ (rfl) rfl
    ·have g11 : (a.Every : Int) = b.Every := bne_f h11
     refine step_g1 rfl h11 ?_
     refine step_r rfl rfl (by decide) ?_
     refine step_g1 rfl h11 ?_
     refine step_r rfl rfl trivial ?_
     refine step_g1 rfl h11 ?_
     refine step_r rfl rfl (by decide) ?_
     refine step_g1 rfl h11 ?_
     refine step_r rfl rfl trivial ?_
     refine step_g1 rfl h11 ?_
     refine step_bin rfl rfl rfl rfl rfl trivial ?_
     refine step_pickF rfl h11 rfl rfl ?_
     refine step_r rfl rfl trivial ?_
     refine step_gs rfl (fun h14 => ?_) (fun h14 => ?_)
     ·have g14 : ¬ ((a.Reach : Int) = b.Reach) := bne_t h14
      refine step_g0 rfl h14 rfl ?_
      refine step_g0 rfl h14 rfl ?_
      refine step_g0 rfl h14 rfl ?_
      refine step_g0 rfl h14 rfl ?_
      refine step_g0 rfl h14 rfl ?_
      refine step_pickT rfl h14 rfl rfl ?_
      refine step_r rfl rfl trivial ?_
      refine step_gf rfl rfl ?_
      refine step_gf rfl rfl ?_
      refine step_gf rfl rfl ?_
      refine step_gf rfl rfl ?_
      refine step_gf rfl rfl ?_
      refine step_gf rfl rfl ?_
      refine step_gf rfl rfl ?_
      refine step_r rfl rfl trivial ?_
      refine step_r rfl rfl trivial ?_
      refine step_gf rfl rfl ?_
      refine step_gf rfl rfl ?_
      refine step_gf rfl rfl ?_
      refine step_gf rfl rfl ?_
      refine step_gf rfl rfl ?_
      refine step_gf rfl rfl ?_
      refine step_gf rfl rfl ?_
      refine step_r rfl rfl trivial ?_
      refine step_nil ?_
      refine seqK_n ?_
      refine sem_condT rfl ?_
      refine sem_seq ?_
      refine sem_region rfl ?_
      refine step_r rfl rfl trivial ?_
      refine step_nil ?_
      refine seqK_n ?_
      refine sem_ret ?_
      refine seqK_r ?_
      have e15 : sameFR a b = false := by
       unfold sameFR
       try dsimp only
       rewrite [if_pos g2, if_pos g5, if_pos g8, if_pos g11, if_neg g14]
       all_goals rfl
      rw [e15]
      exact answersR rfl ⟨trivial, trivial⟩ (rfl) rfl
     ·have g14 : (a.Reach : Int) = b.Reach := bne_f h14
      refine step_g1 rfl h14 ?_
      refine step_r rfl rfl (by decide) ?_
      refine step_g1 rfl h14 ?_
      refine step_r rfl rfl trivial ?_
      refine step_g1 rfl h14 ?_
      refine step_r rfl rfl (by decide) ?_
      refine step_g1 rfl h14 ?_
      refine step_r rfl rfl trivial ?_
      refine step_g1 rfl h14 ?_
      refine step_bin rfl rfl rfl rfl rfl trivial ?_
      refine step_pickF rfl h14 rfl rfl ?_
      refine step_r rfl rfl trivial ?_
      refine step_gs rfl (fun h17 => ?_) (fun h17 => ?_)
      ·have g17 : ¬ ((a.Drops : Int) = b.Drops) := bne_t h17
       refine step_g0 rfl h17 rfl ?_
       refine step_g0 rfl h17 rfl ?_
       refine step_g0 rfl h17 rfl ?_
       refine step_g0 rfl h17 rfl ?_
       refine step_g0 rfl h17 rfl ?_
       refine step_g0 rfl h17 rfl ?_
       refine step_g0 rfl h17 rfl ?_
       refine step_pickT rfl h17 rfl rfl ?_
       refine step_r rfl rfl trivial ?_
       refine step_gf rfl rfl ?_
       refine step_gf rfl rfl ?_
       refine step_gf rfl rfl ?_
       refine step_gf rfl rfl ?_
       refine step_gf rfl rfl ?_
       refine step_gf rfl rfl ?_
       refine step_gf rfl rfl ?_
       refine step_r rfl rfl trivial ?_
       refine step_nil ?_
       refine seqK_n ?_
       refine sem_condT rfl ?_
       refine sem_seq ?_
       refine sem_region rfl ?_
       refine step_r rfl rfl trivial ?_
       refine step_nil ?_
       refine seqK_n ?_
       refine sem_ret ?_
       refine seqK_r ?_
       have e18 : sameFR a b = false := by
        unfold sameFR
        try dsimp only
        rewrite [if_pos g2, if_pos g5, if_pos g8, if_pos g11, if_pos g14, if_neg g17]
        all_goals rfl
       rw [e18]
       exact answersR rfl ⟨trivial, trivial⟩ (rfl) rfl
      ·have g17 : (a.Drops : Int) = b.Drops := bne_f h17
       refine step_g1 rfl h17 ?_
       refine step_r rfl rfl (by decide) ?_
       refine step_g1 rfl h17 ?_
       refine step_r rfl rfl trivial ?_
       refine step_g1 rfl h17 ?_
       refine step_r rfl rfl trivial ?_
       refine step_g1 rfl h17 ?_
       refine step_r rfl rfl (by decide) ?_
       refine step_g1 rfl h17 ?_
       refine step_r rfl rfl trivial ?_
       refine step_g1 rfl h17 ?_
       refine step_r rfl rfl trivial ?_
       refine step_g1 rfl h17 ?_
       refine step_bin rfl rfl rfl rfl rfl trivial ?_
       refine step_pickF rfl h17 rfl rfl ?_
       refine step_r rfl rfl trivial ?_
       refine step_gs rfl (fun h20 => ?_) (fun h20 => ?_)
       ·have g20 : ¬ ((a.Script.length : Int) = b.Script.length) := bne_t h20
        refine step_g0 rfl h20 rfl ?_
        refine step_g0 rfl h20 rfl ?_
        refine step_g0 rfl h20 rfl ?_
        refine step_g0 rfl h20 rfl ?_
        refine step_g0 rfl h20 rfl ?_
        refine step_g0 rfl h20 rfl ?_
        refine step_g0 rfl h20 rfl ?_
        refine step_pickT rfl h20 rfl rfl ?_
        refine step_nil ?_
        refine seqK_n ?_
        refine sem_condT rfl ?_
        refine sem_seq ?_
        refine sem_region rfl ?_
        refine step_r rfl rfl trivial ?_
        refine step_nil ?_
        refine seqK_n ?_
        refine sem_ret ?_
        refine seqK_r ?_
        have e21 : sameFR a b = false := by
         unfold sameFR
         try dsimp only
         rewrite [if_pos g2, if_pos g5, if_pos g8, if_pos g11, if_pos g14, if_pos g17, if_neg g20]
         all_goals rfl
        rw [e21]
        exact answersR rfl ⟨trivial, trivial⟩ (rfl) rfl
       ·have g20 : (a.Script.length : Int) = b.Script.length := bne_f h20
        refine step_g1 rfl h20 ?_
        refine step_r rfl rfl (by decide) ?_
        refine step_g1 rfl h20 ?_
        refine step_r rfl rfl trivial ?_
        refine step_g1 rfl h20 ?_
        refine step_r rfl rfl trivial ?_
        refine step_g1 rfl h20 ?_
        refine step_r rfl rfl (by decide) ?_
        refine step_g1 rfl h20 ?_
        refine step_r rfl rfl trivial ?_
        refine step_g1 rfl h20 ?_
        refine step_r rfl rfl trivial ?_
        refine step_g1 rfl h20 ?_
        refine step_bin rfl rfl rfl rfl rfl trivial ?_
        refine step_pickF rfl h20 rfl rfl ?_
        refine step_nil ?_
        refine seqK_n ?_
        refine sem_cond rfl (fun h23 => ?_) (fun h23 => ?_)
        ·have g23 : ¬ ((a.Hoard.length : Int) = b.Hoard.length) := bne_t h23
         refine sem_seq ?_
         refine sem_region rfl ?_
         refine step_r rfl rfl trivial ?_
         refine step_nil ?_
         refine seqK_n ?_
         refine sem_ret ?_
         refine seqK_r ?_
         have e24 : sameFR a b = false := by
          unfold sameFR
          try dsimp only
          rewrite [if_pos g2, if_pos g5, if_pos g8, if_pos g11, if_pos g14, if_pos g17, if_pos g20, if_neg g23]
          all_goals rfl
         rw [e24]
         exact answersR rfl ⟨trivial, trivial⟩ (rfl) rfl
        ·have g23 : (a.Hoard.length : Int) = b.Hoard.length := bne_f h23
         refine sem_skip ?_
         refine seqK_n ?_
         refine sem_seq ?_
         refine sem_seq ?_
         refine sem_region rfl ?_
         refine step_r rfl rfl trivial ?_
         refine step_nil ?_
         refine seqK_n ?_
         refine sem_cutW (fun w_ : Unit => match w_ with | () => (⟨[(2, .ptr 0 0), (3, .ptr 1 0)], [(0, .box [I a.Id, I a.Health, I a.Hit, I a.Every, I a.Reach, .pv (.slc a.Script.length false (a.Script.flatMap encGLine)), .pv (.slc a.Hoard.length false (a.Hoard.flatMap encGPrize)), I a.Drops]), (1, .box [I b.Id, I b.Health, I b.Hit, I b.Every, I b.Reach, .pv (.slc b.Script.length false (b.Script.flatMap encGLine)), .pv (.slc b.Hoard.length false (b.Hoard.flatMap encGPrize)), I b.Drops])], 2, [], 101, 0⟩ : St)) (fun w_ => sameFR_L0 a b (a.Script.length - 0) 0 = .inr w_) ?_ ?_
         ·refine sem_block ?_
          refine sem_loopT (fun k0 : Nat => (⟨[(2, .ptr 0 0), (3, .ptr 1 0), (5, I k0)], [(0, .box [I a.Id, I a.Health, I a.Hit, I a.Every, I a.Reach, .pv (.slc a.Script.length false (a.Script.flatMap encGLine)), .pv (.slc a.Hoard.length false (a.Hoard.flatMap encGPrize)), I a.Drops]), (1, .box [I b.Id, I b.Health, I b.Hit, I b.Every, I b.Reach, .pv (.slc b.Script.length false (b.Script.flatMap encGLine)), .pv (.slc b.Hoard.length false (b.Hoard.flatMap encGPrize)), I b.Drops])], 2, [], 101, 0⟩ : St)) (fun k0 : Nat => sameFR_L0 a b (a.Script.length - k0) k0 = sameFR_L0 a b (a.Script.length - 0) 0 ∧ k0 ≤ a.Script.length) (fun k0 : Nat => a.Script.length - k0) 0 (⟨rfl, (by first | omega | (simp; omega))⟩) ?_ (fun k0 hh_ => ?_)
          ·exact (Trans.ren [] (by decide +kernel) (by decide +kernel) rfl ⟨⟨rfl, rfl⟩, ⟨rfl, rfl⟩, ⟨rfl, rfl⟩, trivial⟩ ⟨⟨rfl, rfl, rfl⟩, ⟨rfl, rfl, rfl⟩, trivial⟩ (by decide))
          obtain ⟨hI0, hb0⟩ := hh_
          show Walks Try.prog _ _ (⟨[(2, .ptr 0 0), (3, .ptr 1 0), (5, I k0)], [(0, .box [I a.Id, I a.Health, I a.Hit, I a.Every, I a.Reach, .pv (.slc a.Script.length false (a.Script.flatMap encGLine)), .pv (.slc a.Hoard.length false (a.Hoard.flatMap encGPrize)), I a.Drops]), (1, .box [I b.Id, I b.Health, I b.Hit, I b.Every, I b.Reach, .pv (.slc b.Script.length false (b.Script.flatMap encGLine)), .pv (.slc b.Hoard.length false (b.Hoard.flatMap encGPrize)), I b.Drops])], 2, [], 101, 0⟩ : St)
          refine sem_seq ?_
          refine sem_seq ?_
          refine sem_region rfl ?_
          refine step_r rfl rfl trivial ?_
          refine step_r rfl rfl (by decide) ?_
          refine step_r rfl rfl trivial ?_
          refine step_r rfl rfl trivial ?_
          refine step_bin rfl rfl rfl rfl rfl trivial ?_
          refine step_nil ?_
          refine seqK_n ?_
          refine sem_cond rfl (fun h27 => ?_) (fun h27 => ?_)
          ·have g27 : (k0 : Int) < a.Script.length := of_decide_eq_true h27
           have hm0 : a.Script.length - k0 = (a.Script.length - (k0 + 1)) + 1 := by omega
           refine sem_skip ?_
           refine seqK_n ?_
           refine sem_seq ?_
           refine sem_block ?_
           refine sem_seq ?_
           refine sem_drawn rfl (by decide +kernel) rfl ?_
           refine step_r rfl rfl (by decide) ?_
           refine step_r rfl rfl trivial ?_
           refine step_r rfl rfl trivial ?_
           have jk28 : k0 < a.Script.length := by first | assumption | omega | (simp only [List.length_set, List.length_append]; omega) | (simp only [IntKind.wrap_i64] at *; omega) | (simp; omega) | simp_all
           refine step_idxS (k := k0) rfl rfl rfl rfl jk28 (flat_ne (s := 5) (enc := encGLine) (fun _ => rfl) (by decide) jk28) rfl ?_
           refine step_load_row rfl rfl rfl (flat_lt (s := 5) (enc := encGLine) (fun _ => rfl) jk28) (flat_take (s := 5) (enc := encGLine) (fun _ => rfl) (get_getD jk28)) rfl ?_
           refine step_r rfl rfl (by decide) ?_
           refine step_r rfl rfl trivial ?_
           refine step_r rfl rfl trivial ?_
           have jk29 : k0 < b.Script.length := by first | assumption | omega | (simp only [List.length_set, List.length_append]; omega) | (simp only [IntKind.wrap_i64] at *; omega) | (simp; omega) | simp_all
           refine step_idxS (k := k0) rfl rfl rfl rfl jk29 (flat_ne (s := 5) (enc := encGLine) (fun _ => rfl) (by decide) jk29) rfl ?_
           refine step_load_row rfl rfl rfl (flat_lt (s := 5) (enc := encGLine) (fun _ => rfl) jk29) (flat_take (s := 5) (enc := encGLine) (fun _ => rfl) (get_getD jk29)) rfl ?_
           refine step_neqA rfl rfl rfl (by kernel_rfl) rfl rfl rfl rfl rfl ?_
           refine step_nil ?_
           refine seqK_n ?_
           refine sem_cond rfl (fun h30 => ?_) (fun h30 => ?_)
           ·have g30 : ¬ (((((a.Script.getD k0 default).Phase) == ((b.Script.getD k0 default).Phase)) && ((((a.Script.getD k0 default).When) == ((b.Script.getD k0 default).When)) && ((((a.Script.getD k0 default).Arg) == ((b.Script.getD k0 default).Arg)) && ((((a.Script.getD k0 default).Do) == ((b.Script.getD k0 default).Do)) && ((((a.Script.getD k0 default).Value) == ((b.Script.getD k0 default).Value)) && true))))) = true) := boo_f (not_t h30)
            refine sem_seq ?_
            refine sem_region rfl ?_
            refine step_r rfl rfl trivial ?_
            refine step_nil ?_
            refine seqK_n ?_
            refine sem_ret ?_
            refine blkK_r ?_
            refine seqK_r ?_
            refine lupK_r ?_
            refine blkK_r ?_
            refine cutW_r ?_
            refine seqK_r ?_
            have e31 : sameFR_L0 a b (a.Script.length - 0) 0 = .inl false := by
             rewrite [← hI0, hm0]
             rewrite [sameFR_L0]
             try dsimp only
             rewrite [if_neg g30]
             all_goals rfl
            have e32 : sameFR a b = false := by
             unfold sameFR
             try dsimp only
             rewrite [if_pos g2, if_pos g5, if_pos g8, if_pos g11, if_pos g14, if_pos g17, if_pos g20, if_pos g23, e31]
             try dsimp only
             all_goals rfl
            rw [e32]
            exact answersR rfl ⟨trivial, trivial⟩ (rfl) rfl
           ·have g30 : ((((a.Script.getD k0 default).Phase) == ((b.Script.getD k0 default).Phase)) && ((((a.Script.getD k0 default).When) == ((b.Script.getD k0 default).When)) && ((((a.Script.getD k0 default).Arg) == ((b.Script.getD k0 default).Arg)) && ((((a.Script.getD k0 default).Do) == ((b.Script.getD k0 default).Do)) && ((((a.Script.getD k0 default).Value) == ((b.Script.getD k0 default).Value)) && true))))) = true := (not_f h30)
            refine sem_skip ?_
            refine blkK_n ?_
            refine seqK_n ?_
            refine sem_region rfl ?_
            refine step_r rfl rfl trivial ?_
            refine step_bin rfl rfl rfl rfl rfl trivial ?_
            refine step_r rfl rfl trivial ?_
            refine step_nil ?_
            have e34 : sameFR_L0 a b (a.Script.length - k0) k0 = sameFR_L0 a b (a.Script.length - (k0 + 1)) (k0 + 1) := by
             rewrite [hm0]
             rewrite [sameFR_L0]
             try dsimp only
             rewrite [if_pos g30]
             all_goals rfl
            exact lup_againT (k0 + 1) ⟨e34.symm.trans hI0, (by omega)⟩ (by show a.Script.length - (k0 + 1) < a.Script.length - k0; omega) (Trans.ren [] (by decide +kernel) (by decide +kernel) rfl ⟨⟨rfl, rfl⟩, ⟨rfl, rfl⟩, ⟨congrArg (fun n => some (I n)) (wrapI (k := k0) (by first | omega | (simp; omega))), rfl⟩, trivial⟩ ⟨⟨rfl, rfl, rfl⟩, ⟨rfl, rfl, rfl⟩, trivial⟩ (by decide))
          ·have g27 : ¬ ((k0 : Int) < a.Script.length) := of_decide_eq_false h27
           have hm0 : a.Script.length - k0 = 0 := by omega
           refine sem_exit ?_
           refine seqK_e ?_
           refine lupK_e ?_
           refine blkK_t rfl ?_
           have e35 : sameFR_L0 a b (a.Script.length - 0) 0 = .inr () := by
            rewrite [← hI0, hm0]
            rewrite [sameFR_L0]
            try dsimp only
            all_goals rfl
           exact cutW_n () e35 (Trans.ren [] (by decide +kernel) (by decide +kernel) rfl ⟨⟨rfl, rfl⟩, ⟨rfl, rfl⟩, trivial⟩ ⟨⟨rfl, rfl, rfl⟩, ⟨rfl, rfl, rfl⟩, trivial⟩ (by decide))
         ·rintro ⟨⟩ (hJ25 : sameFR_L0 a b (a.Script.length - 0) 0 = .inr ())
          show seqK _ _ _ .normal (⟨[(2, .ptr 0 0), (3, .ptr 1 0)], [(0, .box [I a.Id, I a.Health, I a.Hit, I a.Every, I a.Reach, .pv (.slc a.Script.length false (a.Script.flatMap encGLine)), .pv (.slc a.Hoard.length false (a.Hoard.flatMap encGPrize)), I a.Drops]), (1, .box [I b.Id, I b.Health, I b.Hit, I b.Every, I b.Reach, .pv (.slc b.Script.length false (b.Script.flatMap encGLine)), .pv (.slc b.Hoard.length false (b.Hoard.flatMap encGPrize)), I b.Drops])], 2, [], 101, 0⟩ : St)
          refine seqK_n ?_
          refine sem_seq ?_
          refine sem_seq ?_
          refine sem_region rfl ?_
          refine step_r rfl rfl trivial ?_
          refine step_nil ?_
          refine seqK_n ?_
          refine sem_cutW (fun w_ : Unit => match w_ with | () => (⟨[], [], 0, [], 101, 0⟩ : St)) (fun w_ => sameFR_L1 a b (a.Hoard.length - 0) 0 = .inr w_) ?_ ?_
          ·refine sem_block ?_
           refine sem_loopT (fun k1 : Nat => (⟨[(2, .ptr 0 0), (3, .ptr 1 0), (6, I k1)], [(0, .box [I a.Id, I a.Health, I a.Hit, I a.Every, I a.Reach, .pv (.slc a.Script.length false (a.Script.flatMap encGLine)), .pv (.slc a.Hoard.length false (a.Hoard.flatMap encGPrize)), I a.Drops]), (1, .box [I b.Id, I b.Health, I b.Hit, I b.Every, I b.Reach, .pv (.slc b.Script.length false (b.Script.flatMap encGLine)), .pv (.slc b.Hoard.length false (b.Hoard.flatMap encGPrize)), I b.Drops])], 2, [], 101, 0⟩ : St)) (fun k1 : Nat => sameFR_L1 a b (a.Hoard.length - k1) k1 = sameFR_L1 a b (a.Hoard.length - 0) 0 ∧ k1 ≤ a.Hoard.length) (fun k1 : Nat => a.Hoard.length - k1) 0 (⟨rfl, (by first | omega | (simp; omega))⟩) ?_ (fun k1 hh_ => ?_)
           ·exact (Trans.ren [] (by decide +kernel) (by decide +kernel) rfl ⟨⟨rfl, rfl⟩, ⟨rfl, rfl⟩, ⟨rfl, rfl⟩, trivial⟩ ⟨⟨rfl, rfl, rfl⟩, ⟨rfl, rfl, rfl⟩, trivial⟩ (by decide))
           obtain ⟨hI1, hb1⟩ := hh_
           show Walks Try.prog _ _ (⟨[(2, .ptr 0 0), (3, .ptr 1 0), (6, I k1)], [(0, .box [I a.Id, I a.Health, I a.Hit, I a.Every, I a.Reach, .pv (.slc a.Script.length false (a.Script.flatMap encGLine)), .pv (.slc a.Hoard.length false (a.Hoard.flatMap encGPrize)), I a.Drops]), (1, .box [I b.Id, I b.Health, I b.Hit, I b.Every, I b.Reach, .pv (.slc b.Script.length false (b.Script.flatMap encGLine)), .pv (.slc b.Hoard.length false (b.Hoard.flatMap encGPrize)), I b.Drops])], 2, [], 101, 0⟩ : St)
           refine sem_seq ?_
           refine sem_seq ?_
           refine sem_region rfl ?_
           refine step_r rfl rfl trivial ?_
           refine step_r rfl rfl (by decide) ?_
           refine step_r rfl rfl trivial ?_
           refine step_r rfl rfl trivial ?_
           refine step_bin rfl rfl rfl rfl rfl trivial ?_
           refine step_nil ?_
           refine seqK_n ?_
           refine sem_cond rfl (fun h38 => ?_) (fun h38 => ?_)
           ·have g38 : (k1 : Int) < a.Hoard.length := of_decide_eq_true h38
            have hm1 : a.Hoard.length - k1 = (a.Hoard.length - (k1 + 1)) + 1 := by omega
            refine sem_skip ?_
            refine seqK_n ?_
            refine sem_seq ?_
            refine sem_block ?_
            refine sem_seq ?_
            refine sem_drawn rfl (by decide +kernel) rfl ?_
            refine step_r rfl rfl (by decide) ?_
            refine step_r rfl rfl trivial ?_
            refine step_r rfl rfl trivial ?_
            have jk39 : k1 < a.Hoard.length := by first | assumption | omega | (simp only [List.length_set, List.length_append]; omega) | (simp only [IntKind.wrap_i64] at *; omega) | (simp; omega) | simp_all
            refine step_idxS (k := k1) rfl rfl rfl rfl jk39 (flat_ne (s := 2) (enc := encGPrize) (fun _ => rfl) (by decide) jk39) rfl ?_
            refine step_load_row rfl rfl rfl (flat_lt (s := 2) (enc := encGPrize) (fun _ => rfl) jk39) (flat_take (s := 2) (enc := encGPrize) (fun _ => rfl) (get_getD jk39)) rfl ?_
            refine step_r rfl rfl (by decide) ?_
            refine step_r rfl rfl trivial ?_
            refine step_r rfl rfl trivial ?_
            have jk40 : k1 < b.Hoard.length := by first | assumption | omega | (simp only [List.length_set, List.length_append]; omega) | (simp only [IntKind.wrap_i64] at *; omega) | (simp; omega) | simp_all
            refine step_idxS (k := k1) rfl rfl rfl rfl jk40 (flat_ne (s := 2) (enc := encGPrize) (fun _ => rfl) (by decide) jk40) rfl ?_
            refine step_load_row rfl rfl rfl (flat_lt (s := 2) (enc := encGPrize) (fun _ => rfl) jk40) (flat_take (s := 2) (enc := encGPrize) (fun _ => rfl) (get_getD jk40)) rfl ?_
            refine step_neqA rfl rfl rfl (by kernel_rfl) rfl rfl rfl rfl rfl ?_
            refine step_nil ?_
            refine seqK_n ?_
            refine sem_cond rfl (fun h41 => ?_) (fun h41 => ?_)
            ·have g41 : ¬ (((((a.Hoard.getD k1 default).Item) == ((b.Hoard.getD k1 default).Item)) && ((((a.Hoard.getD k1 default).Weight) == ((b.Hoard.getD k1 default).Weight)) && true)) = true) := boo_f (not_t h41)
             refine sem_seq ?_
             refine sem_region rfl ?_
             refine step_r rfl rfl trivial ?_
             refine step_nil ?_
             refine seqK_n ?_
             refine sem_ret ?_
             refine blkK_r ?_
             refine seqK_r ?_
             refine lupK_r ?_
             refine blkK_r ?_
             refine cutW_r ?_
             refine seqK_r ?_
             have e42 : sameFR_L1 a b (a.Hoard.length - 0) 0 = .inl false := by
              rewrite [← hI1, hm1]
              rewrite [sameFR_L1]
              try dsimp only
              rewrite [if_neg g41]
              all_goals rfl
             have e43 : sameFR a b = false := by
              unfold sameFR
              try dsimp only
              rewrite [if_pos g2, if_pos g5, if_pos g8, if_pos g11, if_pos g14, if_pos g17, if_pos g20, if_pos g23, hJ25]
              try dsimp only
              rewrite [e42]
              try dsimp only
              all_goals rfl
             rw [e43]
             exact answersR rfl ⟨trivial, trivial⟩ (rfl) rfl
            ·have g41 : ((((a.Hoard.getD k1 default).Item) == ((b.Hoard.getD k1 default).Item)) && ((((a.Hoard.getD k1 default).Weight) == ((b.Hoard.getD k1 default).Weight)) && true)) = true := (not_f h41)
             refine sem_skip ?_
             refine blkK_n ?_
             refine seqK_n ?_
             refine sem_region rfl ?_
             refine step_r rfl rfl trivial ?_
             refine step_bin rfl rfl rfl rfl rfl trivial ?_
             refine step_r rfl rfl trivial ?_
             refine step_nil ?_
             have e45 : sameFR_L1 a b (a.Hoard.length - k1) k1 = sameFR_L1 a b (a.Hoard.length - (k1 + 1)) (k1 + 1) := by
              rewrite [hm1]
              rewrite [sameFR_L1]
              try dsimp only
              rewrite [if_pos g41]
              all_goals rfl
             exact lup_againT (k1 + 1) ⟨e45.symm.trans hI1, (by omega)⟩ (by show a.Hoard.length - (k1 + 1) < a.Hoard.length - k1; omega) (Trans.ren [] (by decide +kernel) (by decide +kernel) rfl ⟨⟨rfl, rfl⟩, ⟨rfl, rfl⟩, ⟨congrArg (fun n => some (I n)) (wrapI (k := k1) (by first | omega | (simp; omega))), rfl⟩, trivial⟩ ⟨⟨rfl, rfl, rfl⟩, ⟨rfl, rfl, rfl⟩, trivial⟩ (by decide))
           ·have g38 : ¬ ((k1 : Int) < a.Hoard.length) := of_decide_eq_false h38
            have hm1 : a.Hoard.length - k1 = 0 := by omega
            refine sem_exit ?_
            refine seqK_e ?_
            refine lupK_e ?_
            refine blkK_t rfl ?_
            have e46 : sameFR_L1 a b (a.Hoard.length - 0) 0 = .inr () := by
             rewrite [← hI1, hm1]
             rewrite [sameFR_L1]
             try dsimp only
             all_goals rfl
            exact cutW_n () e46 (Trans.ren [] (by decide +kernel) (by decide +kernel) rfl trivial trivial (by decide))
          ·rintro ⟨⟩ (hJ36 : sameFR_L1 a b (a.Hoard.length - 0) 0 = .inr ())
           show seqK _ _ _ .normal (⟨[], [], 0, [], 101, 0⟩ : St)
           refine seqK_n ?_
           refine sem_seq ?_
           refine sem_region rfl ?_
           refine step_r rfl rfl trivial ?_
           refine step_nil ?_
           refine seqK_n ?_
           refine sem_ret ?_
           have e47 : sameFR a b = true := by
            unfold sameFR
            try dsimp only
            rewrite [if_pos g2, if_pos g5, if_pos g8, if_pos g11, if_pos g14, if_pos g17, if_pos g20, if_pos g23, hJ25]
            try dsimp only
            rewrite [hJ36]
            try dsimp only
            all_goals rfl
           rw [e47]
           exact answersR rfl ⟨trivial, trivial⟩ (rfl) rfl

def few9_L0 (c : GContent) : Nat → Nat → Sum Bool Unit
  | 0, k0 => .inr ()
  | n_ + 1, k0 => if ((c.Abilities.getD k0 default).Effects.length : Int) > 100 then .inl false else few9_L0 c n_ (k0 + 1)
def few9_L1 (c : GContent) : Nat → Nat → Sum Bool Unit
  | 0, k1 => .inr ()
  | n_ + 1, k1 => if ((c.Foes.getD k1 default).Script.length : Int) > 100 then .inl false else if ((c.Foes.getD k1 default).Hoard.length : Int) > 100 then .inl false else few9_L1 c n_ (k1 + 1)
def few9 (c : GContent) : Bool :=
  (match few9_L0 c ((min c.Abilities.length 100) - 0) 0 with
    | .inl r_ => r_
    | .inr () => (match few9_L1 c ((min c.Foes.length 100) - 0) 0 with
    | .inl r_ => r_
    | .inr () => if (c.Abilities.length : Int) ≤ 70 then (if (c.Auras.length : Int) ≤ 70 then (if (c.Foes.length : Int) ≤ 70 then (decide ((c.Map.Wall.length : Int) ≤ 1024)) else false) else false) else false))
theorem few9_ok (c : GContent) : Ok Try.prog 6 [aGContent c] [] (B (few9 c)) [] [] := by
 refine Ok.len fun hlen => ?_
 have hl_c_Abilities : c.Abilities.length ≤ maxLen := hlen _ (by simp [lensL, lens, lensP])
 have hl_c_Auras : c.Auras.length ≤ maxLen := hlen _ (by simp [lensL, lens, lensP])
 have hl_c_Foes : c.Foes.length ≤ maxLen := hlen _ (by simp [lensL, lens, lensP])
 have hl_c_Map_Wall : c.Map.Wall.length ≤ maxLen := hlen _ (by simp [lensL, lens, lensP])
 unfold maxLen at hl_c_Abilities hl_c_Auras hl_c_Foes hl_c_Map_Wall
 refine ok_of_sem Try.func6 rfl ?_
 show Walks Try.prog _ _ ⟨[(0, aGContent c)], [], 0, [], 76, 0⟩
 refine sem_seq ?_
 refine sem_region rfl ?_
 refine step_n (o := .box [_, _, _, _, _, _, _, _, _, _]) (nx' := 1) rfl rfl rfl trivial ?_
 refine step_r rfl rfl trivial ?_
 refine step_nil ?_
 refine seqK_n ?_
 refine sem_seq ?_
 refine sem_seq ?_
 refine sem_region rfl ?_
 refine step_r rfl rfl trivial ?_
 refine step_nil ?_
 refine seqK_n ?_
 refine sem_cutW (fun w_ : Unit => match w_ with | () => (⟨[(1, .ptr 0 0)], [(0, .box [.pv (.slc c.Abilities.length false (c.Abilities.flatMap encGAbility)), .pv (.slc c.Auras.length false (c.Auras.flatMap encGAura)), .pv (.slc c.Foes.length false (c.Foes.flatMap encGFoe)), I c.Map.W, I c.Map.H, .pv (.slc c.Map.Wall.length false (encB c.Map.Wall)), I c.Door.X, I c.Door.Y, I c.Lair.X, I c.Lair.Y])], 1, [], 76, 0⟩ : St)) (fun w_ => few9_L0 c ((min c.Abilities.length 100) - 0) 0 = .inr w_) ?_ ?_
 ·refine sem_block ?_
  refine sem_loopT (fun k0 : Nat => (⟨[(1, .ptr 0 0), (3, I k0)], [(0, .box [.pv (.slc c.Abilities.length false (c.Abilities.flatMap encGAbility)), .pv (.slc c.Auras.length false (c.Auras.flatMap encGAura)), .pv (.slc c.Foes.length false (c.Foes.flatMap encGFoe)), I c.Map.W, I c.Map.H, .pv (.slc c.Map.Wall.length false (encB c.Map.Wall)), I c.Door.X, I c.Door.Y, I c.Lair.X, I c.Lair.Y])], 1, [], 76, 0⟩ : St)) (fun k0 : Nat => few9_L0 c ((min c.Abilities.length 100) - k0) k0 = few9_L0 c ((min c.Abilities.length 100) - 0) 0 ∧ k0 ≤ min c.Abilities.length 100) (fun k0 : Nat => min c.Abilities.length 100 - k0) 0 (⟨rfl, (by first | omega | (simp; omega))⟩) ?_ (fun k0 hh_ => ?_)
  ·exact (Trans.ren [] (by decide +kernel) (by decide +kernel) rfl ⟨⟨rfl, rfl⟩, ⟨rfl, rfl⟩, trivial⟩ ⟨⟨rfl, rfl, rfl⟩, trivial⟩ (by decide))
  obtain ⟨hI0, hb0⟩ := hh_
  show Walks Try.prog _ _ (⟨[(1, .ptr 0 0), (3, I k0)], [(0, .box [.pv (.slc c.Abilities.length false (c.Abilities.flatMap encGAbility)), .pv (.slc c.Auras.length false (c.Auras.flatMap encGAura)), .pv (.slc c.Foes.length false (c.Foes.flatMap encGFoe)), I c.Map.W, I c.Map.H, .pv (.slc c.Map.Wall.length false (encB c.Map.Wall)), I c.Door.X, I c.Door.Y, I c.Lair.X, I c.Lair.Y])], 1, [], 76, 0⟩ : St)
  refine sem_seq ?_
  refine sem_seq ?_
  refine sem_region rfl ?_
  refine step_r rfl rfl trivial ?_
  refine step_r rfl rfl (by decide) ?_
  refine step_r rfl rfl trivial ?_
  refine step_r rfl rfl trivial ?_
  refine step_bin rfl rfl rfl rfl rfl trivial ?_
  refine step_r rfl rfl trivial ?_
  refine step_gs rfl (fun h4 => ?_) (fun h4 => ?_)
  ·have g4 : (k0 : Int) < c.Abilities.length := of_decide_eq_true h4
   refine step_g1 rfl h4 ?_
   refine step_r rfl rfl trivial ?_
   refine step_g1 rfl h4 ?_
   refine step_bin rfl rfl rfl rfl rfl trivial ?_
   refine step_pickT rfl h4 rfl rfl ?_
   refine step_nil ?_
   refine seqK_n ?_
   refine sem_cond rfl (fun h6 => ?_) (fun h6 => ?_)
   ·have g6 : (k0 : Int) < 100 := of_decide_eq_true h6
    have hm0 : min c.Abilities.length 100 - k0 = (min c.Abilities.length 100 - (k0 + 1)) + 1 := by omega
    refine sem_skip ?_
    refine seqK_n ?_
    refine sem_seq ?_
    refine sem_block ?_
    refine sem_seq ?_
    refine sem_region rfl ?_
    refine step_r rfl rfl (by decide) ?_
    refine step_r rfl rfl trivial ?_
    refine step_r rfl rfl trivial ?_
    have jk7 : k0 < c.Abilities.length := by first | assumption | omega | (simp only [List.length_set, List.length_append]; omega) | (simp only [IntKind.wrap_i64] at *; omega) | (simp; omega) | simp_all
    refine step_idxS (k := k0) rfl rfl rfl rfl jk7 (flat_ne (s := 8) (enc := encGAbility) (fun _ => rfl) (by decide) jk7) rfl ?_
    refine step_r rfl rfl (by decide) ?_
    refine step_load_one rfl rfl rfl (flat_get (s := 8) (enc := encGAbility) (fun _ => rfl) (get_getD jk7) (o := 7) rfl (by decide)) rfl ?_
    refine step_r rfl rfl trivial ?_
    refine step_bin rfl rfl rfl rfl rfl trivial ?_
    refine step_nil ?_
    refine seqK_n ?_
    refine sem_cond rfl (fun h8 => ?_) (fun h8 => ?_)
    ·have g8 : ((c.Abilities.getD k0 default).Effects.length : Int) > 100 := of_decide_eq_true h8
     refine sem_seq ?_
     refine sem_region rfl ?_
     refine step_r rfl rfl trivial ?_
     refine step_nil ?_
     refine seqK_n ?_
     refine sem_ret ?_
     refine blkK_r ?_
     refine seqK_r ?_
     refine lupK_r ?_
     refine blkK_r ?_
     refine cutW_r ?_
     refine seqK_r ?_
     have e9 : few9_L0 c ((min c.Abilities.length 100) - 0) 0 = .inl false := by
      rewrite [← hI0, hm0]
      rewrite [few9_L0]
      try dsimp only
      rewrite [if_pos g8]
      all_goals rfl
     have e10 : few9 c = false := by
      unfold few9
      try dsimp only
      rewrite [e9]
      try dsimp only
      all_goals rfl
     rw [e10]
     exact answersR rfl ⟨trivial, trivial⟩ (rfl) rfl
    ·have g8 : ¬ (((c.Abilities.getD k0 default).Effects.length : Int) > 100) := of_decide_eq_false h8
     refine sem_skip ?_
     refine blkK_n ?_
     refine seqK_n ?_
     refine sem_region rfl ?_
     refine step_r rfl rfl trivial ?_
     refine step_bin rfl rfl rfl rfl rfl trivial ?_
     refine step_r rfl rfl trivial ?_
     refine step_nil ?_
     have e12 : few9_L0 c ((min c.Abilities.length 100) - k0) k0 = few9_L0 c ((min c.Abilities.length 100) - (k0 + 1)) (k0 + 1) := by
      rewrite [hm0]
      rewrite [few9_L0]
      try dsimp only
      rewrite [if_neg g8]
      all_goals rfl
     exact lup_againT (k0 + 1) ⟨e12.symm.trans hI0, (by omega)⟩ (by show min c.Abilities.length 100 - (k0 + 1) < min c.Abilities.length 100 - k0; omega) (Trans.ren [] (by decide +kernel) (by decide +kernel) rfl ⟨⟨rfl, rfl⟩, ⟨congrArg (fun n => some (I n)) (wrapI (k := k0) (by first | omega | (simp; omega))), rfl⟩, trivial⟩ ⟨⟨rfl, rfl, rfl⟩, trivial⟩ (by decide))
   ·have g6 : ¬ ((k0 : Int) < 100) := of_decide_eq_false h6
    have hm0 : min c.Abilities.length 100 - k0 = 0 := by omega
    refine sem_exit ?_
    refine seqK_e ?_
    refine lupK_e ?_
    refine blkK_t rfl ?_
    have e13 : few9_L0 c ((min c.Abilities.length 100) - 0) 0 = .inr () := by
     rewrite [← hI0, hm0]
     rewrite [few9_L0]
     try dsimp only
     all_goals rfl
    exact cutW_n () e13 (Trans.ren [] (by decide +kernel) (by decide +kernel) rfl ⟨⟨rfl, rfl⟩, trivial⟩ ⟨⟨rfl, rfl, rfl⟩, trivial⟩ (by decide))
  ·have g4 : ¬ ((k0 : Int) < c.Abilities.length) := of_decide_eq_false h4
   refine step_g0 rfl h4 rfl ?_
   refine step_g0 rfl h4 rfl ?_
   refine step_pickF rfl h4 rfl rfl ?_
   refine step_nil ?_
   refine seqK_n ?_
   refine sem_condF rfl ?_
   have hm0 : min c.Abilities.length 100 - k0 = 0 := by omega
   refine sem_exit ?_
   refine seqK_e ?_
   refine lupK_e ?_
   refine blkK_t rfl ?_
   have e14 : few9_L0 c ((min c.Abilities.length 100) - 0) 0 = .inr () := by
    rewrite [← hI0, hm0]
    rewrite [few9_L0]
    try dsimp only
    all_goals rfl
   exact cutW_n () e14 (Trans.ren [] (by decide +kernel) (by decide +kernel) rfl ⟨⟨rfl, rfl⟩, trivial⟩ ⟨⟨rfl, rfl, rfl⟩, trivial⟩ (by decide))
 ·rintro ⟨⟩ (hJ1 : few9_L0 c ((min c.Abilities.length 100) - 0) 0 = .inr ())
  show seqK _ _ _ .normal (⟨[(1, .ptr 0 0)], [(0, .box [.pv (.slc c.Abilities.length false (c.Abilities.flatMap encGAbility)), .pv (.slc c.Auras.length false (c.Auras.flatMap encGAura)), .pv (.slc c.Foes.length false (c.Foes.flatMap encGFoe)), I c.Map.W, I c.Map.H, .pv (.slc c.Map.Wall.length false (encB c.Map.Wall)), I c.Door.X, I c.Door.Y, I c.Lair.X, I c.Lair.Y])], 1, [], 76, 0⟩ : St)
  refine seqK_n ?_
  refine sem_seq ?_
  refine sem_seq ?_
  refine sem_region rfl ?_
  refine step_r rfl rfl trivial ?_
  refine step_nil ?_
  refine seqK_n ?_
  refine sem_cutW (fun w_ : Unit => match w_ with | () => (⟨[(1, .ptr 0 0)], [(0, .box [.pv (.slc c.Abilities.length false (c.Abilities.flatMap encGAbility)), .pv (.slc c.Auras.length false (c.Auras.flatMap encGAura)), .pv (.slc c.Foes.length false (c.Foes.flatMap encGFoe)), I c.Map.W, I c.Map.H, .pv (.slc c.Map.Wall.length false (encB c.Map.Wall)), I c.Door.X, I c.Door.Y, I c.Lair.X, I c.Lair.Y])], 1, [], 76, 0⟩ : St)) (fun w_ => few9_L1 c ((min c.Foes.length 100) - 0) 0 = .inr w_) ?_ ?_
  ·refine sem_block ?_
   refine sem_loopT (fun k1 : Nat => (⟨[(1, .ptr 0 0), (4, I k1)], [(0, .box [.pv (.slc c.Abilities.length false (c.Abilities.flatMap encGAbility)), .pv (.slc c.Auras.length false (c.Auras.flatMap encGAura)), .pv (.slc c.Foes.length false (c.Foes.flatMap encGFoe)), I c.Map.W, I c.Map.H, .pv (.slc c.Map.Wall.length false (encB c.Map.Wall)), I c.Door.X, I c.Door.Y, I c.Lair.X, I c.Lair.Y])], 1, [], 76, 0⟩ : St)) (fun k1 : Nat => few9_L1 c ((min c.Foes.length 100) - k1) k1 = few9_L1 c ((min c.Foes.length 100) - 0) 0 ∧ k1 ≤ min c.Foes.length 100) (fun k1 : Nat => min c.Foes.length 100 - k1) 0 (⟨rfl, (by first | omega | (simp; omega))⟩) ?_ (fun k1 hh_ => ?_)
   ·exact (Trans.ren [] (by decide +kernel) (by decide +kernel) rfl ⟨⟨rfl, rfl⟩, ⟨rfl, rfl⟩, trivial⟩ ⟨⟨rfl, rfl, rfl⟩, trivial⟩ (by decide))
   obtain ⟨hI1, hb1⟩ := hh_
   show Walks Try.prog _ _ (⟨[(1, .ptr 0 0), (4, I k1)], [(0, .box [.pv (.slc c.Abilities.length false (c.Abilities.flatMap encGAbility)), .pv (.slc c.Auras.length false (c.Auras.flatMap encGAura)), .pv (.slc c.Foes.length false (c.Foes.flatMap encGFoe)), I c.Map.W, I c.Map.H, .pv (.slc c.Map.Wall.length false (encB c.Map.Wall)), I c.Door.X, I c.Door.Y, I c.Lair.X, I c.Lair.Y])], 1, [], 76, 0⟩ : St)
   refine sem_seq ?_
   refine sem_seq ?_
   refine sem_region rfl ?_
   refine step_r rfl rfl trivial ?_
   refine step_r rfl rfl (by decide) ?_
   refine step_r rfl rfl trivial ?_
   refine step_r rfl rfl trivial ?_
   refine step_bin rfl rfl rfl rfl rfl trivial ?_
   refine step_r rfl rfl trivial ?_
   refine step_gs rfl (fun h18 => ?_) (fun h18 => ?_)
   ·have g18 : (k1 : Int) < c.Foes.length := of_decide_eq_true h18
    refine step_g1 rfl h18 ?_
    refine step_r rfl rfl trivial ?_
    refine step_g1 rfl h18 ?_
    refine step_bin rfl rfl rfl rfl rfl trivial ?_
    refine step_pickT rfl h18 rfl rfl ?_
    refine step_nil ?_
    refine seqK_n ?_
    refine sem_cond rfl (fun h20 => ?_) (fun h20 => ?_)
    ·have g20 : (k1 : Int) < 100 := of_decide_eq_true h20
     have hm1 : min c.Foes.length 100 - k1 = (min c.Foes.length 100 - (k1 + 1)) + 1 := by omega
     refine sem_skip ?_
     refine seqK_n ?_
     refine sem_seq ?_
     refine sem_block ?_
     refine sem_seq ?_
     refine sem_region rfl ?_
     refine step_r rfl rfl (by decide) ?_
     refine step_r rfl rfl trivial ?_
     refine step_r rfl rfl trivial ?_
     have jk21 : k1 < c.Foes.length := by first | assumption | omega | (simp only [List.length_set, List.length_append]; omega) | (simp only [IntKind.wrap_i64] at *; omega) | (simp; omega) | simp_all
     refine step_idxS (k := k1) rfl rfl rfl rfl jk21 (flat_ne (s := 8) (enc := encGFoe) (fun _ => rfl) (by decide) jk21) rfl ?_
     refine step_r rfl rfl (by decide) ?_
     refine step_load_one rfl rfl rfl (flat_get (s := 8) (enc := encGFoe) (fun _ => rfl) (get_getD jk21) (o := 5) rfl (by decide)) rfl ?_
     refine step_r rfl rfl trivial ?_
     refine step_bin rfl rfl rfl rfl rfl trivial ?_
     refine step_r rfl rfl trivial ?_
     refine step_gs rfl (fun h23 => ?_) (fun h23 => ?_)
     ·have g23 : ((c.Foes.getD k1 default).Script.length : Int) > 100 := of_decide_eq_true h23
      refine step_g0 rfl h23 rfl ?_
      refine step_g0 rfl h23 rfl ?_
      refine step_g0 rfl h23 rfl ?_
      refine step_g0 rfl h23 rfl ?_
      refine step_g0 rfl h23 rfl ?_
      refine step_g0 rfl h23 rfl ?_
      refine step_g0 rfl h23 rfl ?_
      refine step_g0 rfl h23 rfl ?_
      refine step_pickT rfl h23 rfl rfl ?_
      refine step_nil ?_
      refine seqK_n ?_
      refine sem_condT rfl ?_
      refine sem_seq ?_
      refine sem_region rfl ?_
      refine step_r rfl rfl trivial ?_
      refine step_nil ?_
      refine seqK_n ?_
      refine sem_ret ?_
      refine blkK_r ?_
      refine seqK_r ?_
      refine lupK_r ?_
      refine blkK_r ?_
      refine cutW_r ?_
      refine seqK_r ?_
      have e24 : few9_L1 c ((min c.Foes.length 100) - 0) 0 = .inl false := by
       rewrite [← hI1, hm1]
       rewrite [few9_L1]
       try dsimp only
       rewrite [if_pos g23]
       all_goals rfl
      have e25 : few9 c = false := by
       unfold few9
       try dsimp only
       rewrite [hJ1]
       try dsimp only
       rewrite [e24]
       try dsimp only
       all_goals rfl
      rw [e25]
      exact answersR rfl ⟨trivial, trivial⟩ (rfl) rfl
     ·have g23 : ¬ (((c.Foes.getD k1 default).Script.length : Int) > 100) := of_decide_eq_false h23
      refine step_g1 rfl h23 ?_
      refine step_r rfl rfl (by decide) ?_
      refine step_g1 rfl h23 ?_
      refine step_r rfl rfl trivial ?_
      refine step_g1 rfl h23 ?_
      refine step_r rfl rfl trivial ?_
      refine step_g1 rfl h23 ?_
      refine step_idxS (k := k1) rfl rfl rfl rfl jk21 (flat_ne (s := 8) (enc := encGFoe) (fun _ => rfl) (by decide) jk21) rfl ?_
      refine step_g1 rfl h23 ?_
      refine step_r rfl rfl (by decide) ?_
      refine step_g1 rfl h23 ?_
      refine step_load_one rfl rfl rfl (flat_get (s := 8) (enc := encGFoe) (fun _ => rfl) (get_getD jk21) (o := 6) rfl (by decide)) rfl ?_
      refine step_g1 rfl h23 ?_
      refine step_r rfl rfl trivial ?_
      refine step_g1 rfl h23 ?_
      refine step_bin rfl rfl rfl rfl rfl trivial ?_
      refine step_pickF rfl h23 rfl rfl ?_
      refine step_nil ?_
      refine seqK_n ?_
      refine sem_cond rfl (fun h27 => ?_) (fun h27 => ?_)
      ·have g27 : ((c.Foes.getD k1 default).Hoard.length : Int) > 100 := of_decide_eq_true h27
       refine sem_seq ?_
       refine sem_region rfl ?_
       refine step_r rfl rfl trivial ?_
       refine step_nil ?_
       refine seqK_n ?_
       refine sem_ret ?_
       refine blkK_r ?_
       refine seqK_r ?_
       refine lupK_r ?_
       refine blkK_r ?_
       refine cutW_r ?_
       refine seqK_r ?_
       have e28 : few9_L1 c ((min c.Foes.length 100) - 0) 0 = .inl false := by
        rewrite [← hI1, hm1]
        rewrite [few9_L1]
        try dsimp only
        rewrite [if_neg g23, if_pos g27]
        all_goals rfl
       have e29 : few9 c = false := by
        unfold few9
        try dsimp only
        rewrite [hJ1]
        try dsimp only
        rewrite [e28]
        try dsimp only
        all_goals rfl
       rw [e29]
       exact answersR rfl ⟨trivial, trivial⟩ (rfl) rfl
      ·have g27 : ¬ (((c.Foes.getD k1 default).Hoard.length : Int) > 100) := of_decide_eq_false h27
       refine sem_skip ?_
       refine blkK_n ?_
       refine seqK_n ?_
       refine sem_region rfl ?_
       refine step_r rfl rfl trivial ?_
       refine step_bin rfl rfl rfl rfl rfl trivial ?_
       refine step_r rfl rfl trivial ?_
       refine step_nil ?_
       have e31 : few9_L1 c ((min c.Foes.length 100) - k1) k1 = few9_L1 c ((min c.Foes.length 100) - (k1 + 1)) (k1 + 1) := by
        rewrite [hm1]
        rewrite [few9_L1]
        try dsimp only
        rewrite [if_neg g23, if_neg g27]
        all_goals rfl
       exact lup_againT (k1 + 1) ⟨e31.symm.trans hI1, (by omega)⟩ (by show min c.Foes.length 100 - (k1 + 1) < min c.Foes.length 100 - k1; omega) (Trans.ren [] (by decide +kernel) (by decide +kernel) rfl ⟨⟨rfl, rfl⟩, ⟨congrArg (fun n => some (I n)) (wrapI (k := k1) (by first | omega | (simp; omega))), rfl⟩, trivial⟩ ⟨⟨rfl, rfl, rfl⟩, trivial⟩ (by decide))
    ·have g20 : ¬ ((k1 : Int) < 100) := of_decide_eq_false h20
     have hm1 : min c.Foes.length 100 - k1 = 0 := by omega
     refine sem_exit ?_
     refine seqK_e ?_
     refine lupK_e ?_
     refine blkK_t rfl ?_
     have e32 : few9_L1 c ((min c.Foes.length 100) - 0) 0 = .inr () := by
      rewrite [← hI1, hm1]
      rewrite [few9_L1]
      try dsimp only
      all_goals rfl
     exact cutW_n () e32 (Trans.ren [] (by decide +kernel) (by decide +kernel) rfl ⟨⟨rfl, rfl⟩, trivial⟩ ⟨⟨rfl, rfl, rfl⟩, trivial⟩ (by decide))
   ·have g18 : ¬ ((k1 : Int) < c.Foes.length) := of_decide_eq_false h18
    refine step_g0 rfl h18 rfl ?_
    refine step_g0 rfl h18 rfl ?_
    refine step_pickF rfl h18 rfl rfl ?_
    refine step_nil ?_
    refine seqK_n ?_
    refine sem_condF rfl ?_
    have hm1 : min c.Foes.length 100 - k1 = 0 := by omega
    refine sem_exit ?_
    refine seqK_e ?_
    refine lupK_e ?_
    refine blkK_t rfl ?_
    have e33 : few9_L1 c ((min c.Foes.length 100) - 0) 0 = .inr () := by
     rewrite [← hI1, hm1]
     rewrite [few9_L1]
     try dsimp only
     all_goals rfl
    exact cutW_n () e33 (Trans.ren [] (by decide +kernel) (by decide +kernel) rfl ⟨⟨rfl, rfl⟩, trivial⟩ ⟨⟨rfl, rfl, rfl⟩, trivial⟩ (by decide))
  ·rintro ⟨⟩ (hJ15 : few9_L1 c ((min c.Foes.length 100) - 0) 0 = .inr ())
   show seqK _ _ _ .normal (⟨[(1, .ptr 0 0)], [(0, .box [.pv (.slc c.Abilities.length false (c.Abilities.flatMap encGAbility)), .pv (.slc c.Auras.length false (c.Auras.flatMap encGAura)), .pv (.slc c.Foes.length false (c.Foes.flatMap encGFoe)), I c.Map.W, I c.Map.H, .pv (.slc c.Map.Wall.length false (encB c.Map.Wall)), I c.Door.X, I c.Door.Y, I c.Lair.X, I c.Lair.Y])], 1, [], 76, 0⟩ : St)
   refine seqK_n ?_
   refine sem_seq ?_
   refine sem_region rfl ?_
   refine step_r rfl rfl (by decide) ?_
   refine step_r rfl rfl trivial ?_
   refine step_r rfl rfl trivial ?_
   refine step_bin rfl rfl rfl rfl rfl trivial ?_
   refine step_r rfl rfl trivial ?_
   refine step_gs rfl (fun h35 => ?_) (fun h35 => ?_)
   ·have g35 : (c.Abilities.length : Int) ≤ 70 := of_decide_eq_true h35
    refine step_g1 rfl h35 ?_
    refine step_r rfl rfl (by decide) ?_
    refine step_g1 rfl h35 ?_
    refine step_r rfl rfl trivial ?_
    refine step_g1 rfl h35 ?_
    refine step_r rfl rfl trivial ?_
    refine step_g1 rfl h35 ?_
    refine step_bin rfl rfl rfl rfl rfl trivial ?_
    refine step_pickT rfl h35 rfl rfl ?_
    refine step_r rfl rfl trivial ?_
    refine step_gs rfl (fun h37 => ?_) (fun h37 => ?_)
    ·have g37 : (c.Auras.length : Int) ≤ 70 := of_decide_eq_true h37
     refine step_g1 rfl h37 ?_
     refine step_r rfl rfl (by decide) ?_
     refine step_g1 rfl h37 ?_
     refine step_r rfl rfl trivial ?_
     refine step_g1 rfl h37 ?_
     refine step_r rfl rfl trivial ?_
     refine step_g1 rfl h37 ?_
     refine step_bin rfl rfl rfl rfl rfl trivial ?_
     refine step_pickT rfl h37 rfl rfl ?_
     refine step_r rfl rfl trivial ?_
     refine step_gs rfl (fun h39 => ?_) (fun h39 => ?_)
     ·have g39 : (c.Foes.length : Int) ≤ 70 := of_decide_eq_true h39
      refine step_g1 rfl h39 ?_
      refine step_r rfl rfl (by decide) ?_
      refine step_g1 rfl h39 ?_
      refine step_r rfl rfl (by decide) ?_
      refine step_g1 rfl h39 ?_
      refine step_r rfl rfl trivial ?_
      refine step_g1 rfl h39 ?_
      refine step_r rfl rfl trivial ?_
      refine step_g1 rfl h39 ?_
      refine step_bin rfl rfl rfl rfl rfl trivial ?_
      refine step_pickT rfl h39 rfl rfl ?_
      refine step_r rfl rfl trivial ?_
      refine step_nil ?_
      refine seqK_n ?_
      refine sem_ret ?_
      have e41 : few9 c = (decide ((c.Map.Wall.length : Int) ≤ 1024)) := by
       unfold few9
       try dsimp only
       rewrite [hJ1]
       try dsimp only
       rewrite [hJ15]
       try dsimp only
       rewrite [if_pos g35, if_pos g37, if_pos g39]
       all_goals rfl
      rw [e41]
      exact answersR rfl ⟨trivial, trivial⟩ (rfl) rfl
     ·have g39 : ¬ ((c.Foes.length : Int) ≤ 70) := of_decide_eq_false h39
      refine step_g0 rfl h39 rfl ?_
      refine step_g0 rfl h39 rfl ?_
      refine step_g0 rfl h39 rfl ?_
      refine step_g0 rfl h39 rfl ?_
      refine step_g0 rfl h39 rfl ?_
      refine step_pickF rfl h39 rfl rfl ?_
      refine step_r rfl rfl trivial ?_
      refine step_nil ?_
      refine seqK_n ?_
      refine sem_ret ?_
      have e42 : few9 c = false := by
       unfold few9
       try dsimp only
       rewrite [hJ1]
       try dsimp only
       rewrite [hJ15]
       try dsimp only
       rewrite [if_pos g35, if_pos g37, if_neg g39]
       all_goals rfl
      rw [e42]
      exact answersR rfl ⟨trivial, trivial⟩ (rfl) rfl
    ·have g37 : ¬ ((c.Auras.length : Int) ≤ 70) := of_decide_eq_false h37
     refine step_g0 rfl h37 rfl ?_
     refine step_g0 rfl h37 rfl ?_
     refine step_g0 rfl h37 rfl ?_
     refine step_g0 rfl h37 rfl ?_
     refine step_pickF rfl h37 rfl rfl ?_
     refine step_r rfl rfl trivial ?_
     refine step_gf rfl rfl ?_
     refine step_gf rfl rfl ?_
     refine step_gf rfl rfl ?_
     refine step_gf rfl rfl ?_
     refine step_gf rfl rfl ?_
     refine step_r rfl rfl trivial ?_
     refine step_r rfl rfl trivial ?_
     refine step_nil ?_
     refine seqK_n ?_
     refine sem_ret ?_
     have e43 : few9 c = false := by
      unfold few9
      try dsimp only
      rewrite [hJ1]
      try dsimp only
      rewrite [hJ15]
      try dsimp only
      rewrite [if_pos g35, if_neg g37]
      all_goals rfl
     rw [e43]
     exact answersR rfl ⟨trivial, trivial⟩ (rfl) rfl
   ·have g35 : ¬ ((c.Abilities.length : Int) ≤ 70) := of_decide_eq_false h35
    refine step_g0 rfl h35 rfl ?_
    refine step_g0 rfl h35 rfl ?_
    refine step_g0 rfl h35 rfl ?_
    refine step_g0 rfl h35 rfl ?_
    refine step_pickF rfl h35 rfl rfl ?_
    refine step_r rfl rfl trivial ?_
    refine step_gf rfl rfl ?_
    refine step_gf rfl rfl ?_
    refine step_gf rfl rfl ?_
    refine step_gf rfl rfl ?_
    refine step_r rfl rfl trivial ?_
    refine step_r rfl rfl trivial ?_
    refine step_gf rfl rfl ?_
    refine step_gf rfl rfl ?_
    refine step_gf rfl rfl ?_
    refine step_gf rfl rfl ?_
    refine step_gf rfl rfl ?_
    refine step_r rfl rfl trivial ?_
    refine step_r rfl rfl trivial ?_
    refine step_nil ?_
    refine seqK_n ?_
    refine sem_ret ?_
    have e44 : few9 c = false := by
     unfold few9
     try dsimp only
     rewrite [hJ1]
     try dsimp only
     rewrite [hJ15]
     try dsimp only
     rewrite [if_neg g35]
     all_goals rfl
    rw [e44]
    exact answersR rfl ⟨trivial, trivial⟩ (rfl) rfl

def bare9 : GContent :=
  (⟨[], [], [], (⟨1, 1, [false]⟩ : GGrid), (⟨0, 0⟩ : GPos), (⟨0, 0⟩ : GPos)⟩ : GContent)
theorem bare9_ok  : Ok Try.prog 23 [] [] (aGContent (bare9)) [] [] := by
 refine ok_of_sem Try.func23 rfl ?_
 show Walks Try.prog _ _ ⟨[], [], 0, [], 4, 0⟩
 refine sem_seq ?_
 refine sem_region rfl ?_
 refine step_n (o := .box [_, _, _, _, _, _, _, _, _, _]) (nx' := 1) rfl rfl rfl trivial ?_
 refine step_nil ?_
 refine seqK_n ?_
 refine sem_seq ?_
 refine sem_region rfl ?_
 refine step_n (o := .row _ _ [_]) (nx' := 2) rfl rfl rfl (by decide) ?_
 refine step_r (v := (.agg [_, _, _])) rfl rfl trivial ?_
 refine step_r (v := (.agg [_, _, _, _, _, _, _, _, _, _])) rfl rfl trivial ?_
 refine step_store (H' := [(1, .row _ _ _), (0, .box [_, _, _, _, _, _, _, _, _, _])]) rfl rfl rfl rfl rfl rfl (Nat.le_of_ble_eq_true rfl) (.inl rfl) rfl ?_
 refine step_nil ?_
 refine seqK_n ?_
 refine sem_trans (Trans.freezeJ (T' := [(0, .ptr 0 0)]) (H' := [(0, .box [.pv (.slc 0 false []), .pv (.slc 0 false []), .pv (.slc 0 false []), I 1, I 1, .pv (.slc ([false]).length false (encB [false])), I 0, I 0, I 0, I 0])]) [1] (by decide) ⟨⟨_, _, rfl, rfl, (by (repeat' apply And.intro) <;> first | trivial | rfl | exact flat_len (fun _ => rfl) _ | exact encI_len _ | exact encB_len _ | exact encY_len _ | exact Nat.le_of_ble_eq_true rfl | assumption)⟩, trivial⟩ ⟨⟨rfl, _, _, rfl, rfl, (by (repeat' apply And.intro) <;> first | trivial | rfl | exact flat_len (fun _ => rfl) _ | exact encI_len _ | exact encB_len _ | exact encY_len _ | exact Nat.le_of_ble_eq_true rfl | assumption)⟩, trivial⟩) ?_
 refine sem_trans (Trans.loose (T' := [(0, .ptr 0 0)]) (H' := [(0, .box [.pv (.slc 0 false []), .pv (.slc 0 false []), .pv (.slc 0 false []), I 1, I 1, .pv (.slc ([false]).length false (encB [false])), I 0, I 0, I 0, I 0])]) ⟨⟨_, rfl, .inl rfl⟩, trivial⟩ ⟨⟨_, rfl, .inr rfl⟩, trivial⟩) ?_
 refine sem_ret ?_
 have e1 : bare9 = (⟨[], [], [], (⟨1, 1, [false]⟩ : GGrid), (⟨0, 0⟩ : GPos), (⟨0, 0⟩ : GPos)⟩ : GContent) := by
  unfold bare9
  try dsimp only
  all_goals rfl
 rw [e1]
 exact answersR rfl ⟨Nat.le_of_ble_eq_true rfl, trivial⟩ (rfl) rfl

def small09 : Bool :=
  if right9 (bare9) = true then (if (check9 (⟨[(⟨1, 0, 0, 0, 0, 0, false, [(⟨1, 0, 0⟩ : GEffect)]⟩ : GAbility)], (bare9).Auras, (bare9).Foes, (bare9).Map, (bare9).Door, (bare9).Lair⟩ : GContent)).2 = true then false else if (((((check9 (⟨[(⟨1, 0, 0, 0, 0, 0, false, [(⟨1, 0, 0⟩ : GEffect)]⟩ : GAbility)], (bare9).Auras, (bare9).Foes, (bare9).Map, (bare9).Door, (bare9).Lair⟩ : GContent)).1).Part) == 1) && (((((check9 (⟨[(⟨1, 0, 0, 0, 0, 0, false, [(⟨1, 0, 0⟩ : GEffect)]⟩ : GAbility)], (bare9).Auras, (bare9).Foes, (bare9).Map, (bare9).Door, (bare9).Lair⟩ : GContent)).1).At) == 0) && true)) = true then (if right9 (⟨([(⟨1, 0, 0, 0, 0, 0, false, [(⟨1, 0, 0⟩ : GEffect)]⟩ : GAbility)].set 0 { (([(⟨1, 0, 0, 0, 0, 0, false, [(⟨1, 0, 0⟩ : GEffect)]⟩ : GAbility)]).getD 0 default) with Charges := 1 }), (bare9).Auras, (bare9).Foes, (bare9).Map, (bare9).Door, (bare9).Lair⟩ : GContent) = true then (if (getA (⟨([(⟨1, 0, 0, 0, 0, 0, false, [(⟨1, 0, 0⟩ : GEffect)]⟩ : GAbility)].set 0 { (([(⟨1, 0, 0, 0, 0, 0, false, [(⟨1, 0, 0⟩ : GEffect)]⟩ : GAbility)]).getD 0 default) with Charges := 1 }), (bare9).Auras, (bare9).Foes, (bare9).Map, (bare9).Door, (bare9).Lair⟩ : GContent) 1).2 = true then (if (((getA (⟨([(⟨1, 0, 0, 0, 0, 0, false, [(⟨1, 0, 0⟩ : GEffect)]⟩ : GAbility)].set 0 { (([(⟨1, 0, 0, 0, 0, 0, false, [(⟨1, 0, 0⟩ : GEffect)]⟩ : GAbility)]).getD 0 default) with Charges := 1 }), (bare9).Auras, (bare9).Foes, (bare9).Map, (bare9).Door, (bare9).Lair⟩ : GContent) 1).1).Effects.length : Int) = 1 then (same9 (⟨([(⟨1, 0, 0, 0, 0, 0, false, [(⟨1, 0, 0⟩ : GEffect)]⟩ : GAbility)].set 0 { (([(⟨1, 0, 0, 0, 0, 0, false, [(⟨1, 0, 0⟩ : GEffect)]⟩ : GAbility)]).getD 0 default) with Charges := 1 }), (bare9).Auras, (bare9).Foes, (bare9).Map, (bare9).Door, (bare9).Lair⟩ : GContent) (copy9 (⟨([(⟨1, 0, 0, 0, 0, 0, false, [(⟨1, 0, 0⟩ : GEffect)]⟩ : GAbility)].set 0 { (([(⟨1, 0, 0, 0, 0, 0, false, [(⟨1, 0, 0⟩ : GEffect)]⟩ : GAbility)]).getD 0 default) with Charges := 1 }), (bare9).Auras, (bare9).Foes, (bare9).Map, (bare9).Door, (bare9).Lair⟩ : GContent))) else false) else false) else false) else false) else false
theorem small09_ok  : Ok Try.prog 5 [] [] (B (small09)) [] [] := by
 refine ok_of_sem Try.func5 rfl ?_
 show Walks Try.prog _ _ ⟨[], [], 0, [], 58, 0⟩
 refine sem_seq ?_
 refine sem_region rfl ?_
 refine step_r rfl rfl trivial ?_
 refine step_nil ?_
 refine seqK_n ?_
 refine sem_seq ?_
 refine sem_region rfl ?_
 refine step_call rfl rfl rfl rfl (bare9_ok ) rfl rfl rfl ?_
 refine step_n (o := .box [_, _, _, _, _, _, _, _, _, _]) (nx' := 1) rfl rfl rfl trivial ?_
 refine step_store (H' := [(0, .box [_, _, _, _, _, _, _, _, _, _])]) rfl rfl rfl rfl rfl rfl (Nat.le_of_ble_eq_true rfl) (.inl rfl) rfl ?_
 refine step_nil ?_
 refine seqK_n ?_
 refine sem_seq ?_
 refine sem_region rfl ?_
 refine step_r (v := (.agg [_, _, _, _, _, _, _, _, _, _])) rfl rfl (Nat.le_of_ble_eq_true rfl) ?_
 refine step_call rfl rfl rfl rfl (right9_ok (bare9) (by first | assumption | exact few_small (by decide +kernel) | exact few_cut (by assumption) | grind)) rfl rfl rfl ?_
 refine step_r rfl rfl trivial ?_
 refine step_nil ?_
 refine seqK_n ?_
 refine sem_seq ?_
 refine sem_regionS rfl (opsS_cut 2 (j := 0) ?_)
 simp only [List.take_succ_cons, List.take_zero, List.drop_succ_cons, List.drop_zero]
 refine step_r (v := (.agg [_, _, _])) rfl rfl trivial ?_
 refine step_n (o := .row _ _ [_, _, _]) (nx' := 2) rfl rfl rfl (by decide) ?_
 refine step_nil ?_
 refine opsS_trans (Trans.freezeJ (T' := [(0, B false), (1, .ptr 0 0), (2, B (right9 (bare9))), (7, .agg [.pv (.slc (bare9).Abilities.length false ((bare9).Abilities.flatMap encGAbility)), .pv (.slc (bare9).Auras.length false ((bare9).Auras.flatMap encGAura)), .pv (.slc (bare9).Foes.length false ((bare9).Foes.flatMap encGFoe)), I (bare9).Map.W, I (bare9).Map.H, .pv (.slc (bare9).Map.Wall.length false (encB (bare9).Map.Wall)), I (bare9).Door.X, I (bare9).Door.Y, I (bare9).Lair.X, I (bare9).Lair.Y]), (8, .agg [.pv (.slc (bare9).Abilities.length false ((bare9).Abilities.flatMap encGAbility)), .pv (.slc (bare9).Auras.length false ((bare9).Auras.flatMap encGAura)), .pv (.slc (bare9).Foes.length false ((bare9).Foes.flatMap encGFoe)), I (bare9).Map.W, I (bare9).Map.H, .pv (.slc (bare9).Map.Wall.length false (encB (bare9).Map.Wall)), I (bare9).Door.X, I (bare9).Door.Y, I (bare9).Lair.X, I (bare9).Lair.Y]), (9, B (right9 (bare9))), (10, .agg [I 1, I 0, I 0]), (11, .pv (.slc ([(⟨1, 0, 0⟩ : GEffect)]).length false ([(⟨1, 0, 0⟩ : GEffect)].flatMap encGEffect)))]) (H' := [(0, .box [.pv (.slc (bare9).Abilities.length false ((bare9).Abilities.flatMap encGAbility)), .pv (.slc (bare9).Auras.length false ((bare9).Auras.flatMap encGAura)), .pv (.slc (bare9).Foes.length false ((bare9).Foes.flatMap encGFoe)), I (bare9).Map.W, I (bare9).Map.H, .pv (.slc (bare9).Map.Wall.length false (encB (bare9).Map.Wall)), I (bare9).Door.X, I (bare9).Door.Y, I (bare9).Lair.X, I (bare9).Lair.Y])]) [1] (by decide) ⟨⟨_, _, rfl, rfl, (by (repeat' apply And.intro) <;> first | trivial | rfl | exact flat_len (fun _ => rfl) _ | exact encI_len _ | exact encB_len _ | exact encY_len _ | exact Nat.le_of_ble_eq_true rfl | assumption)⟩, ⟨_, _, rfl, rfl, (by (repeat' apply And.intro) <;> first | trivial | rfl | exact flat_len (fun _ => rfl) _ | exact encI_len _ | exact encB_len _ | exact encY_len _ | exact Nat.le_of_ble_eq_true rfl | assumption)⟩, ⟨_, _, rfl, rfl, (by (repeat' apply And.intro) <;> first | trivial | rfl | exact flat_len (fun _ => rfl) _ | exact encI_len _ | exact encB_len _ | exact encY_len _ | exact Nat.le_of_ble_eq_true rfl | assumption)⟩, ⟨_, _, rfl, rfl, (by (repeat' apply And.intro) <;> first | trivial | rfl | exact flat_len (fun _ => rfl) _ | exact encI_len _ | exact encB_len _ | exact encY_len _ | exact Nat.le_of_ble_eq_true rfl | assumption)⟩, ⟨_, _, rfl, rfl, (by (repeat' apply And.intro) <;> first | trivial | rfl | exact flat_len (fun _ => rfl) _ | exact encI_len _ | exact encB_len _ | exact encY_len _ | exact Nat.le_of_ble_eq_true rfl | assumption)⟩, ⟨_, _, rfl, rfl, (by (repeat' apply And.intro) <;> first | trivial | rfl | exact flat_len (fun _ => rfl) _ | exact encI_len _ | exact encB_len _ | exact encY_len _ | exact Nat.le_of_ble_eq_true rfl | assumption)⟩, ⟨_, _, rfl, rfl, (by (repeat' apply And.intro) <;> first | trivial | rfl | exact flat_len (fun _ => rfl) _ | exact encI_len _ | exact encB_len _ | exact encY_len _ | exact Nat.le_of_ble_eq_true rfl | assumption)⟩, ⟨_, _, rfl, rfl, (by (repeat' apply And.intro) <;> first | trivial | rfl | exact flat_len (fun _ => rfl) _ | exact encI_len _ | exact encB_len _ | exact encY_len _ | exact Nat.le_of_ble_eq_true rfl | assumption)⟩, trivial⟩ ⟨⟨rfl, _, _, rfl, rfl, (by (repeat' apply And.intro) <;> first | trivial | rfl | exact flat_len (fun _ => rfl) _ | exact encI_len _ | exact encB_len _ | exact encY_len _ | exact Nat.le_of_ble_eq_true rfl | assumption)⟩, trivial⟩) ?_
 refine opsS_of (j := 2) ?_
 refine step_r (v := (.agg [_, _, _, _, _, _, _, _])) rfl rfl trivial ?_
 refine step_n (o := .row _ _ [_, _, _, _, _, _, _, _]) (nx' := 3) rfl rfl rfl (by decide) ?_
 refine step_r rfl rfl (by decide) ?_
 refine step_store (H' := [(2, .row _ _ _), (0, .box [_, _, _, _, _, _, _, _, _, _])]) rfl rfl rfl rfl rfl rfl (Nat.le_of_ble_eq_true rfl) (.inl rfl) rfl ?_
 refine step_nil ?_
 refine seqK_n ?_
 refine sem_seq ?_
 refine sem_region rfl ?_
 refine step_r (v := (.agg [_, _, _, _, _, _, _, _, _, _])) rfl rfl (Nat.le_of_ble_eq_true rfl) ?_
 refine step_callJ (Hin := [.row _ _ _]) (out' := .tup [(.agg [_, _]), _]) (H' := [(2, .row _ _ _), (0, .box [_, _, _, _, _, _, _, _, _, _])]) (nx' := 3) [2] rfl rfl rfl rfl rfl rfl rfl rfl rfl (by (repeat' apply And.intro) <;> first | trivial | rfl | exact flat_len (fun _ => rfl) _ | exact encI_len _ | exact encB_len _ | exact encY_len _ | exact Nat.le_of_ble_eq_true rfl | assumption) (check9_ok (⟨[(⟨1, 0, 0, 0, 0, 0, false, [(⟨1, 0, 0⟩ : GEffect)]⟩ : GAbility)], (bare9).Auras, (bare9).Foes, (bare9).Map, (bare9).Door, (bare9).Lair⟩ : GContent) (by first | assumption | exact few_small (by decide +kernel) | exact few_cut (by assumption) | grind)) rfl (by decide) rfl rfl trivial rfl rfl rfl rfl ?_
 refine step_r rfl rfl trivial ?_
 refine step_r rfl rfl trivial ?_
 refine step_r rfl rfl trivial ?_
 refine step_n (o := .box [_, _]) (nx' := 4) rfl rfl rfl trivial ?_
 refine step_store (H' := [(3, .box [_, _]), (2, .row _ _ _), (0, .box [_, _, _, _, _, _, _, _, _, _])]) rfl rfl rfl rfl rfl rfl (Nat.le_of_ble_eq_true rfl) (.inl rfl) rfl ?_
 refine step_r rfl rfl trivial ?_
 refine step_nil ?_
 refine seqK_n ?_
 refine sem_seq ?_
 refine sem_region rfl ?_
 refine step_r rfl rfl (by decide) ?_
 refine step_r rfl rfl trivial ?_
 have jk3 : 0 < ([(⟨1, 0, 0, 0, 0, 0, false, [(⟨1, 0, 0⟩ : GEffect)]⟩ : GAbility)]).length := by first | assumption | omega | (simp only [List.length_set, List.length_append]; omega) | (simp only [IntKind.wrap_i64] at *; omega) | (simp; omega) | simp_all
 refine step_idxR (k := 0) rfl rfl rfl rfl (by first | assumption | omega | (have := jk3; simp only [List.length_set] at this ⊢; omega) | (have := jk3; simp at this ⊢; omega)) rfl ?_
 refine step_r rfl rfl (by decide) ?_
 refine step_storeR rfl rfl rfl rfl (by first | decide | (have := flat_lt (s := 8) (enc := encGAbility) (fun _ => rfl) jk3; show 0 * 8 + 3 < _; omega)) (flat_set (enc := encGAbility) (s := 8) (y := { (([(⟨1, 0, 0, 0, 0, 0, false, [(⟨1, 0, 0⟩ : GEffect)]⟩ : GAbility)]).getD 0 default) with Charges := 1 }) (fun _ => rfl) (get_getD jk3) (by decide) rfl) (.inl rfl) rfl ?_
 refine step_nil ?_
 refine seqK_n ?_
 refine sem_seq ?_
 refine sem_regionS rfl (opsS_cut 1 (j := 0) ?_)
 simp only [List.take_succ_cons, List.take_zero, List.drop_succ_cons, List.drop_zero]
 refine step_r (v := (.agg [_, _, _, _, _, _, _, _, _, _])) rfl rfl (Nat.le_of_ble_eq_true rfl) ?_
 refine step_nil ?_
 refine opsS_trans (Trans.freezeJ (T' := [(0, B false), (1, .ptr 0 0), (2, B (right9 (bare9))), (3, .ptr 3 0), (4, B (check9 (⟨[(⟨1, 0, 0, 0, 0, 0, false, [(⟨1, 0, 0⟩ : GEffect)]⟩ : GAbility)], (bare9).Auras, (bare9).Foes, (bare9).Map, (bare9).Door, (bare9).Lair⟩ : GContent)).2), (7, .agg [.pv (.slc (bare9).Abilities.length false ((bare9).Abilities.flatMap encGAbility)), .pv (.slc (bare9).Auras.length false ((bare9).Auras.flatMap encGAura)), .pv (.slc (bare9).Foes.length false ((bare9).Foes.flatMap encGFoe)), I (bare9).Map.W, I (bare9).Map.H, .pv (.slc (bare9).Map.Wall.length false (encB (bare9).Map.Wall)), I (bare9).Door.X, I (bare9).Door.Y, I (bare9).Lair.X, I (bare9).Lair.Y]), (8, .agg [.pv (.slc (bare9).Abilities.length false ((bare9).Abilities.flatMap encGAbility)), .pv (.slc (bare9).Auras.length false ((bare9).Auras.flatMap encGAura)), .pv (.slc (bare9).Foes.length false ((bare9).Foes.flatMap encGFoe)), I (bare9).Map.W, I (bare9).Map.H, .pv (.slc (bare9).Map.Wall.length false (encB (bare9).Map.Wall)), I (bare9).Door.X, I (bare9).Door.Y, I (bare9).Lair.X, I (bare9).Lair.Y]), (9, B (right9 (bare9))), (10, .agg [I 1, I 0, I 0]), (11, .pv (.slc ([(⟨1, 0, 0⟩ : GEffect)]).length false ([(⟨1, 0, 0⟩ : GEffect)].flatMap encGEffect))), (12, .agg [I 1, I 0, I 0, I 0, I 0, I 0, B false, .pv (.slc ([(⟨1, 0, 0⟩ : GEffect)]).length false ([(⟨1, 0, 0⟩ : GEffect)].flatMap encGEffect))]), (13, .pv (.slc ([(⟨1, 0, 0, 0, 0, 0, false, [(⟨1, 0, 0⟩ : GEffect)]⟩ : GAbility)].set 0 { (([(⟨1, 0, 0, 0, 0, 0, false, [(⟨1, 0, 0⟩ : GEffect)]⟩ : GAbility)]).getD 0 default) with Charges := 1 }).length false (([(⟨1, 0, 0, 0, 0, 0, false, [(⟨1, 0, 0⟩ : GEffect)]⟩ : GAbility)].set 0 { (([(⟨1, 0, 0, 0, 0, 0, false, [(⟨1, 0, 0⟩ : GEffect)]⟩ : GAbility)]).getD 0 default) with Charges := 1 }).flatMap encGAbility))), (15, .tup [.agg [I ((check9 (⟨[(⟨1, 0, 0, 0, 0, 0, false, [(⟨1, 0, 0⟩ : GEffect)]⟩ : GAbility)], (bare9).Auras, (bare9).Foes, (bare9).Map, (bare9).Door, (bare9).Lair⟩ : GContent)).1).Part, I ((check9 (⟨[(⟨1, 0, 0, 0, 0, 0, false, [(⟨1, 0, 0⟩ : GEffect)]⟩ : GAbility)], (bare9).Auras, (bare9).Foes, (bare9).Map, (bare9).Door, (bare9).Lair⟩ : GContent)).1).At], B (check9 (⟨[(⟨1, 0, 0, 0, 0, 0, false, [(⟨1, 0, 0⟩ : GEffect)]⟩ : GAbility)], (bare9).Auras, (bare9).Foes, (bare9).Map, (bare9).Door, (bare9).Lair⟩ : GContent)).2]), (16, .agg [.pv (.slc ([(⟨1, 0, 0, 0, 0, 0, false, [(⟨1, 0, 0⟩ : GEffect)]⟩ : GAbility)].set 0 { (([(⟨1, 0, 0, 0, 0, 0, false, [(⟨1, 0, 0⟩ : GEffect)]⟩ : GAbility)]).getD 0 default) with Charges := 1 }).length false (([(⟨1, 0, 0, 0, 0, 0, false, [(⟨1, 0, 0⟩ : GEffect)]⟩ : GAbility)].set 0 { (([(⟨1, 0, 0, 0, 0, 0, false, [(⟨1, 0, 0⟩ : GEffect)]⟩ : GAbility)]).getD 0 default) with Charges := 1 }).flatMap encGAbility)), .pv (.slc (bare9).Auras.length false ((bare9).Auras.flatMap encGAura)), .pv (.slc (bare9).Foes.length false ((bare9).Foes.flatMap encGFoe)), I (bare9).Map.W, I (bare9).Map.H, .pv (.slc (bare9).Map.Wall.length false (encB (bare9).Map.Wall)), I (bare9).Door.X, I (bare9).Door.Y, I (bare9).Lair.X, I (bare9).Lair.Y]), (17, .tup [.agg [I ((check9 (⟨[(⟨1, 0, 0, 0, 0, 0, false, [(⟨1, 0, 0⟩ : GEffect)]⟩ : GAbility)], (bare9).Auras, (bare9).Foes, (bare9).Map, (bare9).Door, (bare9).Lair⟩ : GContent)).1).Part, I ((check9 (⟨[(⟨1, 0, 0, 0, 0, 0, false, [(⟨1, 0, 0⟩ : GEffect)]⟩ : GAbility)], (bare9).Auras, (bare9).Foes, (bare9).Map, (bare9).Door, (bare9).Lair⟩ : GContent)).1).At], B (check9 (⟨[(⟨1, 0, 0, 0, 0, 0, false, [(⟨1, 0, 0⟩ : GEffect)]⟩ : GAbility)], (bare9).Auras, (bare9).Foes, (bare9).Map, (bare9).Door, (bare9).Lair⟩ : GContent)).2]), (18, .agg [I ((check9 (⟨[(⟨1, 0, 0, 0, 0, 0, false, [(⟨1, 0, 0⟩ : GEffect)]⟩ : GAbility)], (bare9).Auras, (bare9).Foes, (bare9).Map, (bare9).Door, (bare9).Lair⟩ : GContent)).1).Part, I ((check9 (⟨[(⟨1, 0, 0, 0, 0, 0, false, [(⟨1, 0, 0⟩ : GEffect)]⟩ : GAbility)], (bare9).Auras, (bare9).Foes, (bare9).Map, (bare9).Door, (bare9).Lair⟩ : GContent)).1).At]), (19, B (check9 (⟨[(⟨1, 0, 0, 0, 0, 0, false, [(⟨1, 0, 0⟩ : GEffect)]⟩ : GAbility)], (bare9).Auras, (bare9).Foes, (bare9).Map, (bare9).Door, (bare9).Lair⟩ : GContent)).2), (21, .pv (.slc ([(⟨1, 0, 0, 0, 0, 0, false, [(⟨1, 0, 0⟩ : GEffect)]⟩ : GAbility)].set 0 { (([(⟨1, 0, 0, 0, 0, 0, false, [(⟨1, 0, 0⟩ : GEffect)]⟩ : GAbility)]).getD 0 default) with Charges := 1 }).length false (([(⟨1, 0, 0, 0, 0, 0, false, [(⟨1, 0, 0⟩ : GEffect)]⟩ : GAbility)].set 0 { (([(⟨1, 0, 0, 0, 0, 0, false, [(⟨1, 0, 0⟩ : GEffect)]⟩ : GAbility)]).getD 0 default) with Charges := 1 }).flatMap encGAbility))), (25, .agg [.pv (.slc ([(⟨1, 0, 0, 0, 0, 0, false, [(⟨1, 0, 0⟩ : GEffect)]⟩ : GAbility)].set 0 { (([(⟨1, 0, 0, 0, 0, 0, false, [(⟨1, 0, 0⟩ : GEffect)]⟩ : GAbility)]).getD 0 default) with Charges := 1 }).length false (([(⟨1, 0, 0, 0, 0, 0, false, [(⟨1, 0, 0⟩ : GEffect)]⟩ : GAbility)].set 0 { (([(⟨1, 0, 0, 0, 0, 0, false, [(⟨1, 0, 0⟩ : GEffect)]⟩ : GAbility)]).getD 0 default) with Charges := 1 }).flatMap encGAbility)), .pv (.slc (bare9).Auras.length false ((bare9).Auras.flatMap encGAura)), .pv (.slc (bare9).Foes.length false ((bare9).Foes.flatMap encGFoe)), I (bare9).Map.W, I (bare9).Map.H, .pv (.slc (bare9).Map.Wall.length false (encB (bare9).Map.Wall)), I (bare9).Door.X, I (bare9).Door.Y, I (bare9).Lair.X, I (bare9).Lair.Y])]) (H' := [(3, .box [I ((check9 (⟨[(⟨1, 0, 0, 0, 0, 0, false, [(⟨1, 0, 0⟩ : GEffect)]⟩ : GAbility)], (bare9).Auras, (bare9).Foes, (bare9).Map, (bare9).Door, (bare9).Lair⟩ : GContent)).1).Part, I ((check9 (⟨[(⟨1, 0, 0, 0, 0, 0, false, [(⟨1, 0, 0⟩ : GEffect)]⟩ : GAbility)], (bare9).Auras, (bare9).Foes, (bare9).Map, (bare9).Door, (bare9).Lair⟩ : GContent)).1).At]), (0, .box [.pv (.slc ([(⟨1, 0, 0, 0, 0, 0, false, [(⟨1, 0, 0⟩ : GEffect)]⟩ : GAbility)].set 0 { (([(⟨1, 0, 0, 0, 0, 0, false, [(⟨1, 0, 0⟩ : GEffect)]⟩ : GAbility)]).getD 0 default) with Charges := 1 }).length false (([(⟨1, 0, 0, 0, 0, 0, false, [(⟨1, 0, 0⟩ : GEffect)]⟩ : GAbility)].set 0 { (([(⟨1, 0, 0, 0, 0, 0, false, [(⟨1, 0, 0⟩ : GEffect)]⟩ : GAbility)]).getD 0 default) with Charges := 1 }).flatMap encGAbility)), .pv (.slc (bare9).Auras.length false ((bare9).Auras.flatMap encGAura)), .pv (.slc (bare9).Foes.length false ((bare9).Foes.flatMap encGFoe)), I (bare9).Map.W, I (bare9).Map.H, .pv (.slc (bare9).Map.Wall.length false (encB (bare9).Map.Wall)), I (bare9).Door.X, I (bare9).Door.Y, I (bare9).Lair.X, I (bare9).Lair.Y])]) [2] (by decide) ⟨⟨_, _, rfl, rfl, (by (repeat' apply And.intro) <;> first | trivial | rfl | exact flat_len (s := 8) (enc := encGAbility) (fun _ => rfl) _ | exact flat_len (fun _ => rfl) _ | exact encI_len _ | exact encB_len _ | exact encY_len _ | exact Nat.le_of_ble_eq_true rfl | assumption)⟩, ⟨_, _, rfl, rfl, (by (repeat' apply And.intro) <;> first | trivial | rfl | exact flat_len (s := 8) (enc := encGAbility) (fun _ => rfl) _ | exact flat_len (fun _ => rfl) _ | exact encI_len _ | exact encB_len _ | exact encY_len _ | exact Nat.le_of_ble_eq_true rfl | assumption)⟩, ⟨_, _, rfl, rfl, (by (repeat' apply And.intro) <;> first | trivial | rfl | exact flat_len (s := 8) (enc := encGAbility) (fun _ => rfl) _ | exact flat_len (fun _ => rfl) _ | exact encI_len _ | exact encB_len _ | exact encY_len _ | exact Nat.le_of_ble_eq_true rfl | assumption)⟩, ⟨_, _, rfl, rfl, (by (repeat' apply And.intro) <;> first | trivial | rfl | exact flat_len (s := 8) (enc := encGAbility) (fun _ => rfl) _ | exact flat_len (fun _ => rfl) _ | exact encI_len _ | exact encB_len _ | exact encY_len _ | exact Nat.le_of_ble_eq_true rfl | assumption)⟩, ⟨_, _, rfl, rfl, (by (repeat' apply And.intro) <;> first | trivial | rfl | exact flat_len (s := 8) (enc := encGAbility) (fun _ => rfl) _ | exact flat_len (fun _ => rfl) _ | exact encI_len _ | exact encB_len _ | exact encY_len _ | exact Nat.le_of_ble_eq_true rfl | assumption)⟩, ⟨_, _, rfl, rfl, (by (repeat' apply And.intro) <;> first | trivial | rfl | exact flat_len (s := 8) (enc := encGAbility) (fun _ => rfl) _ | exact flat_len (fun _ => rfl) _ | exact encI_len _ | exact encB_len _ | exact encY_len _ | exact Nat.le_of_ble_eq_true rfl | assumption)⟩, ⟨_, _, rfl, rfl, (by (repeat' apply And.intro) <;> first | trivial | rfl | exact flat_len (s := 8) (enc := encGAbility) (fun _ => rfl) _ | exact flat_len (fun _ => rfl) _ | exact encI_len _ | exact encB_len _ | exact encY_len _ | exact Nat.le_of_ble_eq_true rfl | assumption)⟩, ⟨_, _, rfl, rfl, (by (repeat' apply And.intro) <;> first | trivial | rfl | exact flat_len (s := 8) (enc := encGAbility) (fun _ => rfl) _ | exact flat_len (fun _ => rfl) _ | exact encI_len _ | exact encB_len _ | exact encY_len _ | exact Nat.le_of_ble_eq_true rfl | assumption)⟩, ⟨_, _, rfl, rfl, (by (repeat' apply And.intro) <;> first | trivial | rfl | exact flat_len (s := 8) (enc := encGAbility) (fun _ => rfl) _ | exact flat_len (fun _ => rfl) _ | exact encI_len _ | exact encB_len _ | exact encY_len _ | exact Nat.le_of_ble_eq_true rfl | assumption)⟩, ⟨_, _, rfl, rfl, (by (repeat' apply And.intro) <;> first | trivial | rfl | exact flat_len (s := 8) (enc := encGAbility) (fun _ => rfl) _ | exact flat_len (fun _ => rfl) _ | exact encI_len _ | exact encB_len _ | exact encY_len _ | exact Nat.le_of_ble_eq_true rfl | assumption)⟩, ⟨_, _, rfl, rfl, (by (repeat' apply And.intro) <;> first | trivial | rfl | exact flat_len (s := 8) (enc := encGAbility) (fun _ => rfl) _ | exact flat_len (fun _ => rfl) _ | exact encI_len _ | exact encB_len _ | exact encY_len _ | exact Nat.le_of_ble_eq_true rfl | assumption)⟩, ⟨_, _, rfl, rfl, (by (repeat' apply And.intro) <;> first | trivial | rfl | exact flat_len (s := 8) (enc := encGAbility) (fun _ => rfl) _ | exact flat_len (fun _ => rfl) _ | exact encI_len _ | exact encB_len _ | exact encY_len _ | exact Nat.le_of_ble_eq_true rfl | assumption)⟩, ⟨_, _, rfl, rfl, (by (repeat' apply And.intro) <;> first | trivial | rfl | exact flat_len (s := 8) (enc := encGAbility) (fun _ => rfl) _ | exact flat_len (fun _ => rfl) _ | exact encI_len _ | exact encB_len _ | exact encY_len _ | exact Nat.le_of_ble_eq_true rfl | assumption)⟩, ⟨_, _, rfl, rfl, (by (repeat' apply And.intro) <;> first | trivial | rfl | exact flat_len (s := 8) (enc := encGAbility) (fun _ => rfl) _ | exact flat_len (fun _ => rfl) _ | exact encI_len _ | exact encB_len _ | exact encY_len _ | exact Nat.le_of_ble_eq_true rfl | assumption)⟩, ⟨_, _, rfl, rfl, (by (repeat' apply And.intro) <;> first | trivial | rfl | exact flat_len (s := 8) (enc := encGAbility) (fun _ => rfl) _ | exact flat_len (fun _ => rfl) _ | exact encI_len _ | exact encB_len _ | exact encY_len _ | exact Nat.le_of_ble_eq_true rfl | assumption)⟩, ⟨_, _, rfl, rfl, (by (repeat' apply And.intro) <;> first | trivial | rfl | exact flat_len (s := 8) (enc := encGAbility) (fun _ => rfl) _ | exact flat_len (fun _ => rfl) _ | exact encI_len _ | exact encB_len _ | exact encY_len _ | exact Nat.le_of_ble_eq_true rfl | assumption)⟩, ⟨_, _, rfl, rfl, (by (repeat' apply And.intro) <;> first | trivial | rfl | exact flat_len (s := 8) (enc := encGAbility) (fun _ => rfl) _ | exact flat_len (fun _ => rfl) _ | exact encI_len _ | exact encB_len _ | exact encY_len _ | exact Nat.le_of_ble_eq_true rfl | assumption)⟩, ⟨_, _, rfl, rfl, (by (repeat' apply And.intro) <;> first | trivial | rfl | exact flat_len (s := 8) (enc := encGAbility) (fun _ => rfl) _ | exact flat_len (fun _ => rfl) _ | exact encI_len _ | exact encB_len _ | exact encY_len _ | exact Nat.le_of_ble_eq_true rfl | assumption)⟩, ⟨_, _, rfl, rfl, (by (repeat' apply And.intro) <;> first | trivial | rfl | exact flat_len (s := 8) (enc := encGAbility) (fun _ => rfl) _ | exact flat_len (fun _ => rfl) _ | exact encI_len _ | exact encB_len _ | exact encY_len _ | exact Nat.le_of_ble_eq_true rfl | assumption)⟩, trivial⟩ ⟨⟨rfl, _, _, rfl, rfl, (by (repeat' apply And.intro) <;> first | trivial | rfl | exact flat_len (s := 8) (enc := encGAbility) (fun _ => rfl) _ | exact flat_len (fun _ => rfl) _ | exact encI_len _ | exact encB_len _ | exact encY_len _ | exact Nat.le_of_ble_eq_true rfl | assumption)⟩, ⟨rfl, _, _, rfl, rfl, (by (repeat' apply And.intro) <;> first | trivial | rfl | exact flat_len (s := 8) (enc := encGAbility) (fun _ => rfl) _ | exact flat_len (fun _ => rfl) _ | exact encI_len _ | exact encB_len _ | exact encY_len _ | exact Nat.le_of_ble_eq_true rfl | assumption)⟩, trivial⟩) ?_
 refine opsS_of (j := 1) ?_
 refine step_call rfl rfl rfl rfl (getA_ok (⟨([(⟨1, 0, 0, 0, 0, 0, false, [(⟨1, 0, 0⟩ : GEffect)]⟩ : GAbility)].set 0 { (([(⟨1, 0, 0, 0, 0, 0, false, [(⟨1, 0, 0⟩ : GEffect)]⟩ : GAbility)]).getD 0 default) with Charges := 1 }), (bare9).Auras, (bare9).Foes, (bare9).Map, (bare9).Door, (bare9).Lair⟩ : GContent) 1 (by first | assumption | exact few_small (by decide +kernel) | exact few_cut (by assumption) | grind)) rfl rfl rfl ?_
 refine step_r rfl rfl trivial ?_
 refine step_r rfl rfl trivial ?_
 refine step_r rfl rfl trivial ?_
 refine step_n (o := .box [_, _, _, _, _, _, _, _]) (nx' := 5) rfl rfl rfl trivial ?_
 refine step_store (H' := [(4, .box [_, _, _, _, _, _, _, _]), (3, .box [_, _]), (0, .box [_, _, _, _, _, _, _, _, _, _])]) rfl rfl rfl rfl rfl rfl (Nat.le_of_ble_eq_true rfl) (.inl rfl) rfl ?_
 refine step_r rfl rfl trivial ?_
 refine step_nil ?_
 refine seqK_n ?_
 refine sem_seq ?_
 refine sem_drawn rfl (by decide +kernel) rfl ?_
 refine step_r rfl rfl trivial ?_
 refine step_r rfl rfl trivial ?_
 refine step_gs rfl (fun h5 => ?_) (fun h5 => ?_)
 ·have g5 : right9 (bare9) = true := h5
  refine step_g1 rfl h5 ?_
  refine step_r rfl rfl trivial ?_
  refine step_g1 rfl h5 ?_
  refine step_r rfl rfl trivial ?_
  refine step_pickT rfl h5 rfl rfl ?_
  refine step_r rfl rfl trivial ?_
  refine step_gs rfl (fun h7 => ?_) (fun h7 => ?_)
  ·have g7 : ¬ ((check9 (⟨[(⟨1, 0, 0, 0, 0, 0, false, [(⟨1, 0, 0⟩ : GEffect)]⟩ : GAbility)], (bare9).Auras, (bare9).Foes, (bare9).Map, (bare9).Door, (bare9).Lair⟩ : GContent)).2 = true) := boo_f (not_t h7)
   refine step_g1 rfl h7 ?_
   refine step_r (v := (.agg [_, _])) rfl rfl (Nat.le_of_ble_eq_true rfl) ?_
   refine step_g1 rfl h7 ?_
   refine step_r (v := (.agg [_, _])) rfl rfl trivial ?_
   refine step_g1 rfl h7 ?_
   refine step_eqlA rfl rfl rfl (by kernel_rfl) rfl rfl rfl rfl rfl ?_
   refine step_pickT rfl h7 rfl rfl ?_
   refine step_r rfl rfl trivial ?_
   refine step_gs rfl (fun h9 => ?_) (fun h9 => ?_)
   ·have g9 : (((((check9 (⟨[(⟨1, 0, 0, 0, 0, 0, false, [(⟨1, 0, 0⟩ : GEffect)]⟩ : GAbility)], (bare9).Auras, (bare9).Foes, (bare9).Map, (bare9).Door, (bare9).Lair⟩ : GContent)).1).Part) == 1) && (((((check9 (⟨[(⟨1, 0, 0, 0, 0, 0, false, [(⟨1, 0, 0⟩ : GEffect)]⟩ : GAbility)], (bare9).Auras, (bare9).Foes, (bare9).Map, (bare9).Door, (bare9).Lair⟩ : GContent)).1).At) == 0) && true)) = true := h9
    refine step_g1 rfl h9 ?_
    refine step_r (v := (.agg [_, _, _, _, _, _, _, _, _, _])) rfl rfl (Nat.le_of_ble_eq_true rfl) ?_
    refine step_g1 rfl h9 ?_
    refine step_call rfl rfl rfl rfl (right9_ok (⟨([(⟨1, 0, 0, 0, 0, 0, false, [(⟨1, 0, 0⟩ : GEffect)]⟩ : GAbility)].set 0 { (([(⟨1, 0, 0, 0, 0, 0, false, [(⟨1, 0, 0⟩ : GEffect)]⟩ : GAbility)]).getD 0 default) with Charges := 1 }), (bare9).Auras, (bare9).Foes, (bare9).Map, (bare9).Door, (bare9).Lair⟩ : GContent) (by first | assumption | exact few_small (by decide +kernel) | exact few_cut (by assumption) | grind)) rfl rfl rfl ?_
    refine step_pickT rfl h9 rfl rfl ?_
    refine step_r rfl rfl trivial ?_
    refine step_gs rfl (fun h11 => ?_) (fun h11 => ?_)
    ·have g11 : right9 (⟨([(⟨1, 0, 0, 0, 0, 0, false, [(⟨1, 0, 0⟩ : GEffect)]⟩ : GAbility)].set 0 { (([(⟨1, 0, 0, 0, 0, 0, false, [(⟨1, 0, 0⟩ : GEffect)]⟩ : GAbility)]).getD 0 default) with Charges := 1 }), (bare9).Auras, (bare9).Foes, (bare9).Map, (bare9).Door, (bare9).Lair⟩ : GContent) = true := h11
     refine step_g1 rfl h11 ?_
     refine step_r rfl rfl trivial ?_
     refine step_pickT rfl h11 rfl rfl ?_
     refine step_r rfl rfl trivial ?_
     refine step_gs rfl (fun h12 => ?_) (fun h12 => ?_)
     ·have g12 : (getA (⟨([(⟨1, 0, 0, 0, 0, 0, false, [(⟨1, 0, 0⟩ : GEffect)]⟩ : GAbility)].set 0 { (([(⟨1, 0, 0, 0, 0, 0, false, [(⟨1, 0, 0⟩ : GEffect)]⟩ : GAbility)]).getD 0 default) with Charges := 1 }), (bare9).Auras, (bare9).Foes, (bare9).Map, (bare9).Door, (bare9).Lair⟩ : GContent) 1).2 = true := h12
      refine step_g1 rfl h12 ?_
      refine step_r rfl rfl (by decide) ?_
      refine step_g1 rfl h12 ?_
      refine step_r rfl rfl trivial ?_
      refine step_g1 rfl h12 ?_
      refine step_r rfl rfl trivial ?_
      refine step_g1 rfl h12 ?_
      refine step_bin rfl rfl rfl rfl rfl trivial ?_
      refine step_pickT rfl h12 rfl rfl ?_
      refine step_r rfl rfl trivial ?_
      refine step_gs rfl (fun h14 => ?_) (fun h14 => ?_)
      ·have g14 : (((getA (⟨([(⟨1, 0, 0, 0, 0, 0, false, [(⟨1, 0, 0⟩ : GEffect)]⟩ : GAbility)].set 0 { (([(⟨1, 0, 0, 0, 0, 0, false, [(⟨1, 0, 0⟩ : GEffect)]⟩ : GAbility)]).getD 0 default) with Charges := 1 }), (bare9).Auras, (bare9).Foes, (bare9).Map, (bare9).Door, (bare9).Lair⟩ : GContent) 1).1).Effects.length : Int) = 1 := beq_t h14
       refine step_g1 rfl h14 ?_
       refine step_r (v := (.agg [_, _, _, _, _, _, _, _, _, _])) rfl rfl (Nat.le_of_ble_eq_true rfl) ?_
       refine step_g1 rfl h14 ?_
       refine step_r (v := (.agg [_, _, _, _, _, _, _, _, _, _])) rfl rfl (Nat.le_of_ble_eq_true rfl) ?_
       refine step_g1 rfl h14 ?_
       refine step_call rfl rfl rfl rfl (copy9_ok (⟨([(⟨1, 0, 0, 0, 0, 0, false, [(⟨1, 0, 0⟩ : GEffect)]⟩ : GAbility)].set 0 { (([(⟨1, 0, 0, 0, 0, 0, false, [(⟨1, 0, 0⟩ : GEffect)]⟩ : GAbility)]).getD 0 default) with Charges := 1 }), (bare9).Auras, (bare9).Foes, (bare9).Map, (bare9).Door, (bare9).Lair⟩ : GContent) (by first | assumption | exact few_small (by decide +kernel) | grind)) rfl rfl rfl ?_
       refine step_g1 rfl h14 ?_
       refine step_call rfl rfl rfl rfl (same9_ok (⟨([(⟨1, 0, 0, 0, 0, 0, false, [(⟨1, 0, 0⟩ : GEffect)]⟩ : GAbility)].set 0 { (([(⟨1, 0, 0, 0, 0, 0, false, [(⟨1, 0, 0⟩ : GEffect)]⟩ : GAbility)]).getD 0 default) with Charges := 1 }), (bare9).Auras, (bare9).Foes, (bare9).Map, (bare9).Door, (bare9).Lair⟩ : GContent) (copy9 (⟨([(⟨1, 0, 0, 0, 0, 0, false, [(⟨1, 0, 0⟩ : GEffect)]⟩ : GAbility)].set 0 { (([(⟨1, 0, 0, 0, 0, 0, false, [(⟨1, 0, 0⟩ : GEffect)]⟩ : GAbility)]).getD 0 default) with Charges := 1 }), (bare9).Auras, (bare9).Foes, (bare9).Map, (bare9).Door, (bare9).Lair⟩ : GContent))) rfl rfl rfl ?_
       refine step_pickT rfl h14 rfl rfl ?_
       refine step_r rfl rfl trivial ?_
       refine step_nil ?_
       refine seqK_n ?_
       refine sem_ret ?_
       have e16 : small09 = (same9 (⟨([(⟨1, 0, 0, 0, 0, 0, false, [(⟨1, 0, 0⟩ : GEffect)]⟩ : GAbility)].set 0 { (([(⟨1, 0, 0, 0, 0, 0, false, [(⟨1, 0, 0⟩ : GEffect)]⟩ : GAbility)]).getD 0 default) with Charges := 1 }), (bare9).Auras, (bare9).Foes, (bare9).Map, (bare9).Door, (bare9).Lair⟩ : GContent) (copy9 (⟨([(⟨1, 0, 0, 0, 0, 0, false, [(⟨1, 0, 0⟩ : GEffect)]⟩ : GAbility)].set 0 { (([(⟨1, 0, 0, 0, 0, 0, false, [(⟨1, 0, 0⟩ : GEffect)]⟩ : GAbility)]).getD 0 default) with Charges := 1 }), (bare9).Auras, (bare9).Foes, (bare9).Map, (bare9).Door, (bare9).Lair⟩ : GContent))) := by
        unfold small09
        try dsimp only
        rewrite [if_pos g5, if_neg g7, if_pos g9, if_pos g11, if_pos g12, if_pos g14]
        all_goals rfl
       rw [e16]
       try simp only [List.length_set]
       exact answersR rfl ⟨trivial, trivial⟩ (rfl) rfl
      ·have g14 : ¬ ((((getA (⟨([(⟨1, 0, 0, 0, 0, 0, false, [(⟨1, 0, 0⟩ : GEffect)]⟩ : GAbility)].set 0 { (([(⟨1, 0, 0, 0, 0, 0, false, [(⟨1, 0, 0⟩ : GEffect)]⟩ : GAbility)]).getD 0 default) with Charges := 1 }), (bare9).Auras, (bare9).Foes, (bare9).Map, (bare9).Door, (bare9).Lair⟩ : GContent) 1).1).Effects.length : Int) = 1) := beq_f h14
       refine step_g0 rfl h14 rfl ?_
       refine step_g0 rfl h14 rfl ?_
       refine step_g0 rfl h14 rfl ?_
       refine step_g0 rfl h14 rfl ?_
       refine step_pickF rfl h14 rfl rfl ?_
       refine step_r rfl rfl trivial ?_
       refine step_nil ?_
       refine seqK_n ?_
       refine sem_ret ?_
       have e17 : small09 = false := by
        unfold small09
        try dsimp only
        rewrite [if_pos g5, if_neg g7, if_pos g9, if_pos g11, if_pos g12, if_neg g14]
        all_goals rfl
       rw [e17]
       exact answersR rfl ⟨trivial, trivial⟩ (rfl) rfl
     ·have g12 : ¬ ((getA (⟨([(⟨1, 0, 0, 0, 0, 0, false, [(⟨1, 0, 0⟩ : GEffect)]⟩ : GAbility)].set 0 { (([(⟨1, 0, 0, 0, 0, 0, false, [(⟨1, 0, 0⟩ : GEffect)]⟩ : GAbility)]).getD 0 default) with Charges := 1 }), (bare9).Auras, (bare9).Foes, (bare9).Map, (bare9).Door, (bare9).Lair⟩ : GContent) 1).2 = true) := boo_f h12
      refine step_g0 rfl h12 rfl ?_
      refine step_g0 rfl h12 rfl ?_
      refine step_g0 rfl h12 rfl ?_
      refine step_g0 rfl h12 rfl ?_
      refine step_pickF rfl h12 rfl rfl ?_
      refine step_r rfl rfl trivial ?_
      refine step_gf rfl rfl ?_
      refine step_gf rfl rfl ?_
      refine step_gf rfl rfl ?_
      refine step_gf rfl rfl ?_
      refine step_r rfl rfl trivial ?_
      refine step_r rfl rfl trivial ?_
      refine step_nil ?_
      refine seqK_n ?_
      refine sem_ret ?_
      have e18 : small09 = false := by
       unfold small09
       try dsimp only
       rewrite [if_pos g5, if_neg g7, if_pos g9, if_pos g11, if_neg g12]
       all_goals rfl
      rw [e18]
      exact answersR rfl ⟨trivial, trivial⟩ (rfl) rfl
    ·have g11 : ¬ (right9 (⟨([(⟨1, 0, 0, 0, 0, 0, false, [(⟨1, 0, 0⟩ : GEffect)]⟩ : GAbility)].set 0 { (([(⟨1, 0, 0, 0, 0, 0, false, [(⟨1, 0, 0⟩ : GEffect)]⟩ : GAbility)]).getD 0 default) with Charges := 1 }), (bare9).Auras, (bare9).Foes, (bare9).Map, (bare9).Door, (bare9).Lair⟩ : GContent) = true) := boo_f h11
     refine step_g0 rfl h11 rfl ?_
     refine step_pickF rfl h11 rfl rfl ?_
     refine step_r rfl rfl trivial ?_
     refine step_gf rfl rfl ?_
     refine step_gf rfl rfl ?_
     refine step_gf rfl rfl ?_
     refine step_gf rfl rfl ?_
     refine step_r rfl rfl trivial ?_
     refine step_r rfl rfl trivial ?_
     refine step_gf rfl rfl ?_
     refine step_gf rfl rfl ?_
     refine step_gf rfl rfl ?_
     refine step_gf rfl rfl ?_
     refine step_r rfl rfl trivial ?_
     refine step_r rfl rfl trivial ?_
     refine step_nil ?_
     refine seqK_n ?_
     refine sem_ret ?_
     have e19 : small09 = false := by
      unfold small09
      try dsimp only
      rewrite [if_pos g5, if_neg g7, if_pos g9, if_neg g11]
      all_goals rfl
     rw [e19]
     exact answersR rfl ⟨trivial, trivial⟩ (rfl) rfl
   ·have g9 : ¬ ((((((check9 (⟨[(⟨1, 0, 0, 0, 0, 0, false, [(⟨1, 0, 0⟩ : GEffect)]⟩ : GAbility)], (bare9).Auras, (bare9).Foes, (bare9).Map, (bare9).Door, (bare9).Lair⟩ : GContent)).1).Part) == 1) && (((((check9 (⟨[(⟨1, 0, 0, 0, 0, 0, false, [(⟨1, 0, 0⟩ : GEffect)]⟩ : GAbility)], (bare9).Auras, (bare9).Foes, (bare9).Map, (bare9).Door, (bare9).Lair⟩ : GContent)).1).At) == 0) && true)) = true) := boo_f h9
    refine step_g0 rfl h9 rfl ?_
    refine step_g0 rfl h9 rfl ?_
    refine step_pickF rfl h9 rfl rfl ?_
    refine step_r rfl rfl trivial ?_
    refine step_gf rfl rfl ?_
    refine step_r rfl rfl trivial ?_
    refine step_r rfl rfl trivial ?_
    refine step_gf rfl rfl ?_
    refine step_gf rfl rfl ?_
    refine step_gf rfl rfl ?_
    refine step_gf rfl rfl ?_
    refine step_r rfl rfl trivial ?_
    refine step_r rfl rfl trivial ?_
    refine step_gf rfl rfl ?_
    refine step_gf rfl rfl ?_
    refine step_gf rfl rfl ?_
    refine step_gf rfl rfl ?_
    refine step_r rfl rfl trivial ?_
    refine step_r rfl rfl trivial ?_
    refine step_nil ?_
    refine seqK_n ?_
    refine sem_ret ?_
    have e20 : small09 = false := by
     unfold small09
     try dsimp only
     rewrite [if_pos g5, if_neg g7, if_neg g9]
     all_goals rfl
    rw [e20]
    exact answersR rfl ⟨trivial, trivial⟩ (rfl) rfl
  ·have g7 : (check9 (⟨[(⟨1, 0, 0, 0, 0, 0, false, [(⟨1, 0, 0⟩ : GEffect)]⟩ : GAbility)], (bare9).Auras, (bare9).Foes, (bare9).Map, (bare9).Door, (bare9).Lair⟩ : GContent)).2 = true := (not_f h7)
   refine step_g0 rfl h7 rfl ?_
   refine step_g0 rfl h7 rfl ?_
   refine step_g0 rfl h7 rfl ?_
   refine step_pickF rfl h7 rfl rfl ?_
   refine step_r rfl rfl trivial ?_
   refine step_gf rfl rfl ?_
   refine step_gf rfl rfl ?_
   refine step_r rfl rfl trivial ?_
   refine step_r rfl rfl trivial ?_
   refine step_gf rfl rfl ?_
   refine step_r rfl rfl trivial ?_
   refine step_r rfl rfl trivial ?_
   refine step_gf rfl rfl ?_
   refine step_gf rfl rfl ?_
   refine step_gf rfl rfl ?_
   refine step_gf rfl rfl ?_
   refine step_r rfl rfl trivial ?_
   refine step_r rfl rfl trivial ?_
   refine step_gf rfl rfl ?_
   refine step_gf rfl rfl ?_
   refine step_gf rfl rfl ?_
   refine step_gf rfl rfl ?_
   refine step_r rfl rfl trivial ?_
   refine step_r rfl rfl trivial ?_
   refine step_nil ?_
   refine seqK_n ?_
   refine sem_ret ?_
   have e21 : small09 = false := by
    unfold small09
    try dsimp only
    rewrite [if_pos g5, if_pos g7]
    all_goals rfl
   rw [e21]
   exact answersR rfl ⟨trivial, trivial⟩ (rfl) rfl
 ·have g5 : ¬ (right9 (bare9) = true) := boo_f h5
  refine step_g0 rfl h5 rfl ?_
  refine step_g0 rfl h5 rfl ?_
  refine step_pickF rfl h5 rfl rfl ?_
  refine step_r rfl rfl trivial ?_
  refine step_gf rfl rfl ?_
  refine step_gf rfl rfl ?_
  refine step_gf rfl rfl ?_
  refine step_r rfl rfl trivial ?_
  refine step_r rfl rfl trivial ?_
  refine step_gf rfl rfl ?_
  refine step_gf rfl rfl ?_
  refine step_r rfl rfl trivial ?_
  refine step_r rfl rfl trivial ?_
  refine step_gf rfl rfl ?_
  refine step_r rfl rfl trivial ?_
  refine step_r rfl rfl trivial ?_
  refine step_gf rfl rfl ?_
  refine step_gf rfl rfl ?_
  refine step_gf rfl rfl ?_
  refine step_gf rfl rfl ?_
  refine step_r rfl rfl trivial ?_
  refine step_r rfl rfl trivial ?_
  refine step_gf rfl rfl ?_
  refine step_gf rfl rfl ?_
  refine step_gf rfl rfl ?_
  refine step_gf rfl rfl ?_
  refine step_r rfl rfl trivial ?_
  refine step_r rfl rfl trivial ?_
  refine step_nil ?_
  refine seqK_n ?_
  refine sem_ret ?_
  have e22 : small09 = false := by
   unfold small09
   try dsimp only
   rewrite [if_neg g5]
   all_goals rfl
  rw [e22]
  exact answersR rfl ⟨trivial, trivial⟩ (rfl) rfl

theorem few9_go0 (c : GContent) : ∀ (n k : Nat), few9_L0 c n k = .inr () → ∀ i, i < n → (c.Abilities.getD (k + i) default).Effects.length ≤ 100
  | 0, k, _, i, hi => by omega
  | n + 1, k, h, i, hi => by
    rw [few9_L0] at h
    split at h
    · cases h
    · rename_i h1
      cases i with
      | zero => simp only [Nat.add_zero]; omega
      | succ i => have := few9_go0 c n (k + 1) h i (by omega); rwa [show k + (i + 1) = k + 1 + i by omega]
theorem few9_go1 (c : GContent) : ∀ (n k : Nat), few9_L1 c n k = .inr () → ∀ i, i < n → (c.Foes.getD (k + i) default).Script.length ≤ 100 ∧ (c.Foes.getD (k + i) default).Hoard.length ≤ 100
  | 0, k, _, i, hi => by omega
  | n + 1, k, h, i, hi => by
    rw [few9_L1] at h
    split at h
    · cases h
    · rename_i h1
      split at h
      · cases h
      · rename_i h2
        cases i with
        | zero => simp only [Nat.add_zero]; omega
        | succ i => have := few9_go1 c n (k + 1) h i (by omega); rwa [show k + (i + 1) = k + 1 + i by omega]
theorem few9_go0' (c : GContent) (b : Bool) : ∀ (n k : Nat), few9_L0 c n k = .inl b → b = false
  | 0, k, h => by rw [few9_L0] at h; cases h
  | n + 1, k, h => by
    rw [few9_L0] at h
    split at h
    · cases h; rfl
    · exact few9_go0' c b n _ h
theorem few9_go1' (c : GContent) (b : Bool) : ∀ (n k : Nat), few9_L1 c n k = .inl b → b = false
  | 0, k, h => by rw [few9_L1] at h; cases h
  | n + 1, k, h => by
    rw [few9_L1] at h
    split at h
    · cases h; rfl
    · split at h
      · cases h; rfl
      · exact few9_go1' c b n _ h
theorem few_of {c : GContent} (h : few9 c = true) : Few9 c := by
  unfold few9 at h
  split at h
  · rename_i b hb; have := few9_go0' _ _ _ _ hb; simp [this] at h
  · rename_i hb
    split at h
    · rename_i b hb; have := few9_go1' _ _ _ _ hb; simp [this] at h
    · rename_i hc
      split at h
      case isFalse => cases h
      split at h
      case isFalse => cases h
      split at h
      case isFalse => cases h
      have h9 := of_decide_eq_true h
      have b0 := few9_go0 _ _ _ hb
      have b1 := few9_go1 _ _ _ hc
      refine ⟨fun a ha => ?_, fun f hf => ?_, fun f hf => ?_, by omega, by omega, by omega, by omega⟩
      · obtain ⟨i, hi, rfl⟩ := List.mem_iff_getElem.1 ha
        have := b0 i (by omega)
        rw [Nat.zero_add, List.getD_eq_getElem?_getD, List.getElem?_eq_getElem hi, Option.getD_some] at this
        omega
      · obtain ⟨i, hi, rfl⟩ := List.mem_iff_getElem.1 hf
        have := (b1 i (by omega)).1
        rw [Nat.zero_add, List.getD_eq_getElem?_getD, List.getElem?_eq_getElem hi, Option.getD_some] at this
        omega
      · obtain ⟨i, hi, rfl⟩ := List.mem_iff_getElem.1 hf
        have := (b1 i (by omega)).2
        rw [Nat.zero_add, List.getD_eq_getElem?_getD, List.getElem?_eq_getElem hi, Option.getD_some] at this
        omega


theorem getA_len {c : GContent} (h : Few9 c) (w : Int) : (getA c w).1.Effects.length ≤ 16777216 := few_eff h

def stays09_L1 (c : GContent) : List GEffect → Nat → Sum Bool Unit
  | [], k1 => .inr ()
  | x1 :: l_, k1 => if (x1.Kind : Int) = 4 then (if (getU c x1.Aura).2 = true then stays09_L1 c l_ (k1 + 1) else .inl false) else stays09_L1 c l_ (k1 + 1)
def stays09_L0 (c : GContent) : List GAbility → Nat → Sum Bool Unit
  | [], k0 => .inr ()
  | x0 :: l_, k0 => if (getA c x0.Id).2 = true then (if sameAR ((getA c x0.Id).1) x0 = true then (if (((getA c x0.Id).1).Cast : Int) < 0 then .inl false else if (((getA c x0.Id).1).Cast : Int) > 1000000 then .inl false else if (((getA c x0.Id).1).Charges : Int) < 1 then .inl false else if (((getA c x0.Id).1).Effects.length : Int) < 1 then .inl false else (match stays09_L1 c (((getA c x0.Id).1).Effects) 0 with
    | .inl r_ => .inl r_
    | .inr () => stays09_L0 c l_ (k0 + 1))) else .inl false) else .inl false
def stays09_L2 (c : GContent) : List GFoe → Nat → Sum Bool Unit
  | [], k2 => .inr ()
  | x2 :: l_, k2 => if (getF c x2.Id).2 = true then (if sameFR ((getF c x2.Id).1) x2 = true then (if (((getF c x2.Id).1).Health : Int) < 1 then .inl false else if (((getF c x2.Id).1).Every : Int) < 1 then .inl false else stays09_L2 c l_ (k2 + 1)) else .inl false) else .inl false
def stays09_J178 (c : GContent) : GContent :=
  if (c.Foes.length : Int) > 0 then (⟨c.Abilities, c.Auras, (c.Foes.take (((IntKind.i64.wrap (c.Foes.length - 1))).toNat)), c.Map, c.Door, c.Lair⟩ : GContent) else c
def stays09 (c : GContent) : Bool :=
  if few9 c = true then (if right9 c = true then (match stays09_L0 c c.Abilities 0 with
    | .inl r_ => r_
    | .inr () => (match stays09_L2 c c.Foes 0 with
    | .inl r_ => r_
    | .inr () => if gridIn c.Map c.Door = true then (if gridWall c.Map c.Lair = true then false else if (c.Abilities.length : Int) > 64 then false else if (c.Auras.length : Int) > 64 then false else if (c.Foes.length : Int) > 64 then false else (let c_178 := stays09_J178 c; if small09 = true then (if right9 c_178 = true then (!((getF c_178 0).2)) else false) else false)) else false)) else (small09)) else (small09)
theorem stays09_ok (c : GContent) : Ok Try.prog 4 [aGContent c] [] (B (stays09 c)) [] [] := by
 refine Ok.len fun hlen => ?_
 have hl_c_Abilities : c.Abilities.length ≤ maxLen := hlen _ (by simp [lensL, lens, lensP])
 have hl_c_Auras : c.Auras.length ≤ maxLen := hlen _ (by simp [lensL, lens, lensP])
 have hl_c_Foes : c.Foes.length ≤ maxLen := hlen _ (by simp [lensL, lens, lensP])
 have hl_c_Map_Wall : c.Map.Wall.length ≤ maxLen := hlen _ (by simp [lensL, lens, lensP])
 unfold maxLen at hl_c_Abilities hl_c_Auras hl_c_Foes hl_c_Map_Wall
 refine ok_of_sem Try.func4 rfl ?_
 show Walks Try.prog _ _ ⟨[(0, aGContent c)], [], 0, [], 204, 0⟩
 refine sem_seq ?_
 refine sem_region rfl ?_
 refine step_n (o := .box [_, _, _, _, _, _, _, _, _, _]) (nx' := 1) rfl rfl rfl trivial ?_
 refine step_r rfl rfl trivial ?_
 refine step_nil ?_
 refine seqK_n ?_
 refine sem_seq ?_
 refine sem_region rfl ?_
 refine step_call rfl rfl rfl rfl (small09_ok ) rfl rfl rfl ?_
 refine step_r rfl rfl trivial ?_
 refine step_nil ?_
 refine seqK_n ?_
 refine sem_seq ?_
 refine sem_region rfl ?_
 refine step_r (v := (.agg [_, _, _, _, _, _, _, _, _, _])) rfl rfl (Nat.le_of_ble_eq_true rfl) ?_
 refine step_call rfl rfl rfl rfl (few9_ok c) rfl rfl rfl ?_
 refine step_r rfl rfl trivial ?_
 refine step_nil ?_
 refine seqK_n ?_
 refine sem_seq ?_
 refine sem_seq ?_
 refine sem_region rfl ?_
 refine step_r rfl rfl trivial ?_
 refine step_r rfl rfl trivial ?_
 refine step_r rfl rfl trivial ?_
 refine step_gs rfl (fun h4 => ?_) (fun h4 => ?_)
 ·have g4 : ¬ (few9 c = true) := boo_f (not_t h4)
  refine step_g0 rfl h4 rfl ?_
  refine step_g0 rfl h4 rfl ?_
  refine step_g0 rfl h4 rfl ?_
  refine step_pickT rfl h4 rfl rfl ?_
  refine step_nil ?_
  refine seqK_n ?_
  refine sem_condT rfl ?_
  refine sem_seq ?_
  refine sem_region rfl ?_
  refine step_r rfl rfl trivial ?_
  refine step_r rfl rfl trivial ?_
  refine step_nil ?_
  refine seqK_n ?_
  refine sem_ret ?_
  refine seqK_r ?_
  have e5 : stays09 c = (small09) := by
   unfold stays09
   try dsimp only
   rewrite [if_neg g4]
   all_goals rfl
  rw [e5]
  exact answersR rfl ⟨trivial, trivial⟩ (rfl) rfl
 ·have g4 : few9 c = true := (not_f h4)
  have qg4 := few_of g4
  refine step_g1 rfl h4 ?_
  refine step_r (v := (.agg [_, _, _, _, _, _, _, _, _, _])) rfl rfl (Nat.le_of_ble_eq_true rfl) ?_
  refine step_g1 rfl h4 ?_
  refine step_call rfl rfl rfl rfl (right9_ok c (by first | assumption | exact few_small (by decide +kernel) | exact few_cut (by assumption) | grind)) rfl rfl rfl ?_
  refine step_g1 rfl h4 ?_
  refine step_r rfl rfl trivial ?_
  refine step_pickF rfl h4 rfl rfl ?_
  refine step_nil ?_
  refine seqK_n ?_
  refine sem_cond rfl (fun h7 => ?_) (fun h7 => ?_)
  ·have g7 : ¬ (right9 c = true) := boo_f (not_t h7)
   refine sem_seq ?_
   refine sem_region rfl ?_
   refine step_r rfl rfl trivial ?_
   refine step_r rfl rfl trivial ?_
   refine step_nil ?_
   refine seqK_n ?_
   refine sem_ret ?_
   refine seqK_r ?_
   have e8 : stays09 c = (small09) := by
    unfold stays09
    try dsimp only
    rewrite [if_pos g4, if_neg g7]
    all_goals rfl
   rw [e8]
   exact answersR rfl ⟨trivial, trivial⟩ (rfl) rfl
  ·have g7 : right9 c = true := (not_f h7)
   refine sem_skip ?_
   refine seqK_n ?_
   refine sem_seq ?_
   refine sem_seq ?_
   refine sem_region rfl ?_
   refine step_r rfl rfl trivial ?_
   refine step_nil ?_
   refine seqK_n ?_
   refine sem_cutW (fun w_ : Unit => match w_ with | () => (⟨[(1, .ptr 0 0), (3, B (small09))], [(0, .box [.pv (.slc c.Abilities.length false (c.Abilities.flatMap encGAbility)), .pv (.slc c.Auras.length false (c.Auras.flatMap encGAura)), .pv (.slc c.Foes.length false (c.Foes.flatMap encGFoe)), I c.Map.W, I c.Map.H, .pv (.slc c.Map.Wall.length false (encB c.Map.Wall)), I c.Door.X, I c.Door.Y, I c.Lair.X, I c.Lair.Y])], 1, [], 204, 0⟩ : St)) (fun w_ => stays09_L0 c c.Abilities 0 = .inr w_) ?_ ?_
   ·refine sem_block ?_
    refine sem_loopT (fun k0 : Nat => (⟨[(1, .ptr 0 0), (3, B (small09)), (5, I k0)], [(0, .box [.pv (.slc c.Abilities.length false (c.Abilities.flatMap encGAbility)), .pv (.slc c.Auras.length false (c.Auras.flatMap encGAura)), .pv (.slc c.Foes.length false (c.Foes.flatMap encGFoe)), I c.Map.W, I c.Map.H, .pv (.slc c.Map.Wall.length false (encB c.Map.Wall)), I c.Door.X, I c.Door.Y, I c.Lair.X, I c.Lair.Y])], 1, [], 204, 0⟩ : St)) (fun k0 : Nat => stays09_L0 c (c.Abilities.drop k0) k0 = stays09_L0 c c.Abilities 0 ∧ k0 ≤ c.Abilities.length) (fun k0 : Nat => c.Abilities.length - k0) 0 (⟨rfl, Nat.zero_le _⟩) ?_ (fun k0 hh_ => ?_)
    ·exact (Trans.ren [] (by decide +kernel) (by decide +kernel) rfl ⟨⟨rfl, rfl⟩, ⟨rfl, rfl⟩, ⟨rfl, rfl⟩, trivial⟩ ⟨⟨rfl, rfl, rfl⟩, trivial⟩ (by decide))
    obtain ⟨hI0, hb0⟩ := hh_
    show Walks Try.prog _ _ (⟨[(1, .ptr 0 0), (3, B (small09)), (5, I k0)], [(0, .box [.pv (.slc c.Abilities.length false (c.Abilities.flatMap encGAbility)), .pv (.slc c.Auras.length false (c.Auras.flatMap encGAura)), .pv (.slc c.Foes.length false (c.Foes.flatMap encGFoe)), I c.Map.W, I c.Map.H, .pv (.slc c.Map.Wall.length false (encB c.Map.Wall)), I c.Door.X, I c.Door.Y, I c.Lair.X, I c.Lair.Y])], 1, [], 204, 0⟩ : St)
    refine sem_seq ?_
    refine sem_seq ?_
    refine sem_region rfl ?_
    refine step_r rfl rfl trivial ?_
    refine step_r rfl rfl (by decide) ?_
    refine step_r rfl rfl trivial ?_
    refine step_r rfl rfl trivial ?_
    refine step_bin rfl rfl rfl rfl rfl trivial ?_
    refine step_nil ?_
    refine seqK_n ?_
    refine sem_cond rfl (fun h11 => ?_) (fun h11 => ?_)
    ·have g11 : (k0 : Int) < c.Abilities.length := of_decide_eq_true h11
     have hk0 : k0 < c.Abilities.length := by omega
     obtain ⟨x0, hx0⟩ : ∃ z_, c.Abilities[k0]? = some z_ := ⟨_, List.getElem?_eq_getElem hk0⟩
     refine sem_skip ?_
     refine seqK_n ?_
     refine sem_seq ?_
     refine sem_block ?_
     refine sem_seq ?_
     refine sem_drawnE [(12, 10)] rfl (by decide +kernel) (by decide +kernel) rfl ?_
     refine step_r (v := (.agg [_, _, _, _, _, _, _, _, _, _])) rfl rfl (Nat.le_of_ble_eq_true rfl) ?_
     refine step_r rfl rfl (by decide) ?_
     refine step_r rfl rfl trivial ?_
     refine step_r rfl rfl trivial ?_
     refine step_idxS (k := k0) rfl rfl rfl rfl hk0 (flat_ne (s := 8) (enc := encGAbility) (fun _ => rfl) (by decide) hk0) rfl ?_
     refine step_r rfl rfl (by decide) ?_
     refine step_load_one rfl rfl rfl (flat_get (s := 8) (enc := encGAbility) (fun _ => rfl) hx0 (o := 0) rfl (by decide)) rfl ?_
     refine step_call rfl rfl rfl rfl (getA_ok c x0.Id (by first | assumption | exact few_small (by decide +kernel) | exact few_cut (by assumption) | grind)) rfl rfl rfl ?_
     have p12 := getA_len (show Few9 c by first | assumption | exact few_small (by decide +kernel)) x0.Id
     refine step_r rfl rfl trivial ?_
     refine step_r rfl rfl trivial ?_
     refine step_r rfl rfl trivial ?_
     refine step_n (o := .box [_, _, _, _, _, _, _, _]) (nx' := 2) rfl rfl rfl trivial ?_
     refine step_store (H' := [(1, .box [_, _, _, _, _, _, _, _]), (0, .box [_, _, _, _, _, _, _, _, _, _])]) rfl rfl rfl rfl rfl rfl (Nat.le_of_ble_eq_true rfl) (.inr (by decide +kernel)) rfl ?_
     refine step_r rfl rfl trivial ?_
     refine step_nil ?_
     refine seqK_n ?_
     refine sem_seq ?_
     refine sem_seq ?_
     refine sem_drawn rfl (by decide +kernel) rfl ?_
     refine step_r rfl rfl trivial ?_
     refine step_r rfl rfl trivial ?_
     refine step_r rfl rfl trivial ?_
     refine step_gs rfl (fun h15 => ?_) (fun h15 => ?_)
     ·have g15 : ¬ ((getA c x0.Id).2 = true) := boo_f (not_t h15)
      refine step_g0 rfl h15 rfl ?_
      refine step_g0 rfl h15 rfl ?_
      refine step_g0 rfl h15 rfl ?_
      refine step_g0 rfl h15 rfl ?_
      refine step_g0 rfl h15 rfl ?_
      refine step_g0 rfl h15 rfl ?_
      refine step_g0 rfl h15 rfl ?_
      refine step_g0 rfl h15 rfl ?_
      refine step_pickT rfl h15 rfl rfl ?_
      refine step_r rfl rfl trivial ?_
      refine step_gf rfl rfl ?_
      refine step_gf rfl rfl ?_
      refine step_gf rfl rfl ?_
      refine step_r rfl rfl trivial ?_
      refine step_r rfl rfl trivial ?_
      refine step_gf rfl rfl ?_
      refine step_gf rfl rfl ?_
      refine step_gf rfl rfl ?_
      refine step_r rfl rfl trivial ?_
      refine step_r rfl rfl trivial ?_
      refine step_gf rfl rfl ?_
      refine step_gf rfl rfl ?_
      refine step_gf rfl rfl ?_
      refine step_r rfl rfl trivial ?_
      refine step_r rfl rfl trivial ?_
      refine step_gf rfl rfl ?_
      refine step_gf rfl rfl ?_
      refine step_gf rfl rfl ?_
      refine step_gf rfl rfl ?_
      refine step_r rfl rfl trivial ?_
      refine step_nil ?_
      refine seqK_n ?_
      refine sem_condT rfl ?_
      refine sem_seq ?_
      refine sem_region rfl ?_
      refine step_r rfl rfl trivial ?_
      refine step_nil ?_
      refine seqK_n ?_
      refine sem_ret ?_
      refine seqK_r ?_
      refine blkK_r ?_
      refine seqK_r ?_
      refine lupK_r ?_
      refine blkK_r ?_
      refine cutW_r ?_
      refine seqK_r ?_
      have e16 : stays09_L0 c c.Abilities 0 = .inl false := by
       rewrite [← hI0, drop_cons hx0]
       rewrite [stays09_L0]
       try dsimp only
       rewrite [if_neg g15]
       all_goals rfl
      have e17 : stays09 c = false := by
       unfold stays09
       try dsimp only
       rewrite [if_pos g4, if_pos g7, e16]
       try dsimp only
       all_goals rfl
      rw [e17]
      exact answersR rfl ⟨trivial, trivial⟩ (rfl) rfl
     ·have g15 : (getA c x0.Id).2 = true := (not_f h15)
      refine step_g1 rfl h15 ?_
      refine step_r (v := (.agg [_, _, _, _, _, _, _, _])) rfl rfl (Nat.le_of_ble_eq_true rfl) ?_
      refine step_g1 rfl h15 ?_
      refine step_r rfl rfl (by decide) ?_
      refine step_g1 rfl h15 ?_
      refine step_r rfl rfl trivial ?_
      refine step_g1 rfl h15 ?_
      refine step_r rfl rfl trivial ?_
      refine step_g1 rfl h15 ?_
      refine step_idxS (k := k0) rfl rfl rfl rfl hk0 (flat_ne (s := 8) (enc := encGAbility) (fun _ => rfl) (by decide) hk0) rfl ?_
      refine step_g1 rfl h15 ?_
      refine step_load_row rfl rfl rfl (flat_lt (s := 8) (enc := encGAbility) (fun _ => rfl) hk0) (flat_take (s := 8) (enc := encGAbility) (fun _ => rfl) hx0) rfl ?_
      refine step_g1 rfl h15 ?_
      refine step_call rfl rfl rfl rfl (sameAR_ok ((getA c x0.Id).1) x0) rfl rfl rfl ?_
      refine step_g1 rfl h15 ?_
      refine step_r rfl rfl trivial ?_
      refine step_pickF rfl h15 rfl rfl ?_
      refine step_r rfl rfl trivial ?_
      refine step_gs rfl (fun h19 => ?_) (fun h19 => ?_)
      ·have g19 : ¬ (sameAR ((getA c x0.Id).1) x0 = true) := boo_f (not_t h19)
       refine step_g0 rfl h19 rfl ?_
       refine step_g0 rfl h19 rfl ?_
       refine step_g0 rfl h19 rfl ?_
       refine step_pickT rfl h19 rfl rfl ?_
       refine step_r rfl rfl trivial ?_
       refine step_gf rfl rfl ?_
       refine step_gf rfl rfl ?_
       refine step_gf rfl rfl ?_
       refine step_r rfl rfl trivial ?_
       refine step_r rfl rfl trivial ?_
       refine step_gf rfl rfl ?_
       refine step_gf rfl rfl ?_
       refine step_gf rfl rfl ?_
       refine step_r rfl rfl trivial ?_
       refine step_r rfl rfl trivial ?_
       refine step_gf rfl rfl ?_
       refine step_gf rfl rfl ?_
       refine step_gf rfl rfl ?_
       refine step_gf rfl rfl ?_
       refine step_r rfl rfl trivial ?_
       refine step_nil ?_
       refine seqK_n ?_
       refine sem_condT rfl ?_
       refine sem_seq ?_
       refine sem_region rfl ?_
       refine step_r rfl rfl trivial ?_
       refine step_nil ?_
       refine seqK_n ?_
       refine sem_ret ?_
       refine seqK_r ?_
       refine blkK_r ?_
       refine seqK_r ?_
       refine lupK_r ?_
       refine blkK_r ?_
       refine cutW_r ?_
       refine seqK_r ?_
       have e20 : stays09_L0 c c.Abilities 0 = .inl false := by
        rewrite [← hI0, drop_cons hx0]
        rewrite [stays09_L0]
        try dsimp only
        rewrite [if_pos g15, if_neg g19]
        all_goals rfl
       have e21 : stays09 c = false := by
        unfold stays09
        try dsimp only
        rewrite [if_pos g4, if_pos g7, e20]
        try dsimp only
        all_goals rfl
       rw [e21]
       exact answersR rfl ⟨trivial, trivial⟩ (rfl) rfl
      ·have g19 : sameAR ((getA c x0.Id).1) x0 = true := (not_f h19)
       refine step_g1 rfl h19 ?_
       refine step_r rfl rfl (by decide) ?_
       refine step_g1 rfl h19 ?_
       refine step_r rfl rfl trivial ?_
       refine step_g1 rfl h19 ?_
       refine step_bin rfl rfl rfl rfl rfl trivial ?_
       refine step_pickF rfl h19 rfl rfl ?_
       refine step_r rfl rfl trivial ?_
       refine step_gs rfl (fun h23 => ?_) (fun h23 => ?_)
       ·have g23 : (((getA c x0.Id).1).Cast : Int) < 0 := of_decide_eq_true h23
        refine step_g0 rfl h23 rfl ?_
        refine step_g0 rfl h23 rfl ?_
        refine step_g0 rfl h23 rfl ?_
        refine step_pickT rfl h23 rfl rfl ?_
        refine step_r rfl rfl trivial ?_
        refine step_gf rfl rfl ?_
        refine step_gf rfl rfl ?_
        refine step_gf rfl rfl ?_
        refine step_r rfl rfl trivial ?_
        refine step_r rfl rfl trivial ?_
        refine step_gf rfl rfl ?_
        refine step_gf rfl rfl ?_
        refine step_gf rfl rfl ?_
        refine step_gf rfl rfl ?_
        refine step_r rfl rfl trivial ?_
        refine step_nil ?_
        refine seqK_n ?_
        refine sem_condT rfl ?_
        refine sem_seq ?_
        refine sem_region rfl ?_
        refine step_r rfl rfl trivial ?_
        refine step_nil ?_
        refine seqK_n ?_
        refine sem_ret ?_
        refine seqK_r ?_
        refine blkK_r ?_
        refine seqK_r ?_
        refine lupK_r ?_
        refine blkK_r ?_
        refine cutW_r ?_
        refine seqK_r ?_
        have e24 : stays09_L0 c c.Abilities 0 = .inl false := by
         rewrite [← hI0, drop_cons hx0]
         rewrite [stays09_L0]
         try dsimp only
         rewrite [if_pos g15, if_pos g19, if_pos g23]
         all_goals rfl
        have e25 : stays09 c = false := by
         unfold stays09
         try dsimp only
         rewrite [if_pos g4, if_pos g7, e24]
         try dsimp only
         all_goals rfl
        rw [e25]
        exact answersR rfl ⟨trivial, trivial⟩ (rfl) rfl
       ·have g23 : ¬ ((((getA c x0.Id).1).Cast : Int) < 0) := of_decide_eq_false h23
        refine step_g1 rfl h23 ?_
        refine step_r rfl rfl (by decide) ?_
        refine step_g1 rfl h23 ?_
        refine step_r rfl rfl trivial ?_
        refine step_g1 rfl h23 ?_
        refine step_bin rfl rfl rfl rfl rfl trivial ?_
        refine step_pickF rfl h23 rfl rfl ?_
        refine step_r rfl rfl trivial ?_
        refine step_gs rfl (fun h27 => ?_) (fun h27 => ?_)
        ·have g27 : (((getA c x0.Id).1).Cast : Int) > 1000000 := of_decide_eq_true h27
         refine step_g0 rfl h27 rfl ?_
         refine step_g0 rfl h27 rfl ?_
         refine step_g0 rfl h27 rfl ?_
         refine step_pickT rfl h27 rfl rfl ?_
         refine step_r rfl rfl trivial ?_
         refine step_gf rfl rfl ?_
         refine step_gf rfl rfl ?_
         refine step_gf rfl rfl ?_
         refine step_gf rfl rfl ?_
         refine step_r rfl rfl trivial ?_
         refine step_nil ?_
         refine seqK_n ?_
         refine sem_condT rfl ?_
         refine sem_seq ?_
         refine sem_region rfl ?_
         refine step_r rfl rfl trivial ?_
         refine step_nil ?_
         refine seqK_n ?_
         refine sem_ret ?_
         refine seqK_r ?_
         refine blkK_r ?_
         refine seqK_r ?_
         refine lupK_r ?_
         refine blkK_r ?_
         refine cutW_r ?_
         refine seqK_r ?_
         have e28 : stays09_L0 c c.Abilities 0 = .inl false := by
          rewrite [← hI0, drop_cons hx0]
          rewrite [stays09_L0]
          try dsimp only
          rewrite [if_pos g15, if_pos g19, if_neg g23, if_pos g27]
          all_goals rfl
         have e29 : stays09 c = false := by
          unfold stays09
          try dsimp only
          rewrite [if_pos g4, if_pos g7, e28]
          try dsimp only
          all_goals rfl
         rw [e29]
         exact answersR rfl ⟨trivial, trivial⟩ (rfl) rfl
        ·have g27 : ¬ ((((getA c x0.Id).1).Cast : Int) > 1000000) := of_decide_eq_false h27
         refine step_g1 rfl h27 ?_
         refine step_r rfl rfl (by decide) ?_
         refine step_g1 rfl h27 ?_
         refine step_r rfl rfl trivial ?_
         refine step_g1 rfl h27 ?_
         refine step_bin rfl rfl rfl rfl rfl trivial ?_
         refine step_pickF rfl h27 rfl rfl ?_
         refine step_r rfl rfl trivial ?_
         refine step_gs rfl (fun h31 => ?_) (fun h31 => ?_)
         ·have g31 : (((getA c x0.Id).1).Charges : Int) < 1 := of_decide_eq_true h31
          refine step_g0 rfl h31 rfl ?_
          refine step_g0 rfl h31 rfl ?_
          refine step_g0 rfl h31 rfl ?_
          refine step_g0 rfl h31 rfl ?_
          refine step_pickT rfl h31 rfl rfl ?_
          refine step_nil ?_
          refine seqK_n ?_
          refine sem_condT rfl ?_
          refine sem_seq ?_
          refine sem_region rfl ?_
          refine step_r rfl rfl trivial ?_
          refine step_nil ?_
          refine seqK_n ?_
          refine sem_ret ?_
          refine seqK_r ?_
          refine blkK_r ?_
          refine seqK_r ?_
          refine lupK_r ?_
          refine blkK_r ?_
          refine cutW_r ?_
          refine seqK_r ?_
          have e32 : stays09_L0 c c.Abilities 0 = .inl false := by
           rewrite [← hI0, drop_cons hx0]
           rewrite [stays09_L0]
           try dsimp only
           rewrite [if_pos g15, if_pos g19, if_neg g23, if_neg g27, if_pos g31]
           all_goals rfl
          have e33 : stays09 c = false := by
           unfold stays09
           try dsimp only
           rewrite [if_pos g4, if_pos g7, e32]
           try dsimp only
           all_goals rfl
          rw [e33]
          exact answersR rfl ⟨trivial, trivial⟩ (rfl) rfl
         ·have g31 : ¬ ((((getA c x0.Id).1).Charges : Int) < 1) := of_decide_eq_false h31
          refine step_g1 rfl h31 ?_
          refine step_r rfl rfl (by decide) ?_
          refine step_g1 rfl h31 ?_
          refine step_r rfl rfl trivial ?_
          refine step_g1 rfl h31 ?_
          refine step_r rfl rfl trivial ?_
          refine step_g1 rfl h31 ?_
          refine step_bin rfl rfl rfl rfl rfl trivial ?_
          refine step_pickF rfl h31 rfl rfl ?_
          refine step_nil ?_
          refine seqK_n ?_
          refine sem_cond rfl (fun h35 => ?_) (fun h35 => ?_)
          ·have g35 : (((getA c x0.Id).1).Effects.length : Int) < 1 := of_decide_eq_true h35
           refine sem_seq ?_
           refine sem_region rfl ?_
           refine step_r rfl rfl trivial ?_
           refine step_nil ?_
           refine seqK_n ?_
           refine sem_ret ?_
           refine seqK_r ?_
           refine blkK_r ?_
           refine seqK_r ?_
           refine lupK_r ?_
           refine blkK_r ?_
           refine cutW_r ?_
           refine seqK_r ?_
           have e36 : stays09_L0 c c.Abilities 0 = .inl false := by
            rewrite [← hI0, drop_cons hx0]
            rewrite [stays09_L0]
            try dsimp only
            rewrite [if_pos g15, if_pos g19, if_neg g23, if_neg g27, if_neg g31, if_pos g35]
            all_goals rfl
           have e37 : stays09 c = false := by
            unfold stays09
            try dsimp only
            rewrite [if_pos g4, if_pos g7, e36]
            try dsimp only
            all_goals rfl
           rw [e37]
           exact answersR rfl ⟨trivial, trivial⟩ (rfl) rfl
          ·have g35 : ¬ ((((getA c x0.Id).1).Effects.length : Int) < 1) := of_decide_eq_false h35
           refine sem_skip ?_
           refine seqK_n ?_
           refine sem_seq ?_
           refine sem_region rfl ?_
           refine step_r rfl rfl trivial ?_
           refine step_nil ?_
           refine seqK_n ?_
           refine sem_cutW (fun w_ : Unit => match w_ with | () => (⟨[(1, .ptr 0 0), (3, B (small09)), (5, I k0)], [(0, .box [.pv (.slc c.Abilities.length false (c.Abilities.flatMap encGAbility)), .pv (.slc c.Auras.length false (c.Auras.flatMap encGAura)), .pv (.slc c.Foes.length false (c.Foes.flatMap encGFoe)), I c.Map.W, I c.Map.H, .pv (.slc c.Map.Wall.length false (encB c.Map.Wall)), I c.Door.X, I c.Door.Y, I c.Lair.X, I c.Lair.Y])], 1, [], 204, 0⟩ : St)) (fun w_ => stays09_L1 c (((getA c x0.Id).1).Effects) 0 = .inr w_) ?_ ?_
           ·refine sem_block ?_
            refine sem_loopT (fun k1 : Nat => (⟨[(1, .ptr 0 0), (3, B (small09)), (5, I k0), (6, .ptr 1 0), (8, I k1)], [(0, .box [.pv (.slc c.Abilities.length false (c.Abilities.flatMap encGAbility)), .pv (.slc c.Auras.length false (c.Auras.flatMap encGAura)), .pv (.slc c.Foes.length false (c.Foes.flatMap encGFoe)), I c.Map.W, I c.Map.H, .pv (.slc c.Map.Wall.length false (encB c.Map.Wall)), I c.Door.X, I c.Door.Y, I c.Lair.X, I c.Lair.Y]), (1, .box [I ((getA c x0.Id).1).Id, I ((getA c x0.Id).1).Cast, I ((getA c x0.Id).1).Cool, I ((getA c x0.Id).1).Charges, I ((getA c x0.Id).1).Range, I ((getA c x0.Id).1).Cost, B ((getA c x0.Id).1).Sight, .pv (.slc ((getA c x0.Id).1).Effects.length false (((getA c x0.Id).1).Effects.flatMap encGEffect))])], 2, [], 204, 0⟩ : St)) (fun k1 : Nat => stays09_L1 c ((((getA c x0.Id).1).Effects).drop k1) k1 = stays09_L1 c (((getA c x0.Id).1).Effects) 0 ∧ k1 ≤ (((getA c x0.Id).1).Effects).length) (fun k1 : Nat => (((getA c x0.Id).1).Effects).length - k1) 0 (⟨rfl, Nat.zero_le _⟩) ?_ (fun k1 hh_ => ?_)
            ·exact (Trans.ren [] (by decide +kernel) (by decide +kernel) rfl ⟨⟨rfl, rfl⟩, ⟨rfl, rfl⟩, ⟨rfl, rfl⟩, ⟨rfl, rfl⟩, ⟨rfl, rfl⟩, trivial⟩ ⟨⟨rfl, rfl, rfl⟩, ⟨rfl, rfl, rfl⟩, trivial⟩ (by decide))
            obtain ⟨hI1, hb1⟩ := hh_
            show Walks Try.prog _ _ (⟨[(1, .ptr 0 0), (3, B (small09)), (5, I k0), (6, .ptr 1 0), (8, I k1)], [(0, .box [.pv (.slc c.Abilities.length false (c.Abilities.flatMap encGAbility)), .pv (.slc c.Auras.length false (c.Auras.flatMap encGAura)), .pv (.slc c.Foes.length false (c.Foes.flatMap encGFoe)), I c.Map.W, I c.Map.H, .pv (.slc c.Map.Wall.length false (encB c.Map.Wall)), I c.Door.X, I c.Door.Y, I c.Lair.X, I c.Lair.Y]), (1, .box [I ((getA c x0.Id).1).Id, I ((getA c x0.Id).1).Cast, I ((getA c x0.Id).1).Cool, I ((getA c x0.Id).1).Charges, I ((getA c x0.Id).1).Range, I ((getA c x0.Id).1).Cost, B ((getA c x0.Id).1).Sight, .pv (.slc ((getA c x0.Id).1).Effects.length false (((getA c x0.Id).1).Effects.flatMap encGEffect))])], 2, [], 204, 0⟩ : St)
            refine sem_seq ?_
            refine sem_seq ?_
            refine sem_region rfl ?_
            refine step_r rfl rfl trivial ?_
            refine step_r rfl rfl (by decide) ?_
            refine step_r rfl rfl trivial ?_
            refine step_r rfl rfl trivial ?_
            refine step_bin rfl rfl rfl rfl rfl trivial ?_
            refine step_nil ?_
            refine seqK_n ?_
            refine sem_cond rfl (fun h40 => ?_) (fun h40 => ?_)
            ·have g40 : (k1 : Int) < (((getA c x0.Id).1).Effects.length) := of_decide_eq_true h40
             have hk1 : k1 < (((getA c x0.Id).1).Effects).length := by omega
             obtain ⟨x1, hx1⟩ : ∃ z_, (((getA c x0.Id).1).Effects)[k1]? = some z_ := ⟨_, List.getElem?_eq_getElem hk1⟩
             refine sem_skip ?_
             refine seqK_n ?_
             refine sem_seq ?_
             refine sem_block ?_
             refine sem_seq ?_
             refine sem_drawnE [(12, 10)] rfl (by decide +kernel) (by decide +kernel) rfl ?_
             refine step_r (v := (.agg [_, _, _, _, _, _, _, _, _, _])) rfl rfl (Nat.le_of_ble_eq_true rfl) ?_
             refine step_r rfl rfl (by decide) ?_
             refine step_r rfl rfl trivial ?_
             refine step_r rfl rfl trivial ?_
             refine step_idxS (k := k1) rfl rfl rfl rfl hk1 (flat_ne (s := 3) (enc := encGEffect) (fun _ => rfl) (by decide) hk1) rfl ?_
             refine step_r rfl rfl (by decide) ?_
             refine step_load_one rfl rfl rfl (flat_get (s := 3) (enc := encGEffect) (fun _ => rfl) hx1 (o := 2) rfl (by decide)) rfl ?_
             refine step_call rfl rfl rfl rfl (getU_ok c x1.Aura) rfl rfl rfl ?_
             refine step_r rfl rfl trivial ?_
             refine step_r rfl rfl trivial ?_
             refine step_r rfl rfl trivial ?_
             refine step_n (o := .box [_, _, _, _, _, _, _]) (nx' := 3) rfl rfl rfl trivial ?_
             refine step_store (H' := [(2, .box [_, _, _, _, _, _, _]), (0, .box [_, _, _, _, _, _, _, _, _, _]), (1, .box [_, _, _, _, _, _, _, _])]) rfl rfl rfl rfl rfl rfl (Nat.le_of_ble_eq_true rfl) (.inr (by decide +kernel)) rfl ?_
             refine step_r rfl rfl trivial ?_
             refine step_nil ?_
             refine seqK_n ?_
             refine sem_seq ?_
             refine sem_region rfl ?_
             refine step_r rfl rfl (by decide) ?_
             refine step_r rfl rfl trivial ?_
             refine step_r rfl rfl trivial ?_
             refine step_idxS (k := k1) rfl rfl rfl rfl hk1 (flat_ne (s := 3) (enc := encGEffect) (fun _ => rfl) (by decide) hk1) rfl ?_
             refine step_r rfl rfl (by decide) ?_
             refine step_load_one rfl rfl rfl (flat_get (s := 3) (enc := encGEffect) (fun _ => rfl) hx1 (o := 0) rfl (by decide)) rfl ?_
             refine step_bin rfl rfl rfl rfl rfl trivial ?_
             refine step_r rfl rfl trivial ?_
             refine step_gs rfl (fun h43 => ?_) (fun h43 => ?_)
             ·have g43 : (x1.Kind : Int) = 4 := beq_t h43
              refine step_g1 rfl h43 ?_
              refine step_r rfl rfl trivial ?_
              refine step_g1 rfl h43 ?_
              refine step_r rfl rfl trivial ?_
              refine step_pickT rfl h43 rfl rfl ?_
              refine step_nil ?_
              refine seqK_n ?_
              refine sem_cond rfl (fun h45 => ?_) (fun h45 => ?_)
              ·have g45 : ¬ ((getU c x1.Aura).2 = true) := boo_f (not_t h45)
               refine sem_seq ?_
               refine sem_region rfl ?_
               refine step_r rfl rfl trivial ?_
               refine step_nil ?_
               refine seqK_n ?_
               refine sem_ret ?_
               refine blkK_r ?_
               refine seqK_r ?_
               refine lupK_r ?_
               refine blkK_r ?_
               refine cutW_r ?_
               refine blkK_r ?_
               refine seqK_r ?_
               refine lupK_r ?_
               refine blkK_r ?_
               refine cutW_r ?_
               refine seqK_r ?_
               have e46 : stays09_L1 c (((getA c x0.Id).1).Effects) 0 = .inl false := by
                rewrite [← hI1, drop_cons hx1]
                rewrite [stays09_L1]
                try dsimp only
                rewrite [if_pos g43, if_neg g45]
                all_goals rfl
               have e47 : stays09_L0 c c.Abilities 0 = .inl false := by
                rewrite [← hI0, drop_cons hx0]
                rewrite [stays09_L0]
                try dsimp only
                rewrite [if_pos g15, if_pos g19, if_neg g23, if_neg g27, if_neg g31, if_neg g35, e46]
                try dsimp only
                all_goals rfl
               have e48 : stays09 c = false := by
                unfold stays09
                try dsimp only
                rewrite [if_pos g4, if_pos g7, e47]
                try dsimp only
                all_goals rfl
               rw [e48]
               exact answersR rfl ⟨trivial, trivial⟩ (rfl) rfl
              ·have g45 : (getU c x1.Aura).2 = true := (not_f h45)
               refine sem_skip ?_
               refine blkK_n ?_
               refine seqK_n ?_
               refine sem_region rfl ?_
               refine step_r rfl rfl trivial ?_
               refine step_bin rfl rfl rfl rfl rfl trivial ?_
               refine step_r rfl rfl trivial ?_
               refine step_nil ?_
               have e50 : stays09_L1 c ((((getA c x0.Id).1).Effects).drop k1) k1 = stays09_L1 c ((((getA c x0.Id).1).Effects).drop (k1 + 1)) (k1 + 1) := by
                rewrite [drop_cons hx1]
                rewrite [stays09_L1]
                try dsimp only
                rewrite [if_pos g43, if_pos g45]
                all_goals rfl
               exact lup_againT (k1 + 1) ⟨e50.symm.trans hI1, hk1⟩ (by show (((getA c x0.Id).1).Effects).length - (k1 + 1) < (((getA c x0.Id).1).Effects).length - k1; omega) (Trans.ren [] (by decide +kernel) (by decide +kernel) rfl ⟨⟨rfl, rfl⟩, ⟨rfl, rfl⟩, ⟨rfl, rfl⟩, ⟨rfl, rfl⟩, ⟨congrArg (fun n => some (I n)) (wrapI (k := k1) (by first | omega | (simp; omega))), rfl⟩, trivial⟩ ⟨⟨rfl, rfl, rfl⟩, ⟨rfl, rfl, rfl⟩, trivial⟩ (by decide))
             ·have g43 : ¬ ((x1.Kind : Int) = 4) := beq_f h43
              refine step_g0 rfl h43 rfl ?_
              refine step_g0 rfl h43 rfl ?_
              refine step_pickF rfl h43 rfl rfl ?_
              refine step_nil ?_
              refine seqK_n ?_
              refine sem_condF rfl ?_
              refine sem_skip ?_
              refine blkK_n ?_
              refine seqK_n ?_
              refine sem_region rfl ?_
              refine step_r rfl rfl trivial ?_
              refine step_bin rfl rfl rfl rfl rfl trivial ?_
              refine step_r rfl rfl trivial ?_
              refine step_nil ?_
              have e52 : stays09_L1 c ((((getA c x0.Id).1).Effects).drop k1) k1 = stays09_L1 c ((((getA c x0.Id).1).Effects).drop (k1 + 1)) (k1 + 1) := by
               rewrite [drop_cons hx1]
               rewrite [stays09_L1]
               try dsimp only
               rewrite [if_neg g43]
               all_goals rfl
              exact lup_againT (k1 + 1) ⟨e52.symm.trans hI1, hk1⟩ (by show (((getA c x0.Id).1).Effects).length - (k1 + 1) < (((getA c x0.Id).1).Effects).length - k1; omega) (Trans.ren [] (by decide +kernel) (by decide +kernel) rfl ⟨⟨rfl, rfl⟩, ⟨rfl, rfl⟩, ⟨rfl, rfl⟩, ⟨rfl, rfl⟩, ⟨congrArg (fun n => some (I n)) (wrapI (k := k1) (by first | omega | (simp; omega))), rfl⟩, trivial⟩ ⟨⟨rfl, rfl, rfl⟩, ⟨rfl, rfl, rfl⟩, trivial⟩ (by decide))
            ·have g40 : ¬ ((k1 : Int) < (((getA c x0.Id).1).Effects.length)) := of_decide_eq_false h40
             have hk1 : k1 = (((getA c x0.Id).1).Effects).length := by omega
             refine sem_exit ?_
             refine seqK_e ?_
             refine lupK_e ?_
             refine blkK_t rfl ?_
             have e53 : stays09_L1 c (((getA c x0.Id).1).Effects) 0 = .inr () := by
              rewrite [← hI1, hk1, List.drop_length]
              rewrite [stays09_L1]
              try dsimp only
              all_goals rfl
             exact cutW_n () e53 (Trans.ren [] (by decide +kernel) (by decide +kernel) rfl ⟨⟨rfl, rfl⟩, ⟨rfl, rfl⟩, ⟨rfl, rfl⟩, trivial⟩ ⟨⟨rfl, rfl, rfl⟩, trivial⟩ (by decide))
           ·rintro ⟨⟩ (hJ38 : stays09_L1 c (((getA c x0.Id).1).Effects) 0 = .inr ())
            show blkK _ _ .normal (⟨[(1, .ptr 0 0), (3, B (small09)), (5, I k0)], [(0, .box [.pv (.slc c.Abilities.length false (c.Abilities.flatMap encGAbility)), .pv (.slc c.Auras.length false (c.Auras.flatMap encGAura)), .pv (.slc c.Foes.length false (c.Foes.flatMap encGFoe)), I c.Map.W, I c.Map.H, .pv (.slc c.Map.Wall.length false (encB c.Map.Wall)), I c.Door.X, I c.Door.Y, I c.Lair.X, I c.Lair.Y])], 1, [], 204, 0⟩ : St)
            refine blkK_n ?_
            refine seqK_n ?_
            refine sem_region rfl ?_
            refine step_r rfl rfl trivial ?_
            refine step_bin rfl rfl rfl rfl rfl trivial ?_
            refine step_r rfl rfl trivial ?_
            refine step_nil ?_
            have e56 : stays09_L0 c (c.Abilities.drop k0) k0 = stays09_L0 c (c.Abilities.drop (k0 + 1)) (k0 + 1) := by
             rewrite [drop_cons hx0]
             rewrite [stays09_L0]
             try dsimp only
             rewrite [if_pos g15, if_pos g19, if_neg g23, if_neg g27, if_neg g31, if_neg g35, hJ38]
             try dsimp only
             all_goals rfl
            exact lup_againT (k0 + 1) ⟨e56.symm.trans hI0, hk0⟩ (by show c.Abilities.length - (k0 + 1) < c.Abilities.length - k0; omega) (Trans.ren [] (by decide +kernel) (by decide +kernel) rfl ⟨⟨rfl, rfl⟩, ⟨rfl, rfl⟩, ⟨congrArg (fun n => some (I n)) (wrapI (k := k0) (by first | omega | (simp; omega))), rfl⟩, trivial⟩ ⟨⟨rfl, rfl, rfl⟩, trivial⟩ (by decide))
    ·have g11 : ¬ ((k0 : Int) < c.Abilities.length) := of_decide_eq_false h11
     have hk0 : k0 = c.Abilities.length := by omega
     refine sem_exit ?_
     refine seqK_e ?_
     refine lupK_e ?_
     refine blkK_t rfl ?_
     have e57 : stays09_L0 c c.Abilities 0 = .inr () := by
      rewrite [← hI0, hk0, List.drop_length]
      rewrite [stays09_L0]
      try dsimp only
      all_goals rfl
     exact cutW_n () e57 (Trans.ren [] (by decide +kernel) (by decide +kernel) rfl ⟨⟨rfl, rfl⟩, ⟨rfl, rfl⟩, trivial⟩ ⟨⟨rfl, rfl, rfl⟩, trivial⟩ (by decide))
   ·rintro ⟨⟩ (hJ9 : stays09_L0 c c.Abilities 0 = .inr ())
    show seqK _ _ _ .normal (⟨[(1, .ptr 0 0), (3, B (small09))], [(0, .box [.pv (.slc c.Abilities.length false (c.Abilities.flatMap encGAbility)), .pv (.slc c.Auras.length false (c.Auras.flatMap encGAura)), .pv (.slc c.Foes.length false (c.Foes.flatMap encGFoe)), I c.Map.W, I c.Map.H, .pv (.slc c.Map.Wall.length false (encB c.Map.Wall)), I c.Door.X, I c.Door.Y, I c.Lair.X, I c.Lair.Y])], 1, [], 204, 0⟩ : St)
    refine seqK_n ?_
    refine sem_seq ?_
    refine sem_seq ?_
    refine sem_region rfl ?_
    refine step_r rfl rfl trivial ?_
    refine step_nil ?_
    refine seqK_n ?_
    refine sem_cutW (fun w_ : Unit => match w_ with | () => (⟨[(1, .ptr 0 0), (3, B (small09))], [(0, .box [.pv (.slc c.Abilities.length false (c.Abilities.flatMap encGAbility)), .pv (.slc c.Auras.length false (c.Auras.flatMap encGAura)), .pv (.slc c.Foes.length false (c.Foes.flatMap encGFoe)), I c.Map.W, I c.Map.H, .pv (.slc c.Map.Wall.length false (encB c.Map.Wall)), I c.Door.X, I c.Door.Y, I c.Lair.X, I c.Lair.Y])], 1, [], 204, 0⟩ : St)) (fun w_ => stays09_L2 c c.Foes 0 = .inr w_) ?_ ?_
    ·refine sem_block ?_
     refine sem_loopT (fun k2 : Nat => (⟨[(1, .ptr 0 0), (3, B (small09)), (11, I k2)], [(0, .box [.pv (.slc c.Abilities.length false (c.Abilities.flatMap encGAbility)), .pv (.slc c.Auras.length false (c.Auras.flatMap encGAura)), .pv (.slc c.Foes.length false (c.Foes.flatMap encGFoe)), I c.Map.W, I c.Map.H, .pv (.slc c.Map.Wall.length false (encB c.Map.Wall)), I c.Door.X, I c.Door.Y, I c.Lair.X, I c.Lair.Y])], 1, [], 204, 0⟩ : St)) (fun k2 : Nat => stays09_L2 c (c.Foes.drop k2) k2 = stays09_L2 c c.Foes 0 ∧ k2 ≤ c.Foes.length) (fun k2 : Nat => c.Foes.length - k2) 0 (⟨rfl, Nat.zero_le _⟩) ?_ (fun k2 hh_ => ?_)
     ·exact (Trans.ren [] (by decide +kernel) (by decide +kernel) rfl ⟨⟨rfl, rfl⟩, ⟨rfl, rfl⟩, ⟨rfl, rfl⟩, trivial⟩ ⟨⟨rfl, rfl, rfl⟩, trivial⟩ (by decide))
     obtain ⟨hI2, hb2⟩ := hh_
     show Walks Try.prog _ _ (⟨[(1, .ptr 0 0), (3, B (small09)), (11, I k2)], [(0, .box [.pv (.slc c.Abilities.length false (c.Abilities.flatMap encGAbility)), .pv (.slc c.Auras.length false (c.Auras.flatMap encGAura)), .pv (.slc c.Foes.length false (c.Foes.flatMap encGFoe)), I c.Map.W, I c.Map.H, .pv (.slc c.Map.Wall.length false (encB c.Map.Wall)), I c.Door.X, I c.Door.Y, I c.Lair.X, I c.Lair.Y])], 1, [], 204, 0⟩ : St)
     refine sem_seq ?_
     refine sem_seq ?_
     refine sem_region rfl ?_
     refine step_r rfl rfl trivial ?_
     refine step_r rfl rfl (by decide) ?_
     refine step_r rfl rfl trivial ?_
     refine step_r rfl rfl trivial ?_
     refine step_bin rfl rfl rfl rfl rfl trivial ?_
     refine step_nil ?_
     refine seqK_n ?_
     refine sem_cond rfl (fun h60 => ?_) (fun h60 => ?_)
     ·have g60 : (k2 : Int) < c.Foes.length := of_decide_eq_true h60
      have hk2 : k2 < c.Foes.length := by omega
      obtain ⟨x2, hx2⟩ : ∃ z_, c.Foes[k2]? = some z_ := ⟨_, List.getElem?_eq_getElem hk2⟩
      refine sem_skip ?_
      refine seqK_n ?_
      refine sem_seq ?_
      refine sem_block ?_
      refine sem_seq ?_
      refine sem_drawnE [(12, 10)] rfl (by decide +kernel) (by decide +kernel) rfl ?_
      refine step_r (v := (.agg [_, _, _, _, _, _, _, _, _, _])) rfl rfl (Nat.le_of_ble_eq_true rfl) ?_
      refine step_r rfl rfl (by decide) ?_
      refine step_r rfl rfl trivial ?_
      refine step_r rfl rfl trivial ?_
      refine step_idxS (k := k2) rfl rfl rfl rfl hk2 (flat_ne (s := 8) (enc := encGFoe) (fun _ => rfl) (by decide) hk2) rfl ?_
      refine step_r rfl rfl (by decide) ?_
      refine step_load_one rfl rfl rfl (flat_get (s := 8) (enc := encGFoe) (fun _ => rfl) hx2 (o := 0) rfl (by decide)) rfl ?_
      refine step_call rfl rfl rfl rfl (getF_ok c x2.Id (by first | assumption | exact few_small (by decide +kernel) | exact few_cut (by assumption) | grind)) rfl rfl rfl ?_
      refine step_r rfl rfl trivial ?_
      refine step_r rfl rfl trivial ?_
      refine step_r rfl rfl trivial ?_
      refine step_n (o := .box [_, _, _, _, _, _, _, _]) (nx' := 2) rfl rfl rfl trivial ?_
      refine step_store (H' := [(1, .box [_, _, _, _, _, _, _, _]), (0, .box [_, _, _, _, _, _, _, _, _, _])]) rfl rfl rfl rfl rfl rfl (Nat.le_of_ble_eq_true rfl) (.inr (by decide +kernel)) rfl ?_
      refine step_r rfl rfl trivial ?_
      refine step_nil ?_
      refine seqK_n ?_
      refine sem_seq ?_
      refine sem_drawn rfl (by decide +kernel) rfl ?_
      refine step_r rfl rfl trivial ?_
      refine step_r rfl rfl trivial ?_
      refine step_r rfl rfl trivial ?_
      refine step_gs rfl (fun h63 => ?_) (fun h63 => ?_)
      ·have g63 : ¬ ((getF c x2.Id).2 = true) := boo_f (not_t h63)
       refine step_g0 rfl h63 rfl ?_
       refine step_g0 rfl h63 rfl ?_
       refine step_g0 rfl h63 rfl ?_
       refine step_g0 rfl h63 rfl ?_
       refine step_g0 rfl h63 rfl ?_
       refine step_g0 rfl h63 rfl ?_
       refine step_g0 rfl h63 rfl ?_
       refine step_g0 rfl h63 rfl ?_
       refine step_pickT rfl h63 rfl rfl ?_
       refine step_r rfl rfl trivial ?_
       refine step_gf rfl rfl ?_
       refine step_gf rfl rfl ?_
       refine step_gf rfl rfl ?_
       refine step_r rfl rfl trivial ?_
       refine step_r rfl rfl trivial ?_
       refine step_gf rfl rfl ?_
       refine step_gf rfl rfl ?_
       refine step_gf rfl rfl ?_
       refine step_r rfl rfl trivial ?_
       refine step_nil ?_
       refine seqK_n ?_
       refine sem_condT rfl ?_
       refine sem_seq ?_
       refine sem_region rfl ?_
       refine step_r rfl rfl trivial ?_
       refine step_nil ?_
       refine seqK_n ?_
       refine sem_ret ?_
       refine blkK_r ?_
       refine seqK_r ?_
       refine lupK_r ?_
       refine blkK_r ?_
       refine cutW_r ?_
       refine seqK_r ?_
       have e64 : stays09_L2 c c.Foes 0 = .inl false := by
        rewrite [← hI2, drop_cons hx2]
        rewrite [stays09_L2]
        try dsimp only
        rewrite [if_neg g63]
        all_goals rfl
       have e65 : stays09 c = false := by
        unfold stays09
        try dsimp only
        rewrite [if_pos g4, if_pos g7, hJ9]
        try dsimp only
        rewrite [e64]
        try dsimp only
        all_goals rfl
       rw [e65]
       exact answersR rfl ⟨trivial, trivial⟩ (rfl) rfl
      ·have g63 : (getF c x2.Id).2 = true := (not_f h63)
       refine step_g1 rfl h63 ?_
       refine step_r (v := (.agg [_, _, _, _, _, _, _, _])) rfl rfl (Nat.le_of_ble_eq_true rfl) ?_
       refine step_g1 rfl h63 ?_
       refine step_r rfl rfl (by decide) ?_
       refine step_g1 rfl h63 ?_
       refine step_r rfl rfl trivial ?_
       refine step_g1 rfl h63 ?_
       refine step_r rfl rfl trivial ?_
       refine step_g1 rfl h63 ?_
       refine step_idxS (k := k2) rfl rfl rfl rfl hk2 (flat_ne (s := 8) (enc := encGFoe) (fun _ => rfl) (by decide) hk2) rfl ?_
       refine step_g1 rfl h63 ?_
       refine step_load_row rfl rfl rfl (flat_lt (s := 8) (enc := encGFoe) (fun _ => rfl) hk2) (flat_take (s := 8) (enc := encGFoe) (fun _ => rfl) hx2) rfl ?_
       refine step_g1 rfl h63 ?_
       refine step_call rfl rfl rfl rfl (sameFR_ok ((getF c x2.Id).1) x2) rfl rfl rfl ?_
       refine step_g1 rfl h63 ?_
       refine step_r rfl rfl trivial ?_
       refine step_pickF rfl h63 rfl rfl ?_
       refine step_r rfl rfl trivial ?_
       refine step_gs rfl (fun h67 => ?_) (fun h67 => ?_)
       ·have g67 : ¬ (sameFR ((getF c x2.Id).1) x2 = true) := boo_f (not_t h67)
        refine step_g0 rfl h67 rfl ?_
        refine step_g0 rfl h67 rfl ?_
        refine step_g0 rfl h67 rfl ?_
        refine step_pickT rfl h67 rfl rfl ?_
        refine step_r rfl rfl trivial ?_
        refine step_gf rfl rfl ?_
        refine step_gf rfl rfl ?_
        refine step_gf rfl rfl ?_
        refine step_r rfl rfl trivial ?_
        refine step_nil ?_
        refine seqK_n ?_
        refine sem_condT rfl ?_
        refine sem_seq ?_
        refine sem_region rfl ?_
        refine step_r rfl rfl trivial ?_
        refine step_nil ?_
        refine seqK_n ?_
        refine sem_ret ?_
        refine blkK_r ?_
        refine seqK_r ?_
        refine lupK_r ?_
        refine blkK_r ?_
        refine cutW_r ?_
        refine seqK_r ?_
        have e68 : stays09_L2 c c.Foes 0 = .inl false := by
         rewrite [← hI2, drop_cons hx2]
         rewrite [stays09_L2]
         try dsimp only
         rewrite [if_pos g63, if_neg g67]
         all_goals rfl
        have e69 : stays09 c = false := by
         unfold stays09
         try dsimp only
         rewrite [if_pos g4, if_pos g7, hJ9]
         try dsimp only
         rewrite [e68]
         try dsimp only
         all_goals rfl
        rw [e69]
        exact answersR rfl ⟨trivial, trivial⟩ (rfl) rfl
       ·have g67 : sameFR ((getF c x2.Id).1) x2 = true := (not_f h67)
        refine step_g1 rfl h67 ?_
        refine step_r rfl rfl (by decide) ?_
        refine step_g1 rfl h67 ?_
        refine step_r rfl rfl trivial ?_
        refine step_g1 rfl h67 ?_
        refine step_bin rfl rfl rfl rfl rfl trivial ?_
        refine step_pickF rfl h67 rfl rfl ?_
        refine step_r rfl rfl trivial ?_
        refine step_gs rfl (fun h71 => ?_) (fun h71 => ?_)
        ·have g71 : (((getF c x2.Id).1).Health : Int) < 1 := of_decide_eq_true h71
         refine step_g0 rfl h71 rfl ?_
         refine step_g0 rfl h71 rfl ?_
         refine step_g0 rfl h71 rfl ?_
         refine step_pickT rfl h71 rfl rfl ?_
         refine step_nil ?_
         refine seqK_n ?_
         refine sem_condT rfl ?_
         refine sem_seq ?_
         refine sem_region rfl ?_
         refine step_r rfl rfl trivial ?_
         refine step_nil ?_
         refine seqK_n ?_
         refine sem_ret ?_
         refine blkK_r ?_
         refine seqK_r ?_
         refine lupK_r ?_
         refine blkK_r ?_
         refine cutW_r ?_
         refine seqK_r ?_
         have e72 : stays09_L2 c c.Foes 0 = .inl false := by
          rewrite [← hI2, drop_cons hx2]
          rewrite [stays09_L2]
          try dsimp only
          rewrite [if_pos g63, if_pos g67, if_pos g71]
          all_goals rfl
         have e73 : stays09 c = false := by
          unfold stays09
          try dsimp only
          rewrite [if_pos g4, if_pos g7, hJ9]
          try dsimp only
          rewrite [e72]
          try dsimp only
          all_goals rfl
         rw [e73]
         exact answersR rfl ⟨trivial, trivial⟩ (rfl) rfl
        ·have g71 : ¬ ((((getF c x2.Id).1).Health : Int) < 1) := of_decide_eq_false h71
         refine step_g1 rfl h71 ?_
         refine step_r rfl rfl (by decide) ?_
         refine step_g1 rfl h71 ?_
         refine step_r rfl rfl trivial ?_
         refine step_g1 rfl h71 ?_
         refine step_bin rfl rfl rfl rfl rfl trivial ?_
         refine step_pickF rfl h71 rfl rfl ?_
         refine step_nil ?_
         refine seqK_n ?_
         refine sem_cond rfl (fun h75 => ?_) (fun h75 => ?_)
         ·have g75 : (((getF c x2.Id).1).Every : Int) < 1 := of_decide_eq_true h75
          refine sem_seq ?_
          refine sem_region rfl ?_
          refine step_r rfl rfl trivial ?_
          refine step_nil ?_
          refine seqK_n ?_
          refine sem_ret ?_
          refine blkK_r ?_
          refine seqK_r ?_
          refine lupK_r ?_
          refine blkK_r ?_
          refine cutW_r ?_
          refine seqK_r ?_
          have e76 : stays09_L2 c c.Foes 0 = .inl false := by
           rewrite [← hI2, drop_cons hx2]
           rewrite [stays09_L2]
           try dsimp only
           rewrite [if_pos g63, if_pos g67, if_neg g71, if_pos g75]
           all_goals rfl
          have e77 : stays09 c = false := by
           unfold stays09
           try dsimp only
           rewrite [if_pos g4, if_pos g7, hJ9]
           try dsimp only
           rewrite [e76]
           try dsimp only
           all_goals rfl
          rw [e77]
          exact answersR rfl ⟨trivial, trivial⟩ (rfl) rfl
         ·have g75 : ¬ ((((getF c x2.Id).1).Every : Int) < 1) := of_decide_eq_false h75
          refine sem_skip ?_
          refine blkK_n ?_
          refine seqK_n ?_
          refine sem_region rfl ?_
          refine step_r rfl rfl trivial ?_
          refine step_bin rfl rfl rfl rfl rfl trivial ?_
          refine step_r rfl rfl trivial ?_
          refine step_nil ?_
          have e79 : stays09_L2 c (c.Foes.drop k2) k2 = stays09_L2 c (c.Foes.drop (k2 + 1)) (k2 + 1) := by
           rewrite [drop_cons hx2]
           rewrite [stays09_L2]
           try dsimp only
           rewrite [if_pos g63, if_pos g67, if_neg g71, if_neg g75]
           all_goals rfl
          exact lup_againT (k2 + 1) ⟨e79.symm.trans hI2, hk2⟩ (by show c.Foes.length - (k2 + 1) < c.Foes.length - k2; omega) (Trans.ren [] (by decide +kernel) (by decide +kernel) rfl ⟨⟨rfl, rfl⟩, ⟨rfl, rfl⟩, ⟨congrArg (fun n => some (I n)) (wrapI (k := k2) (by first | omega | (simp; omega))), rfl⟩, trivial⟩ ⟨⟨rfl, rfl, rfl⟩, trivial⟩ (by decide))
     ·have g60 : ¬ ((k2 : Int) < c.Foes.length) := of_decide_eq_false h60
      have hk2 : k2 = c.Foes.length := by omega
      refine sem_exit ?_
      refine seqK_e ?_
      refine lupK_e ?_
      refine blkK_t rfl ?_
      have e80 : stays09_L2 c c.Foes 0 = .inr () := by
       rewrite [← hI2, hk2, List.drop_length]
       rewrite [stays09_L2]
       try dsimp only
       all_goals rfl
      exact cutW_n () e80 (Trans.ren [] (by decide +kernel) (by decide +kernel) rfl ⟨⟨rfl, rfl⟩, ⟨rfl, rfl⟩, trivial⟩ ⟨⟨rfl, rfl, rfl⟩, trivial⟩ (by decide))
    ·rintro ⟨⟩ (hJ58 : stays09_L2 c c.Foes 0 = .inr ())
     show seqK _ _ _ .normal (⟨[(1, .ptr 0 0), (3, B (small09))], [(0, .box [.pv (.slc c.Abilities.length false (c.Abilities.flatMap encGAbility)), .pv (.slc c.Auras.length false (c.Auras.flatMap encGAura)), .pv (.slc c.Foes.length false (c.Foes.flatMap encGFoe)), I c.Map.W, I c.Map.H, .pv (.slc c.Map.Wall.length false (encB c.Map.Wall)), I c.Door.X, I c.Door.Y, I c.Lair.X, I c.Lair.Y])], 1, [], 204, 0⟩ : St)
     refine seqK_n ?_
     refine sem_seq ?_
     refine sem_seq ?_
     refine sem_region rfl ?_
     refine step_r rfl rfl (by decide) ?_
     refine step_r (v := (.agg [_, _, _])) rfl rfl (Nat.le_of_ble_eq_true rfl) ?_
     refine step_r rfl rfl (by decide) ?_
     refine step_r (v := (.agg [_, _])) rfl rfl (Nat.le_of_ble_eq_true rfl) ?_
     refine step_call rfl rfl rfl rfl (gridIn_ok c.Map c.Door) rfl rfl rfl ?_
     refine step_r rfl rfl trivial ?_
     refine step_r rfl rfl trivial ?_
     refine step_gs rfl (fun h82 => ?_) (fun h82 => ?_)
     ·have g82 : ¬ (gridIn c.Map c.Door = true) := boo_f (not_t h82)
      refine step_g0 rfl h82 rfl ?_
      refine step_g0 rfl h82 rfl ?_
      refine step_g0 rfl h82 rfl ?_
      refine step_g0 rfl h82 rfl ?_
      refine step_g0 rfl h82 rfl ?_
      refine step_pickT rfl h82 rfl rfl ?_
      refine step_r rfl rfl trivial ?_
      refine step_gf rfl rfl ?_
      refine step_gf rfl rfl ?_
      refine step_gf rfl rfl ?_
      refine step_gf rfl rfl ?_
      refine step_r rfl rfl trivial ?_
      refine step_r rfl rfl trivial ?_
      refine step_gf rfl rfl ?_
      refine step_gf rfl rfl ?_
      refine step_gf rfl rfl ?_
      refine step_gf rfl rfl ?_
      refine step_r rfl rfl trivial ?_
      refine step_r rfl rfl trivial ?_
      refine step_gf rfl rfl ?_
      refine step_gf rfl rfl ?_
      refine step_gf rfl rfl ?_
      refine step_gf rfl rfl ?_
      refine step_r rfl rfl trivial ?_
      refine step_nil ?_
      refine seqK_n ?_
      refine sem_condT rfl ?_
      refine sem_seq ?_
      refine sem_region rfl ?_
      refine step_r rfl rfl trivial ?_
      refine step_nil ?_
      refine seqK_n ?_
      refine sem_ret ?_
      refine seqK_r ?_
      have e83 : stays09 c = false := by
       unfold stays09
       try dsimp only
       rewrite [if_pos g4, if_pos g7, hJ9]
       try dsimp only
       rewrite [hJ58]
       try dsimp only
       rewrite [if_neg g82]
       all_goals rfl
      rw [e83]
      exact answersR rfl ⟨trivial, trivial⟩ (rfl) rfl
     ·have g82 : gridIn c.Map c.Door = true := (not_f h82)
      refine step_g1 rfl h82 ?_
      refine step_r rfl rfl (by decide) ?_
      refine step_g1 rfl h82 ?_
      refine step_r (v := (.agg [_, _, _])) rfl rfl (Nat.le_of_ble_eq_true rfl) ?_
      refine step_g1 rfl h82 ?_
      refine step_r rfl rfl (by decide) ?_
      refine step_g1 rfl h82 ?_
      refine step_r (v := (.agg [_, _])) rfl rfl (Nat.le_of_ble_eq_true rfl) ?_
      refine step_g1 rfl h82 ?_
      refine step_call rfl rfl rfl rfl (gridWall_ok c.Map c.Lair) rfl rfl rfl ?_
      refine step_pickF rfl h82 rfl rfl ?_
      refine step_r rfl rfl trivial ?_
      refine step_gs rfl (fun h85 => ?_) (fun h85 => ?_)
      ·have g85 : gridWall c.Map c.Lair = true := h85
       refine step_g0 rfl h85 rfl ?_
       refine step_g0 rfl h85 rfl ?_
       refine step_g0 rfl h85 rfl ?_
       refine step_g0 rfl h85 rfl ?_
       refine step_pickT rfl h85 rfl rfl ?_
       refine step_r rfl rfl trivial ?_
       refine step_gf rfl rfl ?_
       refine step_gf rfl rfl ?_
       refine step_gf rfl rfl ?_
       refine step_gf rfl rfl ?_
       refine step_r rfl rfl trivial ?_
       refine step_r rfl rfl trivial ?_
       refine step_gf rfl rfl ?_
       refine step_gf rfl rfl ?_
       refine step_gf rfl rfl ?_
       refine step_gf rfl rfl ?_
       refine step_r rfl rfl trivial ?_
       refine step_nil ?_
       refine seqK_n ?_
       refine sem_condT rfl ?_
       refine sem_seq ?_
       refine sem_region rfl ?_
       refine step_r rfl rfl trivial ?_
       refine step_nil ?_
       refine seqK_n ?_
       refine sem_ret ?_
       refine seqK_r ?_
       have e86 : stays09 c = false := by
        unfold stays09
        try dsimp only
        rewrite [if_pos g4, if_pos g7, hJ9]
        try dsimp only
        rewrite [hJ58]
        try dsimp only
        rewrite [if_pos g82, if_pos g85]
        all_goals rfl
       rw [e86]
       exact answersR rfl ⟨trivial, trivial⟩ (rfl) rfl
      ·have g85 : ¬ (gridWall c.Map c.Lair = true) := boo_f h85
       refine step_g1 rfl h85 ?_
       refine step_r rfl rfl (by decide) ?_
       refine step_g1 rfl h85 ?_
       refine step_r rfl rfl trivial ?_
       refine step_g1 rfl h85 ?_
       refine step_r rfl rfl trivial ?_
       refine step_g1 rfl h85 ?_
       refine step_bin rfl rfl rfl rfl rfl trivial ?_
       refine step_pickF rfl h85 rfl rfl ?_
       refine step_r rfl rfl trivial ?_
       refine step_gs rfl (fun h88 => ?_) (fun h88 => ?_)
       ·have g88 : (c.Abilities.length : Int) > 64 := of_decide_eq_true h88
        refine step_g0 rfl h88 rfl ?_
        refine step_g0 rfl h88 rfl ?_
        refine step_g0 rfl h88 rfl ?_
        refine step_g0 rfl h88 rfl ?_
        refine step_pickT rfl h88 rfl rfl ?_
        refine step_r rfl rfl trivial ?_
        refine step_gf rfl rfl ?_
        refine step_gf rfl rfl ?_
        refine step_gf rfl rfl ?_
        refine step_gf rfl rfl ?_
        refine step_r rfl rfl trivial ?_
        refine step_nil ?_
        refine seqK_n ?_
        refine sem_condT rfl ?_
        refine sem_seq ?_
        refine sem_region rfl ?_
        refine step_r rfl rfl trivial ?_
        refine step_nil ?_
        refine seqK_n ?_
        refine sem_ret ?_
        refine seqK_r ?_
        have e89 : stays09 c = false := by
         unfold stays09
         try dsimp only
         rewrite [if_pos g4, if_pos g7, hJ9]
         try dsimp only
         rewrite [hJ58]
         try dsimp only
         rewrite [if_pos g82, if_neg g85, if_pos g88]
         all_goals rfl
        rw [e89]
        exact answersR rfl ⟨trivial, trivial⟩ (rfl) rfl
       ·have g88 : ¬ ((c.Abilities.length : Int) > 64) := of_decide_eq_false h88
        refine step_g1 rfl h88 ?_
        refine step_r rfl rfl (by decide) ?_
        refine step_g1 rfl h88 ?_
        refine step_r rfl rfl trivial ?_
        refine step_g1 rfl h88 ?_
        refine step_r rfl rfl trivial ?_
        refine step_g1 rfl h88 ?_
        refine step_bin rfl rfl rfl rfl rfl trivial ?_
        refine step_pickF rfl h88 rfl rfl ?_
        refine step_r rfl rfl trivial ?_
        refine step_gs rfl (fun h91 => ?_) (fun h91 => ?_)
        ·have g91 : (c.Auras.length : Int) > 64 := of_decide_eq_true h91
         refine step_g0 rfl h91 rfl ?_
         refine step_g0 rfl h91 rfl ?_
         refine step_g0 rfl h91 rfl ?_
         refine step_g0 rfl h91 rfl ?_
         refine step_pickT rfl h91 rfl rfl ?_
         refine step_nil ?_
         refine seqK_n ?_
         refine sem_condT rfl ?_
         refine sem_seq ?_
         refine sem_region rfl ?_
         refine step_r rfl rfl trivial ?_
         refine step_nil ?_
         refine seqK_n ?_
         refine sem_ret ?_
         refine seqK_r ?_
         have e92 : stays09 c = false := by
          unfold stays09
          try dsimp only
          rewrite [if_pos g4, if_pos g7, hJ9]
          try dsimp only
          rewrite [hJ58]
          try dsimp only
          rewrite [if_pos g82, if_neg g85, if_neg g88, if_pos g91]
          all_goals rfl
         rw [e92]
         exact answersR rfl ⟨trivial, trivial⟩ (rfl) rfl
        ·have g91 : ¬ ((c.Auras.length : Int) > 64) := of_decide_eq_false h91
         refine step_g1 rfl h91 ?_
         refine step_r rfl rfl (by decide) ?_
         refine step_g1 rfl h91 ?_
         refine step_r rfl rfl trivial ?_
         refine step_g1 rfl h91 ?_
         refine step_r rfl rfl trivial ?_
         refine step_g1 rfl h91 ?_
         refine step_bin rfl rfl rfl rfl rfl trivial ?_
         refine step_pickF rfl h91 rfl rfl ?_
         refine step_nil ?_
         refine seqK_n ?_
         refine sem_cond rfl (fun h94 => ?_) (fun h94 => ?_)
         ·have g94 : (c.Foes.length : Int) > 64 := of_decide_eq_true h94
          refine sem_seq ?_
          refine sem_region rfl ?_
          refine step_r rfl rfl trivial ?_
          refine step_nil ?_
          refine seqK_n ?_
          refine sem_ret ?_
          refine seqK_r ?_
          have e95 : stays09 c = false := by
           unfold stays09
           try dsimp only
           rewrite [if_pos g4, if_pos g7, hJ9]
           try dsimp only
           rewrite [hJ58]
           try dsimp only
           rewrite [if_pos g82, if_neg g85, if_neg g88, if_neg g91, if_pos g94]
           all_goals rfl
          rw [e95]
          exact answersR rfl ⟨trivial, trivial⟩ (rfl) rfl
         ·have g94 : ¬ ((c.Foes.length : Int) > 64) := of_decide_eq_false h94
          refine sem_skip ?_
          refine seqK_n ?_
          refine sem_seq ?_
          refine sem_cutW (fun c_178 : GContent => (⟨[(1, .ptr 0 0), (3, B (small09))], [(0, .box [.pv (.slc c_178.Abilities.length false (c_178.Abilities.flatMap encGAbility)), .pv (.slc c_178.Auras.length false (c_178.Auras.flatMap encGAura)), .pv (.slc c_178.Foes.length false (c_178.Foes.flatMap encGFoe)), I c_178.Map.W, I c_178.Map.H, .pv (.slc c_178.Map.Wall.length false (encB c_178.Map.Wall)), I c_178.Door.X, I c_178.Door.Y, I c_178.Lair.X, I c_178.Lair.Y])], 1, [], 204, 0⟩ : St)) (fun c_178 : GContent => stays09_J178 c = c_178 ∧ (Few9 c_178)) ?_ ?_
          ·refine sem_seq ?_
           refine sem_region rfl ?_
           refine step_r rfl rfl (by decide) ?_
           refine step_r rfl rfl trivial ?_
           refine step_r rfl rfl trivial ?_
           refine step_bin rfl rfl rfl rfl rfl trivial ?_
           refine step_nil ?_
           refine seqK_n ?_
           refine sem_cond rfl (fun h97 => ?_) (fun h97 => ?_)
           ·have g97 : (c.Foes.length : Int) > 0 := of_decide_eq_true h97
            refine sem_region rfl ?_
            refine step_r rfl rfl (by decide) ?_
            refine step_r rfl rfl trivial ?_
            refine step_r rfl rfl (by decide) ?_
            refine step_r rfl rfl trivial ?_
            refine step_r rfl rfl trivial ?_
            refine step_bin rfl rfl rfl rfl rfl trivial ?_
            refine step_slcTo (k := ((IntKind.i64.wrap (c.Foes.length - 1))).toNat) (n' := (c.Foes.take (((IntKind.i64.wrap (c.Foes.length - 1))).toNat)).length) (cs' := (c.Foes.take (((IntKind.i64.wrap (c.Foes.length - 1))).toNat)).flatMap encGFoe) rfl rfl (Int.toNat_of_nonneg (by first | omega | (simp only [IntKind.wrap_i64]; omega))).symm rfl rfl (by first | omega | (simp only [IntKind.wrap_i64]; omega) | (simp; omega)) (by rw [List.length_take]; first | omega | (simp only [IntKind.wrap_i64]; omega)) (flat_upto (s := 8) (fun _ => rfl) c.Foes (((IntKind.i64.wrap (c.Foes.length - 1))).toNat) (by first | omega | (simp only [IntKind.wrap_i64]; omega))) rfl ?_
            refine step_r rfl rfl (by decide) ?_
            refine step_store (H' := [(0, .box [_, _, _, _, _, _, _, _, _, _])]) rfl rfl rfl rfl rfl rfl (Nat.le_of_ble_eq_true rfl) (.inl rfl) rfl ?_
            refine step_nil ?_
            have e98 : stays09_J178 c = (⟨c.Abilities, c.Auras, (c.Foes.take (((IntKind.i64.wrap (c.Foes.length - 1))).toNat)), c.Map, c.Door, c.Lair⟩ : GContent) := by
             unfold stays09_J178
             try dsimp only
             rewrite [if_pos g97]
             all_goals rfl
            exact cutW_n (⟨c.Abilities, c.Auras, (c.Foes.take (((IntKind.i64.wrap (c.Foes.length - 1))).toNat)), c.Map, c.Door, c.Lair⟩ : GContent) ⟨e98, by first | assumption | exact few_cut (by assumption) | omega | (simp; omega) | simp_all | grind⟩ (Trans.ren [] (by decide +kernel) (by decide +kernel) rfl ⟨⟨rfl, rfl⟩, ⟨rfl, rfl⟩, trivial⟩ ⟨⟨rfl, rfl, rfl⟩, trivial⟩ (by decide))
           ·have g97 : ¬ ((c.Foes.length : Int) > 0) := of_decide_eq_false h97
            refine sem_skip ?_
            have e99 : stays09_J178 c = c := by
             unfold stays09_J178
             try dsimp only
             rewrite [if_neg g97]
             all_goals rfl
            exact cutW_n c ⟨e99, by first | assumption | exact few_cut (by assumption) | omega | (simp; omega) | simp_all | grind⟩ (Trans.ren [] (by decide +kernel) (by decide +kernel) rfl ⟨⟨rfl, rfl⟩, ⟨rfl, rfl⟩, trivial⟩ ⟨⟨rfl, rfl, rfl⟩, trivial⟩ (by decide))
          ·rintro c_178 ⟨(hJ96 : stays09_J178 c = c_178), hK178⟩
           show seqK _ _ _ .normal (⟨[(1, .ptr 0 0), (3, B (small09))], [(0, .box [.pv (.slc c_178.Abilities.length false (c_178.Abilities.flatMap encGAbility)), .pv (.slc c_178.Auras.length false (c_178.Auras.flatMap encGAura)), .pv (.slc c_178.Foes.length false (c_178.Foes.flatMap encGFoe)), I c_178.Map.W, I c_178.Map.H, .pv (.slc c_178.Map.Wall.length false (encB c_178.Map.Wall)), I c_178.Door.X, I c_178.Door.Y, I c_178.Lair.X, I c_178.Lair.Y])], 1, [], 204, 0⟩ : St)
           refine seqK_n ?_
           refine sem_seq ?_
           refine sem_region rfl ?_
           refine step_r (v := (.agg [_, _, _, _, _, _, _, _, _, _])) rfl rfl (Nat.le_of_ble_eq_true rfl) ?_
           refine step_call rfl rfl rfl rfl (getF_ok c_178 0 (by first | assumption | exact few_small (by decide +kernel) | exact few_cut (by assumption) | grind)) rfl rfl rfl ?_
           refine step_r rfl rfl trivial ?_
           refine step_r rfl rfl trivial ?_
           refine step_r rfl rfl trivial ?_
           refine step_n (o := .box [_, _, _, _, _, _, _, _]) (nx' := 2) rfl rfl rfl trivial ?_
           refine step_store (H' := [(1, .box [_, _, _, _, _, _, _, _]), (0, .box [_, _, _, _, _, _, _, _, _, _])]) rfl rfl rfl rfl rfl rfl (Nat.le_of_ble_eq_true rfl) (.inl rfl) rfl ?_
           refine step_r rfl rfl trivial ?_
           refine step_nil ?_
           refine seqK_n ?_
           refine sem_seq ?_
           refine sem_region rfl ?_
           refine step_r rfl rfl trivial ?_
           refine step_r rfl rfl trivial ?_
           refine step_gs rfl (fun h102 => ?_) (fun h102 => ?_)
           ·have g102 : small09 = true := h102
            refine step_g1 rfl h102 ?_
            refine step_r (v := (.agg [_, _, _, _, _, _, _, _, _, _])) rfl rfl (Nat.le_of_ble_eq_true rfl) ?_
            refine step_g1 rfl h102 ?_
            refine step_call rfl rfl rfl rfl (right9_ok c_178 (by first | assumption | exact few_small (by decide +kernel) | exact few_cut (by assumption) | grind)) rfl rfl rfl ?_
            refine step_pickT rfl h102 rfl rfl ?_
            refine step_r rfl rfl trivial ?_
            refine step_gs rfl (fun h104 => ?_) (fun h104 => ?_)
            ·have g104 : right9 c_178 = true := h104
             refine step_g1 rfl h104 ?_
             refine step_r rfl rfl trivial ?_
             refine step_g1 rfl h104 ?_
             refine step_r rfl rfl trivial ?_
             refine step_pickT rfl h104 rfl rfl ?_
             refine step_r rfl rfl trivial ?_
             refine step_nil ?_
             refine seqK_n ?_
             refine sem_ret ?_
             have e106 : stays09 c = (!((getF c_178 0).2)) := by
              unfold stays09
              try dsimp only
              rewrite [if_pos g4, if_pos g7, hJ9]
              try dsimp only
              rewrite [hJ58]
              try dsimp only
              rewrite [if_pos g82, if_neg g85, if_neg g88, if_neg g91, if_neg g94, hJ96]
              try dsimp only
              rewrite [if_pos g102, if_pos g104]
              all_goals rfl
             rw [e106]
             exact answersR rfl ⟨trivial, trivial⟩ (rfl) rfl
            ·have g104 : ¬ (right9 c_178 = true) := boo_f h104
             refine step_g0 rfl h104 rfl ?_
             refine step_g0 rfl h104 rfl ?_
             refine step_pickF rfl h104 rfl rfl ?_
             refine step_r rfl rfl trivial ?_
             refine step_nil ?_
             refine seqK_n ?_
             refine sem_ret ?_
             have e107 : stays09 c = false := by
              unfold stays09
              try dsimp only
              rewrite [if_pos g4, if_pos g7, hJ9]
              try dsimp only
              rewrite [hJ58]
              try dsimp only
              rewrite [if_pos g82, if_neg g85, if_neg g88, if_neg g91, if_neg g94, hJ96]
              try dsimp only
              rewrite [if_pos g102, if_neg g104]
              all_goals rfl
             rw [e107]
             exact answersR rfl ⟨trivial, trivial⟩ (rfl) rfl
           ·have g102 : ¬ (small09 = true) := boo_f h102
            refine step_g0 rfl h102 rfl ?_
            refine step_g0 rfl h102 rfl ?_
            refine step_pickF rfl h102 rfl rfl ?_
            refine step_r rfl rfl trivial ?_
            refine step_gf rfl rfl ?_
            refine step_gf rfl rfl ?_
            refine step_r rfl rfl trivial ?_
            refine step_r rfl rfl trivial ?_
            refine step_nil ?_
            refine seqK_n ?_
            refine sem_ret ?_
            have e108 : stays09 c = false := by
             unfold stays09
             try dsimp only
             rewrite [if_pos g4, if_pos g7, hJ9]
             try dsimp only
             rewrite [hJ58]
             try dsimp only
             rewrite [if_pos g82, if_neg g85, if_neg g88, if_neg g91, if_neg g94, hJ96]
             try dsimp only
             rewrite [if_neg g102]
             all_goals rfl
            rw [e108]
            exact answersR rfl ⟨trivial, trivial⟩ (rfl) rfl
end Go.Proofs.Ytjefbekleaelfaa

import Derived.Test.YtcbdecknbfabaaaAurah
namespace Go.Proofs.Ytcbdecknbfabaaa
open Go Go.RowKit Go.Proofs.YtcbdecknbfabaaaVm
attribute [local irreducible] opsWp AnswersE OpsS
set_option maxHeartbeats 400000
set_option maxRecDepth 100000
set_option linter.all false
def sumR_J18 (c : GContent) (kind : Int) (n0 : Int) (x0 : GActive) : Int :=
  if (getUR c x0.Aura).2 = true then (if (((getUR c x0.Aura).1).Kind : Int) = kind then (addR n0 (mulR (((getUR c x0.Aura).1).Amount) x0.Stacks)) else n0) else n0
def sumR_L0 (c : GContent) (kind : Int) : List GActive → Nat → Int → Int
  | [], k0, n0 => n0
  | x0 :: l_, k0, n0 => (let n_18 := sumR_J18 c kind n0 x0; sumR_L0 c kind l_ (k0 + 1) n_18)
def sumR (c : GContent) (l : List GActive) (kind : Int) : Int :=
  (let n_0 := sumR_L0 c kind l 0 0; n_0)
theorem sumR_ok (c : GContent) (l : List GActive) (l_f : Bool) (kind : Int) : Ok Try.prog 25 [aGContent c, .pv (.slc l.length l_f (l.flatMap encGActive)), I kind] [] (I (sumR c l kind)) [] [] := by
 refine Ok.len fun hlen => ?_
 have hl_c_Abilities : c.Abilities.length ≤ maxLen := hlen _ (by simp [lensL, lens, lensP])
 have hl_c_Auras : c.Auras.length ≤ maxLen := hlen _ (by simp [lensL, lens, lensP])
 have hl_c_Foes : c.Foes.length ≤ maxLen := hlen _ (by simp [lensL, lens, lensP])
 have hl_c_Map_Wall : c.Map.Wall.length ≤ maxLen := hlen _ (by simp [lensL, lens, lensP])
 have hl_l : l.length ≤ maxLen := hlen _ (by simp [lensL, lens, lensP])
 unfold maxLen at hl_c_Abilities hl_c_Auras hl_c_Foes hl_c_Map_Wall hl_l
 refine ok_of_sem Try.func25 rfl ?_
 show Walks Try.prog _ _ ⟨[(0, aGContent c), (1, .pv (.slc l.length l_f (l.flatMap encGActive))), (2, I kind)], [], 0, [], 45, 0⟩
 refine sem_seq (sem_region rfl (step_n (o := .box [_, _, _, _, _, _, _, _, _, _]) (nx' := 1) rfl rfl rfl trivial (step_r rfl rfl trivial (step_nil (seqK_n (sem_seq (sem_region rfl (step_r rfl rfl trivial (step_nil (seqK_n (sem_seq ?_)))))))))))
 refine sem_seq (sem_region rfl (step_r rfl rfl trivial (step_nil (seqK_n ?_))))
 refine sem_cutW (fun n_0 : Int => (⟨[(7, I n_0)], [], 0, [], 45, 0⟩ : St)) (fun w_ => sumR_L0 c kind l 0 0 = w_) ?_ ?_
 ·refine sem_block ?_
  refine sem_loopT (fun w_ : Nat × Int => match w_ with | (k0, n0) => (⟨[(1, .pv (.slc l.length l_f (l.flatMap encGActive))), (2, I kind), (3, .ptr 0 0), (7, I n0), (8, I k0)], [(0, .box [.pv (.slc c.Abilities.length false (c.Abilities.flatMap encGAbility)), .pv (.slc c.Auras.length false (c.Auras.flatMap encGAura)), .pv (.slc c.Foes.length false (c.Foes.flatMap encGFoe)), I c.Map.W, I c.Map.H, .pv (.slc c.Map.Wall.length false (encB c.Map.Wall)), I c.Door.X, I c.Door.Y, I c.Lair.X, I c.Lair.Y])], 1, [], 45, 0⟩ : St)) (fun w_ : Nat × Int => match w_ with | (k0, n0) => sumR_L0 c kind (l.drop k0) k0 n0 = sumR_L0 c kind l 0 0 ∧ k0 ≤ l.length) (fun w_ : Nat × Int => match w_ with | (k0, n0) => l.length - k0) (0, 0) (⟨rfl, Nat.zero_le _⟩) ?_ (fun w_ hh_ => ?_)
  ·exact (Trans.ren [] (by decide +kernel) (by decide +kernel) rfl ⟨⟨rfl, rfl⟩, ⟨rfl, rfl⟩, ⟨rfl, rfl⟩, ⟨rfl, rfl⟩, ⟨rfl, rfl⟩, trivial⟩ ⟨⟨rfl, rfl, rfl⟩, trivial⟩ (by decide))
  obtain ⟨k0, n0⟩ := w_
  obtain ⟨hI0, hb0⟩ := hh_
  show Walks Try.prog _ _ (⟨[(1, .pv (.slc l.length l_f (l.flatMap encGActive))), (2, I kind), (3, .ptr 0 0), (7, I n0), (8, I k0)], [(0, .box [.pv (.slc c.Abilities.length false (c.Abilities.flatMap encGAbility)), .pv (.slc c.Auras.length false (c.Auras.flatMap encGAura)), .pv (.slc c.Foes.length false (c.Foes.flatMap encGFoe)), I c.Map.W, I c.Map.H, .pv (.slc c.Map.Wall.length false (encB c.Map.Wall)), I c.Door.X, I c.Door.Y, I c.Lair.X, I c.Lair.Y])], 1, [], 45, 0⟩ : St)
  refine sem_seq (sem_seq (sem_region rfl (step_r rfl rfl trivial (step_r rfl rfl trivial (step_r rfl rfl trivial (step_bin rfl rfl rfl rfl rfl trivial (step_nil (seqK_n ?_))))))))
  refine sem_cond rfl (fun h3 => ?_) (fun h3 => ?_)
  ·have g3 : (k0 : Int) < l.length := of_decide_eq_true h3
   have hk0 : k0 < l.length := by omega
   obtain ⟨x0, hx0⟩ : ∃ z_, l[k0]? = some z_ := ⟨_, List.getElem?_eq_getElem hk0⟩
   refine sem_skip (seqK_n (sem_seq ?_))
   refine sem_cutW (fun n_18 : Int => (⟨[(1, .pv (.slc l.length l_f (l.flatMap encGActive))), (2, I kind), (3, .ptr 0 0), (7, I n_18), (8, I k0)], [(0, .box [.pv (.slc c.Abilities.length false (c.Abilities.flatMap encGAbility)), .pv (.slc c.Auras.length false (c.Auras.flatMap encGAura)), .pv (.slc c.Foes.length false (c.Foes.flatMap encGFoe)), I c.Map.W, I c.Map.H, .pv (.slc c.Map.Wall.length false (encB c.Map.Wall)), I c.Door.X, I c.Door.Y, I c.Lair.X, I c.Lair.Y])], 1, [], 45, 0⟩ : St)) (fun w_ => sumR_J18 c kind n0 x0 = w_) ?_ ?_
   ·refine sem_block (sem_seq ?_)
    refine sem_drawnE [(11, 9)] rfl (by decide +kernel) (by decide +kernel) rfl ?_
    refine step_r (v := (.agg [_, _, _, _, _, _, _, _, _, _])) rfl rfl (Nat.le_of_ble_eq_true rfl) (step_r rfl rfl trivial (step_r rfl rfl trivial (step_idxS (k := k0) rfl rfl rfl rfl hk0 (flat_ne (s := 6) (enc := encGActive) (fun _ => rfl) (by decide) hk0) rfl (step_r rfl rfl (by decide) (step_load_one rfl rfl rfl (flat_get (s := 6) (enc := encGActive) (fun _ => rfl) hx0 (o := 0) rfl (by decide)) rfl (step_call rfl rfl rfl rfl (getUR_ok c x0.Aura) rfl rfl rfl (step_r rfl rfl trivial (step_r rfl rfl trivial (step_r rfl rfl trivial (step_n (o := .box [_, _, _, _, _, _, _]) (nx' := 2) rfl rfl rfl trivial (step_store (H' := [(1, .box [_, _, _, _, _, _, _]), (0, .box [_, _, _, _, _, _, _, _, _, _])]) rfl rfl rfl rfl rfl rfl (Nat.le_of_ble_eq_true rfl) (.inr (by decide +kernel)) rfl ?_)))))))))))
    refine step_r rfl rfl trivial (step_nil (seqK_n (sem_seq (sem_region rfl (step_r rfl rfl trivial (step_r rfl rfl trivial ?_))))))
    refine step_gs rfl (fun h6 => ?_) (fun h6 => ?_)
    ·have g6 : (getUR c x0.Aura).2 = true := h6
     refine step_g1 rfl h6 (step_r rfl rfl (by decide) (step_g1 rfl h6 (step_r rfl rfl trivial (step_g1 rfl h6 (step_r rfl rfl trivial (step_g1 rfl h6 (step_bin rfl rfl rfl rfl rfl trivial (step_pickT rfl h6 rfl rfl (step_nil (seqK_n ?_))))))))))
     refine sem_cond rfl (fun h9 => ?_) (fun h9 => ?_)
     ·have g9 : (((getUR c x0.Aura).1).Kind : Int) = kind := beq_t h9
      refine sem_drawn rfl (by decide +kernel) rfl ?_
      refine step_r rfl rfl trivial (step_r rfl rfl (by decide) (step_r rfl rfl trivial (step_r rfl rfl trivial (step_r rfl rfl trivial (step_idxS (k := k0) rfl rfl rfl rfl hk0 (flat_ne (s := 6) (enc := encGActive) (fun _ => rfl) (by decide) hk0) rfl (step_r rfl rfl (by decide) (step_load_one rfl rfl rfl (flat_get (s := 6) (enc := encGActive) (fun _ => rfl) hx0 (o := 2) rfl (by decide)) rfl (step_call rfl rfl rfl rfl (mulR_ok (((getUR c x0.Aura).1).Amount) x0.Stacks) rfl rfl rfl (step_call rfl rfl rfl rfl (addR_ok n0 (mulR (((getUR c x0.Aura).1).Amount) x0.Stacks)) rfl rfl rfl (step_r rfl rfl trivial (step_nil ?_)))))))))))
      refine blkK_n ?_
      have e12 : sumR_J18 c kind n0 x0 = (addR n0 (mulR (((getUR c x0.Aura).1).Amount) x0.Stacks)) := by
       unfold sumR_J18
       try dsimp only
       rewrite [if_pos g6, if_pos g9]
       all_goals rfl
      exact cutW_n (addR n0 (mulR (((getUR c x0.Aura).1).Amount) x0.Stacks)) e12 (Trans.ren [] (by decide +kernel) (by decide +kernel) rfl ⟨⟨rfl, rfl⟩, ⟨rfl, rfl⟩, ⟨rfl, rfl⟩, ⟨rfl, rfl⟩, ⟨rfl, rfl⟩, trivial⟩ ⟨⟨rfl, rfl, rfl⟩, trivial⟩ (by decide))
     ·have g9 : ¬ ((((getUR c x0.Aura).1).Kind : Int) = kind) := beq_f h9
      refine sem_skip (blkK_n ?_)
      have e13 : sumR_J18 c kind n0 x0 = n0 := by
       unfold sumR_J18
       try dsimp only
       rewrite [if_pos g6, if_neg g9]
       all_goals rfl
      exact cutW_n n0 e13 (Trans.ren [] (by decide +kernel) (by decide +kernel) rfl ⟨⟨rfl, rfl⟩, ⟨rfl, rfl⟩, ⟨rfl, rfl⟩, ⟨rfl, rfl⟩, ⟨rfl, rfl⟩, trivial⟩ ⟨⟨rfl, rfl, rfl⟩, trivial⟩ (by decide))
    ·have g6 : ¬ ((getUR c x0.Aura).2 = true) := boo_f h6
     refine step_g0 rfl h6 rfl (step_g0 rfl h6 rfl (step_g0 rfl h6 rfl (step_g0 rfl h6 rfl (step_pickF rfl h6 rfl rfl (step_nil (seqK_n (sem_condF rfl (sem_skip (blkK_n ?_)))))))))
     have e14 : sumR_J18 c kind n0 x0 = n0 := by
      unfold sumR_J18
      try dsimp only
      rewrite [if_neg g6]
      all_goals rfl
     exact cutW_n n0 e14 (Trans.ren [] (by decide +kernel) (by decide +kernel) rfl ⟨⟨rfl, rfl⟩, ⟨rfl, rfl⟩, ⟨rfl, rfl⟩, ⟨rfl, rfl⟩, ⟨rfl, rfl⟩, trivial⟩ ⟨⟨rfl, rfl, rfl⟩, trivial⟩ (by decide))
   ·rintro n_18 (hJ4 : sumR_J18 c kind n0 x0 = n_18)
    show seqK _ _ _ .normal (⟨[(1, .pv (.slc l.length l_f (l.flatMap encGActive))), (2, I kind), (3, .ptr 0 0), (7, I n_18), (8, I k0)], [(0, .box [.pv (.slc c.Abilities.length false (c.Abilities.flatMap encGAbility)), .pv (.slc c.Auras.length false (c.Auras.flatMap encGAura)), .pv (.slc c.Foes.length false (c.Foes.flatMap encGFoe)), I c.Map.W, I c.Map.H, .pv (.slc c.Map.Wall.length false (encB c.Map.Wall)), I c.Door.X, I c.Door.Y, I c.Lair.X, I c.Lair.Y])], 1, [], 45, 0⟩ : St)
    refine seqK_n (sem_region rfl (step_r rfl rfl trivial (step_bin rfl rfl rfl rfl rfl trivial (step_r rfl rfl trivial (step_nil ?_)))))
    have e17 : sumR_L0 c kind (l.drop k0) k0 n0 = sumR_L0 c kind (l.drop (k0 + 1)) (k0 + 1) n_18 := by
     rewrite [drop_cons hx0]
     rewrite [sumR_L0]
     try dsimp only
     rewrite [hJ4]
     try dsimp only
     all_goals rfl
    exact lup_againT (k0 + 1, n_18) ⟨e17.symm.trans hI0, hk0⟩ (by show l.length - (k0 + 1) < l.length - k0; omega) (Trans.ren [] (by decide +kernel) (by decide +kernel) rfl ⟨⟨rfl, rfl⟩, ⟨rfl, rfl⟩, ⟨rfl, rfl⟩, ⟨rfl, rfl⟩, ⟨congrArg (fun n => some (I n)) (wrapI (k := k0) (by first | omega | (simp; omega))), rfl⟩, trivial⟩ ⟨⟨rfl, rfl, rfl⟩, trivial⟩ (by decide))
  ·have g3 : ¬ ((k0 : Int) < l.length) := of_decide_eq_false h3
   have hk0 : k0 = l.length := by omega
   refine sem_exit (seqK_e (lupK_e (blkK_t rfl ?_)))
   have e18 : sumR_L0 c kind l 0 0 = n0 := by
    rewrite [← hI0, hk0, List.drop_length]
    rewrite [sumR_L0]
    try dsimp only
    all_goals rfl
   exact cutW_n n0 e18 (Trans.ren [] (by decide +kernel) (by decide +kernel) rfl ⟨⟨rfl, rfl⟩, trivial⟩ trivial (by decide))
 ·rintro n_0 (hJ1 : sumR_L0 c kind l 0 0 = n_0)
  show seqK _ _ _ .normal (⟨[(7, I n_0)], [], 0, [], 45, 0⟩ : St)
  refine seqK_n (sem_seq (sem_region rfl (step_r rfl rfl trivial (step_r rfl rfl trivial (step_nil (seqK_n (sem_ret ?_)))))))
  have e20 : sumR c l kind = n_0 := by
   unfold sumR
   try dsimp only
   rewrite [hJ1]
   try dsimp only
   all_goals rfl
  rw [e20]
  exact answersR rfl ⟨trivial, trivial⟩ (rfl) rfl

def hasR_L0 (c : GContent) (kind : Int) : List GActive → Nat → Sum Bool Unit
  | [], k0 => .inr ()
  | x0 :: l_, k0 => if (getUR c x0.Aura).2 = true then (if (((getUR c x0.Aura).1).Kind : Int) = kind then .inl true else hasR_L0 c kind l_ (k0 + 1)) else hasR_L0 c kind l_ (k0 + 1)
def hasR (c : GContent) (l : List GActive) (kind : Int) : Bool :=
  (match hasR_L0 c kind l 0 with
    | .inl r_ => r_
    | .inr () => false)
theorem hasR_ok (c : GContent) (l : List GActive) (l_f : Bool) (kind : Int) : Ok Try.prog 27 [aGContent c, .pv (.slc l.length l_f (l.flatMap encGActive)), I kind] [] (B (hasR c l kind)) [] [] := by
 refine Ok.len fun hlen => ?_
 have hl_c_Abilities : c.Abilities.length ≤ maxLen := hlen _ (by simp [lensL, lens, lensP])
 have hl_c_Auras : c.Auras.length ≤ maxLen := hlen _ (by simp [lensL, lens, lensP])
 have hl_c_Foes : c.Foes.length ≤ maxLen := hlen _ (by simp [lensL, lens, lensP])
 have hl_c_Map_Wall : c.Map.Wall.length ≤ maxLen := hlen _ (by simp [lensL, lens, lensP])
 have hl_l : l.length ≤ maxLen := hlen _ (by simp [lensL, lens, lensP])
 unfold maxLen at hl_c_Abilities hl_c_Auras hl_c_Foes hl_c_Map_Wall hl_l
 refine ok_of_sem Try.func27 rfl ?_
 show Walks Try.prog _ _ ⟨[(0, aGContent c), (1, .pv (.slc l.length l_f (l.flatMap encGActive))), (2, I kind)], [], 0, [], 33, 0⟩
 refine sem_seq (sem_region rfl (step_n (o := .box [_, _, _, _, _, _, _, _, _, _]) (nx' := 1) rfl rfl rfl trivial (step_r rfl rfl trivial (step_nil (seqK_n (sem_seq (sem_seq (sem_region rfl (step_r rfl rfl trivial (step_nil (seqK_n ?_)))))))))))
 refine sem_cutW (fun w_ : Unit => match w_ with | () => (⟨[], [], 0, [], 33, 0⟩ : St)) (fun w_ => hasR_L0 c kind l 0 = .inr w_) ?_ ?_
 ·refine sem_block ?_
  refine sem_loopT (fun k0 : Nat => (⟨[(1, .pv (.slc l.length l_f (l.flatMap encGActive))), (2, I kind), (3, .ptr 0 0), (7, I k0)], [(0, .box [.pv (.slc c.Abilities.length false (c.Abilities.flatMap encGAbility)), .pv (.slc c.Auras.length false (c.Auras.flatMap encGAura)), .pv (.slc c.Foes.length false (c.Foes.flatMap encGFoe)), I c.Map.W, I c.Map.H, .pv (.slc c.Map.Wall.length false (encB c.Map.Wall)), I c.Door.X, I c.Door.Y, I c.Lair.X, I c.Lair.Y])], 1, [], 33, 0⟩ : St)) (fun k0 : Nat => hasR_L0 c kind (l.drop k0) k0 = hasR_L0 c kind l 0 ∧ k0 ≤ l.length) (fun k0 : Nat => l.length - k0) 0 (⟨rfl, Nat.zero_le _⟩) ?_ (fun k0 hh_ => ?_)
  ·exact (Trans.ren [] (by decide +kernel) (by decide +kernel) rfl ⟨⟨rfl, rfl⟩, ⟨rfl, rfl⟩, ⟨rfl, rfl⟩, ⟨rfl, rfl⟩, trivial⟩ ⟨⟨rfl, rfl, rfl⟩, trivial⟩ (by decide))
  obtain ⟨hI0, hb0⟩ := hh_
  show Walks Try.prog _ _ (⟨[(1, .pv (.slc l.length l_f (l.flatMap encGActive))), (2, I kind), (3, .ptr 0 0), (7, I k0)], [(0, .box [.pv (.slc c.Abilities.length false (c.Abilities.flatMap encGAbility)), .pv (.slc c.Auras.length false (c.Auras.flatMap encGAura)), .pv (.slc c.Foes.length false (c.Foes.flatMap encGFoe)), I c.Map.W, I c.Map.H, .pv (.slc c.Map.Wall.length false (encB c.Map.Wall)), I c.Door.X, I c.Door.Y, I c.Lair.X, I c.Lair.Y])], 1, [], 33, 0⟩ : St)
  refine sem_seq (sem_seq (sem_region rfl (step_r rfl rfl trivial (step_r rfl rfl trivial (step_r rfl rfl trivial (step_bin rfl rfl rfl rfl rfl trivial (step_nil (seqK_n ?_))))))))
  refine sem_cond rfl (fun h3 => ?_) (fun h3 => ?_)
  ·have g3 : (k0 : Int) < l.length := of_decide_eq_true h3
   have hk0 : k0 < l.length := by omega
   obtain ⟨x0, hx0⟩ : ∃ z_, l[k0]? = some z_ := ⟨_, List.getElem?_eq_getElem hk0⟩
   refine sem_skip (seqK_n (sem_seq (sem_block (sem_seq ?_))))
   refine sem_drawnE [(11, 9)] rfl (by decide +kernel) (by decide +kernel) rfl ?_
   refine step_r (v := (.agg [_, _, _, _, _, _, _, _, _, _])) rfl rfl (Nat.le_of_ble_eq_true rfl) (step_r rfl rfl trivial (step_r rfl rfl trivial (step_idxS (k := k0) rfl rfl rfl rfl hk0 (flat_ne (s := 6) (enc := encGActive) (fun _ => rfl) (by decide) hk0) rfl (step_r rfl rfl (by decide) (step_load_one rfl rfl rfl (flat_get (s := 6) (enc := encGActive) (fun _ => rfl) hx0 (o := 0) rfl (by decide)) rfl (step_call rfl rfl rfl rfl (getUR_ok c x0.Aura) rfl rfl rfl (step_r rfl rfl trivial (step_r rfl rfl trivial (step_r rfl rfl trivial (step_n (o := .box [_, _, _, _, _, _, _]) (nx' := 2) rfl rfl rfl trivial (step_store (H' := [(1, .box [_, _, _, _, _, _, _]), (0, .box [_, _, _, _, _, _, _, _, _, _])]) rfl rfl rfl rfl rfl rfl (Nat.le_of_ble_eq_true rfl) (.inr (by decide +kernel)) rfl ?_)))))))))))
   refine step_r rfl rfl trivial (step_nil (seqK_n (sem_seq (sem_region rfl (step_r rfl rfl trivial (step_r rfl rfl trivial ?_))))))
   refine step_gs rfl (fun h5 => ?_) (fun h5 => ?_)
   ·have g5 : (getUR c x0.Aura).2 = true := h5
    refine step_g1 rfl h5 (step_r rfl rfl (by decide) (step_g1 rfl h5 (step_r rfl rfl trivial (step_g1 rfl h5 (step_r rfl rfl trivial (step_g1 rfl h5 (step_bin rfl rfl rfl rfl rfl trivial (step_pickT rfl h5 rfl rfl (step_nil (seqK_n ?_))))))))))
    refine sem_cond rfl (fun h8 => ?_) (fun h8 => ?_)
    ·have g8 : (((getUR c x0.Aura).1).Kind : Int) = kind := beq_t h8
     refine sem_seq (sem_region rfl (step_r rfl rfl trivial (step_nil (seqK_n (sem_ret (blkK_r (seqK_r (lupK_r (blkK_r (cutW_r (seqK_r ?_)))))))))))
     have e9 : hasR_L0 c kind l 0 = .inl true := by
      rewrite [← hI0, drop_cons hx0]
      rewrite [hasR_L0]
      try dsimp only
      rewrite [if_pos g5, if_pos g8]
      all_goals rfl
     have e10 : hasR c l kind = true := by
      unfold hasR
      try dsimp only
      rewrite [e9]
      try dsimp only
      all_goals rfl
     rw [e10]
     exact answersR rfl ⟨trivial, trivial⟩ (rfl) rfl
    ·have g8 : ¬ ((((getUR c x0.Aura).1).Kind : Int) = kind) := beq_f h8
     refine sem_skip (blkK_n (seqK_n (sem_region rfl (step_r rfl rfl trivial (step_bin rfl rfl rfl rfl rfl trivial (step_r rfl rfl trivial (step_nil ?_)))))))
     have e12 : hasR_L0 c kind (l.drop k0) k0 = hasR_L0 c kind (l.drop (k0 + 1)) (k0 + 1) := by
      rewrite [drop_cons hx0]
      rewrite [hasR_L0]
      try dsimp only
      rewrite [if_pos g5, if_neg g8]
      all_goals rfl
     exact lup_againT (k0 + 1) ⟨e12.symm.trans hI0, hk0⟩ (by show l.length - (k0 + 1) < l.length - k0; omega) (Trans.ren [] (by decide +kernel) (by decide +kernel) rfl ⟨⟨rfl, rfl⟩, ⟨rfl, rfl⟩, ⟨rfl, rfl⟩, ⟨congrArg (fun n => some (I n)) (wrapI (k := k0) (by first | omega | (simp; omega))), rfl⟩, trivial⟩ ⟨⟨rfl, rfl, rfl⟩, trivial⟩ (by decide))
   ·have g5 : ¬ ((getUR c x0.Aura).2 = true) := boo_f h5
    refine step_g0 rfl h5 rfl (step_g0 rfl h5 rfl (step_g0 rfl h5 rfl (step_g0 rfl h5 rfl (step_pickF rfl h5 rfl rfl (step_nil (seqK_n (sem_condF rfl (sem_skip (blkK_n (seqK_n (sem_region rfl ?_)))))))))))
    refine step_r rfl rfl trivial (step_bin rfl rfl rfl rfl rfl trivial (step_r rfl rfl trivial (step_nil ?_)))
    have e14 : hasR_L0 c kind (l.drop k0) k0 = hasR_L0 c kind (l.drop (k0 + 1)) (k0 + 1) := by
     rewrite [drop_cons hx0]
     rewrite [hasR_L0]
     try dsimp only
     rewrite [if_neg g5]
     all_goals rfl
    exact lup_againT (k0 + 1) ⟨e14.symm.trans hI0, hk0⟩ (by show l.length - (k0 + 1) < l.length - k0; omega) (Trans.ren [] (by decide +kernel) (by decide +kernel) rfl ⟨⟨rfl, rfl⟩, ⟨rfl, rfl⟩, ⟨rfl, rfl⟩, ⟨congrArg (fun n => some (I n)) (wrapI (k := k0) (by first | omega | (simp; omega))), rfl⟩, trivial⟩ ⟨⟨rfl, rfl, rfl⟩, trivial⟩ (by decide))
  ·have g3 : ¬ ((k0 : Int) < l.length) := of_decide_eq_false h3
   have hk0 : k0 = l.length := by omega
   refine sem_exit (seqK_e (lupK_e (blkK_t rfl ?_)))
   have e15 : hasR_L0 c kind l 0 = .inr () := by
    rewrite [← hI0, hk0, List.drop_length]
    rewrite [hasR_L0]
    try dsimp only
    all_goals rfl
   exact cutW_n () e15 (Trans.ren [] (by decide +kernel) (by decide +kernel) rfl trivial trivial (by decide))
 ·rintro ⟨⟩ (hJ1 : hasR_L0 c kind l 0 = .inr ())
  show seqK _ _ _ .normal (⟨[], [], 0, [], 33, 0⟩ : St)
  refine seqK_n (sem_seq (sem_region rfl (step_r rfl rfl trivial (step_nil (seqK_n (sem_ret ?_))))))
  have e16 : hasR c l kind = false := by
   unfold hasR
   try dsimp only
   rewrite [hJ1]
   try dsimp only
   all_goals rfl
  rw [e16]
  exact answersR rfl ⟨trivial, trivial⟩ (rfl) rfl
end Go.Proofs.Ytcbdecknbfabaaa

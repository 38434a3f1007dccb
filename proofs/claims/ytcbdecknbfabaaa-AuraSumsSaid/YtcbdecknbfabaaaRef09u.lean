import Derived.Test.YtcbdecknbfabaaaMulrp
namespace Go.Proofs.Ytcbdecknbfabaaa
open Go Go.RowKit Go.Proofs.YtcbdecknbfabaaaVm
attribute [local irreducible] opsWp AnswersE OpsS
set_option maxHeartbeats 400000
set_option maxRecDepth 100000
set_option linter.all false
def getUR_L0 (id : Int) : List GAura → Nat → Sum (GAura × Bool) Unit
  | [], k0 => .inr ()
  | x0 :: l_, k0 => if (x0.Id : Int) = id then .inl (x0, true) else getUR_L0 id l_ (k0 + 1)
def getUR (c : GContent) (id : Int) : GAura × Bool :=
  (match getUR_L0 id c.Auras 0 with
    | .inl r_ => r_
    | .inr () => ((⟨0, 0, 0, 0, 0, 0, false⟩ : GAura), false))
theorem getUR_ok (c : GContent) (id : Int) : Ok Try.prog 33 [aGContent c, I id] [] (.tup [aGAura (getUR c id).1, B (getUR c id).2]) [] [] := by
 refine Ok.len fun hlen => ?_
 have hl_c_Abilities : c.Abilities.length ≤ maxLen := hlen _ (by simp [lensL, lens, lensP])
 have hl_c_Auras : c.Auras.length ≤ maxLen := hlen _ (by simp [lensL, lens, lensP])
 have hl_c_Foes : c.Foes.length ≤ maxLen := hlen _ (by simp [lensL, lens, lensP])
 have hl_c_Map_Wall : c.Map.Wall.length ≤ maxLen := hlen _ (by simp [lensL, lens, lensP])
 unfold maxLen at hl_c_Abilities hl_c_Auras hl_c_Foes hl_c_Map_Wall
 refine ok_of_sem Try.func33 rfl ?_
 show Walks Try.prog _ _ ⟨[(0, aGContent c), (1, I id)], [], 0, [], 28, 0⟩
 refine sem_seq (sem_region rfl (step_n (o := .box [_, _, _, _, _, _, _, _, _, _]) (nx' := 1) rfl rfl rfl trivial (step_n (o := .box [_, _, _, _, _, _, _]) (nx' := 2) rfl rfl rfl trivial (step_r rfl rfl trivial (step_nil (seqK_n (sem_seq (sem_seq (sem_region rfl (step_r rfl rfl trivial (step_nil ?_)))))))))))
 refine seqK_n ?_
 refine sem_cutW (fun w_ : Unit => match w_ with | () => (⟨[(4, .ptr 0 0)], [(0, .box [I 0, I 0, I 0, I 0, I 0, I 0, B false])], 1, [], 28, 0⟩ : St)) (fun w_ => getUR_L0 id c.Auras 0 = .inr w_) ?_ ?_
 ·refine sem_block ?_
  refine sem_loopT (fun k0 : Nat => (⟨[(1, I id), (2, .ptr 0 0), (4, .ptr 1 0), (6, I k0)], [(0, .box [.pv (.slc c.Abilities.length false (c.Abilities.flatMap encGAbility)), .pv (.slc c.Auras.length false (c.Auras.flatMap encGAura)), .pv (.slc c.Foes.length false (c.Foes.flatMap encGFoe)), I c.Map.W, I c.Map.H, .pv (.slc c.Map.Wall.length false (encB c.Map.Wall)), I c.Door.X, I c.Door.Y, I c.Lair.X, I c.Lair.Y]), (1, .box [I 0, I 0, I 0, I 0, I 0, I 0, B false])], 2, [], 28, 0⟩ : St)) (fun k0 : Nat => getUR_L0 id (c.Auras.drop k0) k0 = getUR_L0 id c.Auras 0 ∧ k0 ≤ c.Auras.length) (fun k0 : Nat => c.Auras.length - k0) 0 (⟨rfl, Nat.zero_le _⟩) ?_ (fun k0 hh_ => ?_)
  ·exact (Trans.ren [] (by decide +kernel) (by decide +kernel) rfl ⟨⟨rfl, rfl⟩, ⟨rfl, rfl⟩, ⟨rfl, rfl⟩, ⟨rfl, rfl⟩, trivial⟩ ⟨⟨rfl, rfl, rfl⟩, ⟨rfl, rfl, rfl⟩, trivial⟩ (by decide))
  obtain ⟨hI0, hb0⟩ := hh_
  show Walks Try.prog _ _ (⟨[(1, I id), (2, .ptr 0 0), (4, .ptr 1 0), (6, I k0)], [(0, .box [.pv (.slc c.Abilities.length false (c.Abilities.flatMap encGAbility)), .pv (.slc c.Auras.length false (c.Auras.flatMap encGAura)), .pv (.slc c.Foes.length false (c.Foes.flatMap encGFoe)), I c.Map.W, I c.Map.H, .pv (.slc c.Map.Wall.length false (encB c.Map.Wall)), I c.Door.X, I c.Door.Y, I c.Lair.X, I c.Lair.Y]), (1, .box [I 0, I 0, I 0, I 0, I 0, I 0, B false])], 2, [], 28, 0⟩ : St)
  refine sem_seq (sem_seq (sem_region rfl (step_r rfl rfl trivial (step_r rfl rfl (by decide) (step_r rfl rfl trivial (step_r rfl rfl trivial (step_bin rfl rfl rfl rfl rfl trivial (step_nil (seqK_n ?_)))))))))
  refine sem_cond rfl (fun h3 => ?_) (fun h3 => ?_)
  ·have g3 : (k0 : Int) < c.Auras.length := of_decide_eq_true h3
   have hk0 : k0 < c.Auras.length := by omega
   obtain ⟨x0, hx0⟩ : ∃ z_, c.Auras[k0]? = some z_ := ⟨_, List.getElem?_eq_getElem hk0⟩
   refine sem_skip (seqK_n (sem_seq (sem_block (sem_seq (sem_region rfl (step_r rfl rfl (by decide) (step_r rfl rfl trivial (step_r rfl rfl trivial (step_idxS (k := k0) rfl rfl rfl rfl hk0 (flat_ne (s := 7) (enc := encGAura) (fun _ => rfl) (by decide) hk0) rfl (step_r rfl rfl (by decide) (step_load_one rfl rfl rfl (flat_get (s := 7) (enc := encGAura) (fun _ => rfl) hx0 (o := 0) rfl (by decide)) rfl ?_)))))))))))
   refine step_r rfl rfl trivial (step_bin rfl rfl rfl rfl rfl trivial (step_nil (seqK_n ?_)))
   refine sem_cond rfl (fun h5 => ?_) (fun h5 => ?_)
   ·have g5 : (x0.Id : Int) = id := beq_t h5
    refine sem_seq (sem_region rfl (step_r rfl rfl (by decide) (step_r rfl rfl trivial (step_r rfl rfl trivial (step_idxS (k := k0) rfl rfl rfl rfl hk0 (flat_ne (s := 7) (enc := encGAura) (fun _ => rfl) (by decide) hk0) rfl (step_load_row rfl rfl rfl (flat_lt (s := 7) (enc := encGAura) (fun _ => rfl) hk0) (flat_take (s := 7) (enc := encGAura) (fun _ => rfl) hx0) rfl (step_store (H' := [(0, .box [_, _, _, _, _, _, _, _, _, _]), (1, .box [_, _, _, _, _, _, _])]) rfl rfl rfl rfl rfl rfl (Nat.le_of_ble_eq_true rfl) (.inl rfl) rfl (step_r rfl rfl trivial (step_nil (seqK_n (sem_ret ?_)))))))))))
    refine blkK_r (seqK_r (lupK_r (blkK_r (cutW_r (seqK_r ?_)))))
    have e6 : getUR_L0 id c.Auras 0 = .inl (x0, true) := by
     rewrite [← hI0, drop_cons hx0]
     rewrite [getUR_L0]
     try dsimp only
     rewrite [if_pos g5]
     all_goals rfl
    have e7 : getUR c id = (x0, true) := by
     unfold getUR
     try dsimp only
     rewrite [e6]
     try dsimp only
     all_goals rfl
    rw [e7]
    exact answersR rfl ⟨Nat.le_of_ble_eq_true rfl, trivial, trivial⟩ (rfl) rfl
   ·have g5 : ¬ ((x0.Id : Int) = id) := beq_f h5
    refine sem_skip (blkK_n (seqK_n (sem_region rfl (step_r rfl rfl trivial (step_bin rfl rfl rfl rfl rfl trivial (step_r rfl rfl trivial (step_nil ?_)))))))
    have e9 : getUR_L0 id (c.Auras.drop k0) k0 = getUR_L0 id (c.Auras.drop (k0 + 1)) (k0 + 1) := by
     rewrite [drop_cons hx0]
     rewrite [getUR_L0]
     try dsimp only
     rewrite [if_neg g5]
     all_goals rfl
    exact lup_againT (k0 + 1) ⟨e9.symm.trans hI0, hk0⟩ (by show c.Auras.length - (k0 + 1) < c.Auras.length - k0; omega) (Trans.ren [] (by decide +kernel) (by decide +kernel) rfl ⟨⟨rfl, rfl⟩, ⟨rfl, rfl⟩, ⟨rfl, rfl⟩, ⟨congrArg (fun n => some (I n)) (wrapI (k := k0) (by first | omega | (simp; omega))), rfl⟩, trivial⟩ ⟨⟨rfl, rfl, rfl⟩, ⟨rfl, rfl, rfl⟩, trivial⟩ (by decide))
  ·have g3 : ¬ ((k0 : Int) < c.Auras.length) := of_decide_eq_false h3
   have hk0 : k0 = c.Auras.length := by omega
   refine sem_exit (seqK_e (lupK_e (blkK_t rfl ?_)))
   have e10 : getUR_L0 id c.Auras 0 = .inr () := by
    rewrite [← hI0, hk0, List.drop_length]
    rewrite [getUR_L0]
    try dsimp only
    all_goals rfl
   exact cutW_n () e10 (Trans.ren [(0, 1), (1, 0)] (by decide +kernel) (by decide +kernel) rfl ⟨⟨rfl, rfl⟩, trivial⟩ ⟨⟨rfl, rfl, rfl⟩, trivial⟩ (by decide))
 ·rintro ⟨⟩ (hJ1 : getUR_L0 id c.Auras 0 = .inr ())
  show seqK _ _ _ .normal (⟨[(4, .ptr 0 0)], [(0, .box [I 0, I 0, I 0, I 0, I 0, I 0, B false])], 1, [], 28, 0⟩ : St)
  refine seqK_n (sem_seq (sem_region rfl (step_r (v := (.agg [_, _, _, _, _, _, _])) rfl rfl trivial (step_store (H' := [(0, .box [_, _, _, _, _, _, _])]) rfl rfl rfl rfl rfl rfl (Nat.le_of_ble_eq_true rfl) (.inl rfl) rfl (step_r rfl rfl trivial (step_nil (seqK_n (sem_ret ?_))))))))
  have e11 : getUR c id = ((⟨0, 0, 0, 0, 0, 0, false⟩ : GAura), false) := by
   unfold getUR
   try dsimp only
   rewrite [hJ1]
   try dsimp only
   all_goals rfl
  rw [e11]
  exact answersR rfl ⟨Nat.le_of_ble_eq_true rfl, trivial, trivial⟩ (rfl) rfl
end Go.Proofs.Ytcbdecknbfabaaa

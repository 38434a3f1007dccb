import Derived.Test.YtppnccjeggnllaaGreatContent
namespace Go.Proofs.YtppnccjeggnllaaGreat
open Go Go.RowKit Go.Proofs.YtppnccjeggnllaaGreatVm
attribute [local irreducible] opsWp AnswersE OpsS
set_option maxHeartbeats 400000
set_option maxRecDepth 100000
set_option linter.all false
def few9_L0 (c : GContent) : Nat → Nat → Sum Bool Unit
  | 0, k0 => .inr ()
  | n_ + 1, k0 => if ((c.Abilities.getD k0 default).Effects.length : Int) > 100 then .inl false else few9_L0 c n_ (k0 + 1)
def few9_L1 (c : GContent) : Nat → Nat → Sum Bool Unit
  | 0, k1 => .inr ()
  | n_ + 1, k1 => if ((c.Foes.getD k1 default).Script.length : Int) > 100 then .inl false else if ((c.Foes.getD k1 default).Hoard.length : Int) > 100 then .inl false else few9_L1 c n_ (k1 + 1)
def few9 (c : GContent) : Bool :=
  (match few9_L0 c ((min c.Abilities.length 100) - 0) 0 with
    | .inl r_ => r_
    | .inr () => (match few9_L1 c ((min c.Foes.length 100) - 0) 0 with
    | .inl r_ => r_
    | .inr () => if (c.Abilities.length : Int) ≤ 70 then (if (c.Auras.length : Int) ≤ 70 then (if (c.Foes.length : Int) ≤ 70 then (decide ((c.Map.Wall.length : Int) ≤ 1024)) else false) else false) else false))
theorem few9_ok (c : GContent) : Ok Tryz.prog 8 [aGContent c] [] (B (few9 c)) [] [] := by
 refine Ok.len fun hlen => ?_
 have hl_c_Abilities : c.Abilities.length ≤ maxLen := hlen _ (by simp [lensL, lens, lensP])
 have hl_c_Auras : c.Auras.length ≤ maxLen := hlen _ (by simp [lensL, lens, lensP])
 have hl_c_Foes : c.Foes.length ≤ maxLen := hlen _ (by simp [lensL, lens, lensP])
 have hl_c_Map_Wall : c.Map.Wall.length ≤ maxLen := hlen _ (by simp [lensL, lens, lensP])
 unfold maxLen at hl_c_Abilities hl_c_Auras hl_c_Foes hl_c_Map_Wall
 refine ok_of_sem Tryz.func8 rfl ?_
 show Walks Tryz.prog _ _ ⟨[(0, aGContent c)], [], 0, [], 76, 0⟩
 refine sem_seq (sem_region rfl (step_n (o := .box [_, _, _, _, _, _, _, _, _, _]) (nx' := 1) rfl rfl rfl trivial (step_r rfl rfl trivial (step_nil (seqK_n (sem_seq (sem_seq (sem_region rfl (step_r rfl rfl trivial (step_nil (seqK_n ?_)))))))))))
 refine sem_cutW (fun w_ : Unit => match w_ with | () => (⟨[(1, .ptr 0 0)], [(0, .box [.pv (.slc c.Abilities.length false (c.Abilities.flatMap encGAbility)), .pv (.slc c.Auras.length false (c.Auras.flatMap encGAura)), .pv (.slc c.Foes.length false (c.Foes.flatMap encGFoe)), I c.Map.W, I c.Map.H, .pv (.slc c.Map.Wall.length false (encB c.Map.Wall)), I c.Door.X, I c.Door.Y, I c.Lair.X, I c.Lair.Y])], 1, [], 76, 0⟩ : St)) (fun w_ => few9_L0 c ((min c.Abilities.length 100) - 0) 0 = .inr w_) ?_ ?_
 ·refine sem_block ?_
  refine sem_loopT (fun k0 : Nat => (⟨[(1, .ptr 0 0), (3, I k0)], [(0, .box [.pv (.slc c.Abilities.length false (c.Abilities.flatMap encGAbility)), .pv (.slc c.Auras.length false (c.Auras.flatMap encGAura)), .pv (.slc c.Foes.length false (c.Foes.flatMap encGFoe)), I c.Map.W, I c.Map.H, .pv (.slc c.Map.Wall.length false (encB c.Map.Wall)), I c.Door.X, I c.Door.Y, I c.Lair.X, I c.Lair.Y])], 1, [], 76, 0⟩ : St)) (fun k0 : Nat => few9_L0 c ((min c.Abilities.length 100) - k0) k0 = few9_L0 c ((min c.Abilities.length 100) - 0) 0 ∧ k0 ≤ min c.Abilities.length 100) (fun k0 : Nat => min c.Abilities.length 100 - k0) 0 (⟨rfl, (by first | omega | (simp; omega))⟩) ?_ (fun k0 hh_ => ?_)
  ·exact (Trans.ren [] (by decide +kernel) (by decide +kernel) rfl ⟨⟨rfl, rfl⟩, ⟨rfl, rfl⟩, trivial⟩ ⟨⟨rfl, rfl, rfl⟩, trivial⟩ (by decide))
  obtain ⟨hI0, hb0⟩ := hh_
  show Walks Tryz.prog _ _ (⟨[(1, .ptr 0 0), (3, I k0)], [(0, .box [.pv (.slc c.Abilities.length false (c.Abilities.flatMap encGAbility)), .pv (.slc c.Auras.length false (c.Auras.flatMap encGAura)), .pv (.slc c.Foes.length false (c.Foes.flatMap encGFoe)), I c.Map.W, I c.Map.H, .pv (.slc c.Map.Wall.length false (encB c.Map.Wall)), I c.Door.X, I c.Door.Y, I c.Lair.X, I c.Lair.Y])], 1, [], 76, 0⟩ : St)
  refine sem_seq (sem_seq (sem_region rfl (step_r rfl rfl trivial (step_r rfl rfl (by decide) (step_r rfl rfl trivial (step_r rfl rfl trivial (step_bin rfl rfl rfl rfl rfl trivial (step_r rfl rfl trivial ?_))))))))
  refine step_gs rfl (fun h4 => ?_) (fun h4 => ?_)
  ·have g4 : (k0 : Int) < c.Abilities.length := of_decide_eq_true h4
   refine step_g1 rfl h4 (step_r rfl rfl trivial (step_g1 rfl h4 (step_bin rfl rfl rfl rfl rfl trivial (step_pickT rfl h4 rfl rfl (step_nil (seqK_n ?_))))))
   refine sem_cond rfl (fun h6 => ?_) (fun h6 => ?_)
   ·have g6 : (k0 : Int) < 100 := of_decide_eq_true h6
    have hm0 : min c.Abilities.length 100 - k0 = (min c.Abilities.length 100 - (k0 + 1)) + 1 := by omega
    refine sem_skip (seqK_n (sem_seq (sem_block (sem_seq (sem_region rfl (step_r rfl rfl (by decide) (step_r rfl rfl trivial (step_r rfl rfl trivial ?_))))))))
    have jk7 : k0 < c.Abilities.length := by first | assumption | omega | (simp only [List.length_set, List.length_append]; omega) | (simp only [IntKind.wrap_i64] at *; omega) | (simp; omega) | simp_all
    refine step_idxS (k := k0) rfl rfl rfl rfl jk7 (flat_ne (s := 8) (enc := encGAbility) (fun _ => rfl) (by decide) jk7) rfl (step_r rfl rfl (by decide) (step_load_one rfl rfl rfl (flat_get (s := 8) (enc := encGAbility) (fun _ => rfl) (get_getD jk7) (o := 7) rfl (by decide)) rfl (step_r rfl rfl trivial (step_bin rfl rfl rfl rfl rfl trivial (step_nil (seqK_n ?_))))))
    refine sem_cond rfl (fun h8 => ?_) (fun h8 => ?_)
    ·have g8 : ((c.Abilities.getD k0 default).Effects.length : Int) > 100 := of_decide_eq_true h8
     refine sem_seq (sem_region rfl (step_r rfl rfl trivial (step_nil (seqK_n (sem_ret (blkK_r (seqK_r (lupK_r (blkK_r (cutW_r (seqK_r ?_)))))))))))
     have e9 : few9_L0 c ((min c.Abilities.length 100) - 0) 0 = .inl false := by
      rewrite [← hI0, hm0]
      rewrite [few9_L0]
      try dsimp only
      rewrite [if_pos g8]
      all_goals rfl
     have e10 : few9 c = false := by
      unfold few9
      try dsimp only
      rewrite [e9]
      try dsimp only
      all_goals rfl
     rw [e10]
     exact answersR rfl ⟨trivial, trivial⟩ (rfl) rfl
    ·have g8 : ¬ (((c.Abilities.getD k0 default).Effects.length : Int) > 100) := of_decide_eq_false h8
     refine sem_skip (blkK_n (seqK_n (sem_region rfl (step_r rfl rfl trivial (step_bin rfl rfl rfl rfl rfl trivial (step_r rfl rfl trivial (step_nil ?_)))))))
     have e12 : few9_L0 c ((min c.Abilities.length 100) - k0) k0 = few9_L0 c ((min c.Abilities.length 100) - (k0 + 1)) (k0 + 1) := by
      rewrite [hm0]
      rewrite [few9_L0]
      try dsimp only
      rewrite [if_neg g8]
      all_goals rfl
     exact lup_againT (k0 + 1) ⟨e12.symm.trans hI0, (by omega)⟩ (by show min c.Abilities.length 100 - (k0 + 1) < min c.Abilities.length 100 - k0; omega) (Trans.ren [] (by decide +kernel) (by decide +kernel) rfl ⟨⟨rfl, rfl⟩, ⟨congrArg (fun n => some (I n)) (wrapI (k := k0) (by first | omega | (simp; omega))), rfl⟩, trivial⟩ ⟨⟨rfl, rfl, rfl⟩, trivial⟩ (by decide))
   ·have g6 : ¬ ((k0 : Int) < 100) := of_decide_eq_false h6
    have hm0 : min c.Abilities.length 100 - k0 = 0 := by omega
    refine sem_exit (seqK_e (lupK_e (blkK_t rfl ?_)))
    have e13 : few9_L0 c ((min c.Abilities.length 100) - 0) 0 = .inr () := by
     rewrite [← hI0, hm0]
     rewrite [few9_L0]
     try dsimp only
     all_goals rfl
    exact cutW_n () e13 (Trans.ren [] (by decide +kernel) (by decide +kernel) rfl ⟨⟨rfl, rfl⟩, trivial⟩ ⟨⟨rfl, rfl, rfl⟩, trivial⟩ (by decide))
  ·have g4 : ¬ ((k0 : Int) < c.Abilities.length) := of_decide_eq_false h4
   refine step_g0 rfl h4 rfl (step_g0 rfl h4 rfl (step_pickF rfl h4 rfl rfl (step_nil (seqK_n (sem_condF rfl ?_)))))
   have hm0 : min c.Abilities.length 100 - k0 = 0 := by omega
   refine sem_exit (seqK_e (lupK_e (blkK_t rfl ?_)))
   have e14 : few9_L0 c ((min c.Abilities.length 100) - 0) 0 = .inr () := by
    rewrite [← hI0, hm0]
    rewrite [few9_L0]
    try dsimp only
    all_goals rfl
   exact cutW_n () e14 (Trans.ren [] (by decide +kernel) (by decide +kernel) rfl ⟨⟨rfl, rfl⟩, trivial⟩ ⟨⟨rfl, rfl, rfl⟩, trivial⟩ (by decide))
 ·rintro ⟨⟩ (hJ1 : few9_L0 c ((min c.Abilities.length 100) - 0) 0 = .inr ())
  show seqK _ _ _ .normal (⟨[(1, .ptr 0 0)], [(0, .box [.pv (.slc c.Abilities.length false (c.Abilities.flatMap encGAbility)), .pv (.slc c.Auras.length false (c.Auras.flatMap encGAura)), .pv (.slc c.Foes.length false (c.Foes.flatMap encGFoe)), I c.Map.W, I c.Map.H, .pv (.slc c.Map.Wall.length false (encB c.Map.Wall)), I c.Door.X, I c.Door.Y, I c.Lair.X, I c.Lair.Y])], 1, [], 76, 0⟩ : St)
  refine seqK_n (sem_seq (sem_seq (sem_region rfl (step_r rfl rfl trivial (step_nil (seqK_n ?_))))))
  refine sem_cutW (fun w_ : Unit => match w_ with | () => (⟨[(1, .ptr 0 0)], [(0, .box [.pv (.slc c.Abilities.length false (c.Abilities.flatMap encGAbility)), .pv (.slc c.Auras.length false (c.Auras.flatMap encGAura)), .pv (.slc c.Foes.length false (c.Foes.flatMap encGFoe)), I c.Map.W, I c.Map.H, .pv (.slc c.Map.Wall.length false (encB c.Map.Wall)), I c.Door.X, I c.Door.Y, I c.Lair.X, I c.Lair.Y])], 1, [], 76, 0⟩ : St)) (fun w_ => few9_L1 c ((min c.Foes.length 100) - 0) 0 = .inr w_) ?_ ?_
  ·refine sem_block ?_
   refine sem_loopT (fun k1 : Nat => (⟨[(1, .ptr 0 0), (4, I k1)], [(0, .box [.pv (.slc c.Abilities.length false (c.Abilities.flatMap encGAbility)), .pv (.slc c.Auras.length false (c.Auras.flatMap encGAura)), .pv (.slc c.Foes.length false (c.Foes.flatMap encGFoe)), I c.Map.W, I c.Map.H, .pv (.slc c.Map.Wall.length false (encB c.Map.Wall)), I c.Door.X, I c.Door.Y, I c.Lair.X, I c.Lair.Y])], 1, [], 76, 0⟩ : St)) (fun k1 : Nat => few9_L1 c ((min c.Foes.length 100) - k1) k1 = few9_L1 c ((min c.Foes.length 100) - 0) 0 ∧ k1 ≤ min c.Foes.length 100) (fun k1 : Nat => min c.Foes.length 100 - k1) 0 (⟨rfl, (by first | omega | (simp; omega))⟩) ?_ (fun k1 hh_ => ?_)
   ·exact (Trans.ren [] (by decide +kernel) (by decide +kernel) rfl ⟨⟨rfl, rfl⟩, ⟨rfl, rfl⟩, trivial⟩ ⟨⟨rfl, rfl, rfl⟩, trivial⟩ (by decide))
   obtain ⟨hI1, hb1⟩ := hh_
   show Walks Tryz.prog _ _ (⟨[(1, .ptr 0 0), (4, I k1)], [(0, .box [.pv (.slc c.Abilities.length false (c.Abilities.flatMap encGAbility)), .pv (.slc c.Auras.length false (c.Auras.flatMap encGAura)), .pv (.slc c.Foes.length false (c.Foes.flatMap encGFoe)), I c.Map.W, I c.Map.H, .pv (.slc c.Map.Wall.length false (encB c.Map.Wall)), I c.Door.X, I c.Door.Y, I c.Lair.X, I c.Lair.Y])], 1, [], 76, 0⟩ : St)
   refine sem_seq (sem_seq (sem_region rfl (step_r rfl rfl trivial (step_r rfl rfl (by decide) (step_r rfl rfl trivial (step_r rfl rfl trivial (step_bin rfl rfl rfl rfl rfl trivial (step_r rfl rfl trivial ?_))))))))
   refine step_gs rfl (fun h18 => ?_) (fun h18 => ?_)
   ·have g18 : (k1 : Int) < c.Foes.length := of_decide_eq_true h18
    refine step_g1 rfl h18 (step_r rfl rfl trivial (step_g1 rfl h18 (step_bin rfl rfl rfl rfl rfl trivial (step_pickT rfl h18 rfl rfl (step_nil (seqK_n ?_))))))
    refine sem_cond rfl (fun h20 => ?_) (fun h20 => ?_)
    ·have g20 : (k1 : Int) < 100 := of_decide_eq_true h20
     have hm1 : min c.Foes.length 100 - k1 = (min c.Foes.length 100 - (k1 + 1)) + 1 := by omega
     refine sem_skip (seqK_n (sem_seq (sem_block (sem_seq (sem_region rfl (step_r rfl rfl (by decide) (step_r rfl rfl trivial (step_r rfl rfl trivial ?_))))))))
     have jk21 : k1 < c.Foes.length := by first | assumption | omega | (simp only [List.length_set, List.length_append]; omega) | (simp only [IntKind.wrap_i64] at *; omega) | (simp; omega) | simp_all
     refine step_idxS (k := k1) rfl rfl rfl rfl jk21 (flat_ne (s := 8) (enc := encGFoe) (fun _ => rfl) (by decide) jk21) rfl (step_r rfl rfl (by decide) (step_load_one rfl rfl rfl (flat_get (s := 8) (enc := encGFoe) (fun _ => rfl) (get_getD jk21) (o := 5) rfl (by decide)) rfl (step_r rfl rfl trivial (step_bin rfl rfl rfl rfl rfl trivial (step_r rfl rfl trivial ?_)))))
     refine step_gs rfl (fun h23 => ?_) (fun h23 => ?_)
     ·have g23 : ((c.Foes.getD k1 default).Script.length : Int) > 100 := of_decide_eq_true h23
      refine step_g0 rfl h23 rfl (step_g0 rfl h23 rfl (step_g0 rfl h23 rfl (step_g0 rfl h23 rfl (step_g0 rfl h23 rfl (step_g0 rfl h23 rfl (step_g0 rfl h23 rfl (step_g0 rfl h23 rfl (step_pickT rfl h23 rfl rfl (step_nil (seqK_n (sem_condT rfl ?_)))))))))))
      refine sem_seq (sem_region rfl (step_r rfl rfl trivial (step_nil (seqK_n (sem_ret (blkK_r (seqK_r (lupK_r (blkK_r (cutW_r (seqK_r ?_)))))))))))
      have e24 : few9_L1 c ((min c.Foes.length 100) - 0) 0 = .inl false := by
       rewrite [← hI1, hm1]
       rewrite [few9_L1]
       try dsimp only
       rewrite [if_pos g23]
       all_goals rfl
      have e25 : few9 c = false := by
       unfold few9
       try dsimp only
       rewrite [hJ1]
       try dsimp only
       rewrite [e24]
       try dsimp only
       all_goals rfl
      rw [e25]
      exact answersR rfl ⟨trivial, trivial⟩ (rfl) rfl
     ·have g23 : ¬ (((c.Foes.getD k1 default).Script.length : Int) > 100) := of_decide_eq_false h23
      refine step_g1 rfl h23 (step_r rfl rfl (by decide) (step_g1 rfl h23 (step_r rfl rfl trivial (step_g1 rfl h23 (step_r rfl rfl trivial (step_g1 rfl h23 (step_idxS (k := k1) rfl rfl rfl rfl jk21 (flat_ne (s := 8) (enc := encGFoe) (fun _ => rfl) (by decide) jk21) rfl (step_g1 rfl h23 (step_r rfl rfl (by decide) (step_g1 rfl h23 (step_load_one rfl rfl rfl (flat_get (s := 8) (enc := encGFoe) (fun _ => rfl) (get_getD jk21) (o := 6) rfl (by decide)) rfl ?_)))))))))))
      refine step_g1 rfl h23 (step_r rfl rfl trivial (step_g1 rfl h23 (step_bin rfl rfl rfl rfl rfl trivial (step_pickF rfl h23 rfl rfl (step_nil (seqK_n ?_))))))
      refine sem_cond rfl (fun h27 => ?_) (fun h27 => ?_)
      ·have g27 : ((c.Foes.getD k1 default).Hoard.length : Int) > 100 := of_decide_eq_true h27
       refine sem_seq (sem_region rfl (step_r rfl rfl trivial (step_nil (seqK_n (sem_ret (blkK_r (seqK_r (lupK_r (blkK_r (cutW_r (seqK_r ?_)))))))))))
       have e28 : few9_L1 c ((min c.Foes.length 100) - 0) 0 = .inl false := by
        rewrite [← hI1, hm1]
        rewrite [few9_L1]
        try dsimp only
        rewrite [if_neg g23, if_pos g27]
        all_goals rfl
       have e29 : few9 c = false := by
        unfold few9
        try dsimp only
        rewrite [hJ1]
        try dsimp only
        rewrite [e28]
        try dsimp only
        all_goals rfl
       rw [e29]
       exact answersR rfl ⟨trivial, trivial⟩ (rfl) rfl
      ·have g27 : ¬ (((c.Foes.getD k1 default).Hoard.length : Int) > 100) := of_decide_eq_false h27
       refine sem_skip (blkK_n (seqK_n (sem_region rfl (step_r rfl rfl trivial (step_bin rfl rfl rfl rfl rfl trivial (step_r rfl rfl trivial (step_nil ?_)))))))
       have e31 : few9_L1 c ((min c.Foes.length 100) - k1) k1 = few9_L1 c ((min c.Foes.length 100) - (k1 + 1)) (k1 + 1) := by
        rewrite [hm1]
        rewrite [few9_L1]
        try dsimp only
        rewrite [if_neg g23, if_neg g27]
        all_goals rfl
       exact lup_againT (k1 + 1) ⟨e31.symm.trans hI1, (by omega)⟩ (by show min c.Foes.length 100 - (k1 + 1) < min c.Foes.length 100 - k1; omega) (Trans.ren [] (by decide +kernel) (by decide +kernel) rfl ⟨⟨rfl, rfl⟩, ⟨congrArg (fun n => some (I n)) (wrapI (k := k1) (by first | omega | (simp; omega))), rfl⟩, trivial⟩ ⟨⟨rfl, rfl, rfl⟩, trivial⟩ (by decide))
    ·have g20 : ¬ ((k1 : Int) < 100) := of_decide_eq_false h20
     have hm1 : min c.Foes.length 100 - k1 = 0 := by omega
     refine sem_exit (seqK_e (lupK_e (blkK_t rfl ?_)))
     have e32 : few9_L1 c ((min c.Foes.length 100) - 0) 0 = .inr () := by
      rewrite [← hI1, hm1]
      rewrite [few9_L1]
      try dsimp only
      all_goals rfl
     exact cutW_n () e32 (Trans.ren [] (by decide +kernel) (by decide +kernel) rfl ⟨⟨rfl, rfl⟩, trivial⟩ ⟨⟨rfl, rfl, rfl⟩, trivial⟩ (by decide))
   ·have g18 : ¬ ((k1 : Int) < c.Foes.length) := of_decide_eq_false h18
    refine step_g0 rfl h18 rfl (step_g0 rfl h18 rfl (step_pickF rfl h18 rfl rfl (step_nil (seqK_n (sem_condF rfl ?_)))))
    have hm1 : min c.Foes.length 100 - k1 = 0 := by omega
    refine sem_exit (seqK_e (lupK_e (blkK_t rfl ?_)))
    have e33 : few9_L1 c ((min c.Foes.length 100) - 0) 0 = .inr () := by
     rewrite [← hI1, hm1]
     rewrite [few9_L1]
     try dsimp only
     all_goals rfl
    exact cutW_n () e33 (Trans.ren [] (by decide +kernel) (by decide +kernel) rfl ⟨⟨rfl, rfl⟩, trivial⟩ ⟨⟨rfl, rfl, rfl⟩, trivial⟩ (by decide))
  ·rintro ⟨⟩ (hJ15 : few9_L1 c ((min c.Foes.length 100) - 0) 0 = .inr ())
   show seqK _ _ _ .normal (⟨[(1, .ptr 0 0)], [(0, .box [.pv (.slc c.Abilities.length false (c.Abilities.flatMap encGAbility)), .pv (.slc c.Auras.length false (c.Auras.flatMap encGAura)), .pv (.slc c.Foes.length false (c.Foes.flatMap encGFoe)), I c.Map.W, I c.Map.H, .pv (.slc c.Map.Wall.length false (encB c.Map.Wall)), I c.Door.X, I c.Door.Y, I c.Lair.X, I c.Lair.Y])], 1, [], 76, 0⟩ : St)
   refine seqK_n (sem_seq (sem_region rfl (step_r rfl rfl (by decide) (step_r rfl rfl trivial (step_r rfl rfl trivial (step_bin rfl rfl rfl rfl rfl trivial (step_r rfl rfl trivial ?_)))))))
   refine step_gs rfl (fun h35 => ?_) (fun h35 => ?_)
   ·have g35 : (c.Abilities.length : Int) ≤ 70 := of_decide_eq_true h35
    refine step_g1 rfl h35 (step_r rfl rfl (by decide) (step_g1 rfl h35 (step_r rfl rfl trivial (step_g1 rfl h35 (step_r rfl rfl trivial (step_g1 rfl h35 (step_bin rfl rfl rfl rfl rfl trivial (step_pickT rfl h35 rfl rfl (step_r rfl rfl trivial ?_)))))))))
    refine step_gs rfl (fun h37 => ?_) (fun h37 => ?_)
    ·have g37 : (c.Auras.length : Int) ≤ 70 := of_decide_eq_true h37
     refine step_g1 rfl h37 (step_r rfl rfl (by decide) (step_g1 rfl h37 (step_r rfl rfl trivial (step_g1 rfl h37 (step_r rfl rfl trivial (step_g1 rfl h37 (step_bin rfl rfl rfl rfl rfl trivial (step_pickT rfl h37 rfl rfl (step_r rfl rfl trivial ?_)))))))))
     refine step_gs rfl (fun h39 => ?_) (fun h39 => ?_)
     ·have g39 : (c.Foes.length : Int) ≤ 70 := of_decide_eq_true h39
      refine step_g1 rfl h39 (step_r rfl rfl (by decide) (step_g1 rfl h39 (step_r rfl rfl (by decide) (step_g1 rfl h39 (step_r rfl rfl trivial (step_g1 rfl h39 (step_r rfl rfl trivial (step_g1 rfl h39 (step_bin rfl rfl rfl rfl rfl trivial (step_pickT rfl h39 rfl rfl (step_r rfl rfl trivial ?_)))))))))))
      refine step_nil (seqK_n (sem_ret ?_))
      have e41 : few9 c = (decide ((c.Map.Wall.length : Int) ≤ 1024)) := by
       unfold few9
       try dsimp only
       rewrite [hJ1]
       try dsimp only
       rewrite [hJ15]
       try dsimp only
       rewrite [if_pos g35, if_pos g37, if_pos g39]
       all_goals rfl
      rw [e41]
      exact answersR rfl ⟨trivial, trivial⟩ (rfl) rfl
     ·have g39 : ¬ ((c.Foes.length : Int) ≤ 70) := of_decide_eq_false h39
      refine step_g0 rfl h39 rfl (step_g0 rfl h39 rfl (step_g0 rfl h39 rfl (step_g0 rfl h39 rfl (step_g0 rfl h39 rfl (step_pickF rfl h39 rfl rfl (step_r rfl rfl trivial (step_nil (seqK_n (sem_ret ?_)))))))))
      have e42 : few9 c = false := by
       unfold few9
       try dsimp only
       rewrite [hJ1]
       try dsimp only
       rewrite [hJ15]
       try dsimp only
       rewrite [if_pos g35, if_pos g37, if_neg g39]
       all_goals rfl
      rw [e42]
      exact answersR rfl ⟨trivial, trivial⟩ (rfl) rfl
    ·have g37 : ¬ ((c.Auras.length : Int) ≤ 70) := of_decide_eq_false h37
     refine step_g0 rfl h37 rfl (step_g0 rfl h37 rfl (step_g0 rfl h37 rfl (step_g0 rfl h37 rfl (step_pickF rfl h37 rfl rfl (step_r rfl rfl trivial (step_gf rfl rfl (step_gf rfl rfl (step_gf rfl rfl (step_gf rfl rfl (step_gf rfl rfl (step_r rfl rfl trivial ?_)))))))))))
     refine step_r rfl rfl trivial (step_nil (seqK_n (sem_ret ?_)))
     have e43 : few9 c = false := by
      unfold few9
      try dsimp only
      rewrite [hJ1]
      try dsimp only
      rewrite [hJ15]
      try dsimp only
      rewrite [if_pos g35, if_neg g37]
      all_goals rfl
     rw [e43]
     exact answersR rfl ⟨trivial, trivial⟩ (rfl) rfl
   ·have g35 : ¬ ((c.Abilities.length : Int) ≤ 70) := of_decide_eq_false h35
    refine step_g0 rfl h35 rfl (step_g0 rfl h35 rfl (step_g0 rfl h35 rfl (step_g0 rfl h35 rfl (step_pickF rfl h35 rfl rfl (step_r rfl rfl trivial (step_gf rfl rfl (step_gf rfl rfl (step_gf rfl rfl (step_gf rfl rfl (step_r rfl rfl trivial (step_r rfl rfl trivial ?_)))))))))))
    refine step_gf rfl rfl (step_gf rfl rfl (step_gf rfl rfl (step_gf rfl rfl (step_gf rfl rfl (step_r rfl rfl trivial (step_r rfl rfl trivial (step_nil (seqK_n (sem_ret ?_)))))))))
    have e44 : few9 c = false := by
     unfold few9
     try dsimp only
     rewrite [hJ1]
     try dsimp only
     rewrite [hJ15]
     try dsimp only
     rewrite [if_neg g35]
     all_goals rfl
    rw [e44]
    exact answersR rfl ⟨trivial, trivial⟩ (rfl) rfl

theorem few9_go0 (c : GContent) : ∀ (n k : Nat), few9_L0 c n k = .inr () → ∀ i, i < n → (c.Abilities.getD (k + i) default).Effects.length ≤ 100
  | 0, k, _, i, hi => by omega
  | n + 1, k, h, i, hi => by
    rw [few9_L0] at h
    split at h
    · cases h
    · rename_i h1
      cases i with
      | zero => simp only [Nat.add_zero]; omega
      | succ i => have := few9_go0 c n (k + 1) h i (by omega); rwa [show k + (i + 1) = k + 1 + i by omega]
theorem few9_go1 (c : GContent) : ∀ (n k : Nat), few9_L1 c n k = .inr () → ∀ i, i < n → (c.Foes.getD (k + i) default).Script.length ≤ 100 ∧ (c.Foes.getD (k + i) default).Hoard.length ≤ 100
  | 0, k, _, i, hi => by omega
  | n + 1, k, h, i, hi => by
    rw [few9_L1] at h
    split at h
    · cases h
    · rename_i h1
      split at h
      · cases h
      · rename_i h2
        cases i with
        | zero => simp only [Nat.add_zero]; omega
        | succ i => have := few9_go1 c n (k + 1) h i (by omega); rwa [show k + (i + 1) = k + 1 + i by omega]
theorem few9_go0' (c : GContent) (b : Bool) : ∀ (n k : Nat), few9_L0 c n k = .inl b → b = false
  | 0, k, h => by rw [few9_L0] at h; cases h
  | n + 1, k, h => by
    rw [few9_L0] at h
    split at h
    · cases h; rfl
    · exact few9_go0' c b n _ h
theorem few9_go1' (c : GContent) (b : Bool) : ∀ (n k : Nat), few9_L1 c n k = .inl b → b = false
  | 0, k, h => by rw [few9_L1] at h; cases h
  | n + 1, k, h => by
    rw [few9_L1] at h
    split at h
    · cases h; rfl
    · split at h
      · cases h; rfl
      · exact few9_go1' c b n _ h
end Go.Proofs.YtppnccjeggnllaaGreat

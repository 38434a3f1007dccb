import Derived.Test.YtcbdecknbfabaaaFits15
namespace Go.Proofs.Ytcbdecknbfabaaa
open Go Go.RowKit Go.Proofs.YtcbdecknbfabaaaVm
attribute [local irreducible] opsWp AnswersE OpsS
set_option maxHeartbeats 400000
set_option maxRecDepth 100000
set_option linter.all false
def hasF (a0 : Int) (a1 : GActive) (a2 : GAura) (c3 : Bool) : Bool :=
  true
theorem hasF_ok (a0 : Int) (a1 : GActive) (a2 : GAura) (c3 : Bool) : Ok Try.prog 53 [I a0, aGActive a1, aGAura a2, .ptr 0 0] [.box [B c3]] (.tup []) [.box [B (hasF a0 a1 a2 c3)]] [] := by
 refine ok_of_sem Try.func53 rfl ?_
 show Walks Try.prog _ _ ⟨[(0, I a0), (1, aGActive a1), (2, aGAura a2), (3, .ptr 0 0)], [(0, .box [B c3])], 1, [], 7, 1⟩
 refine sem_seq (sem_region rfl (step_n (o := .box [_, _, _, _, _, _]) (nx' := 2) rfl rfl rfl trivial (step_n (o := .box [_, _, _, _, _, _, _]) (nx' := 3) rfl rfl rfl trivial (step_nil (seqK_n (sem_region rfl (step_store (H' := [(2, .box [_, _, _, _, _, _, _]), (1, .box [_, _, _, _, _, _]), (0, .box [_])]) rfl rfl rfl rfl rfl rfl (Nat.le_of_ble_eq_true rfl) (.inl rfl) rfl (step_nil ?_))))))))
 have e1 : hasF a0 a1 a2 c3 = true := by
  unfold hasF
  try dsimp only
  all_goals rfl
 rw [e1]
 exact answersGN [] [] rfl trivial rfl (by (repeat' apply And.intro) <;> first | trivial | rfl | exact flat_len (fun _ => rfl) _ | exact encI_len _ | assumption) (rfl) rfl rfl rfl (by decide) rfl rfl ⟨⟨rfl, rfl⟩, trivial⟩

def ofHas_J16 (c : GContent) (kind : Int) (o00 : Bool) (k0 : Nat) (x0 : GActive) : Bool :=
  if (getU c x0.Aura).2 = true then (if (((getU c x0.Aura).1).Kind : Int) = kind then (hasF k0 x0 ((getU c x0.Aura).1) o00) else o00) else o00
def ofHas_L0 (c : GContent) (kind : Int) : List GActive → Nat → Bool → Bool
  | [], k0, o00 => o00
  | x0 :: l_, k0, o00 => (let o0_16 := ofHas_J16 c kind o00 k0 x0; ofHas_L0 c kind l_ (k0 + 1) o0_16)
def ofHas (c : GContent) (l : List GActive) (kind : Int) (has : Bool) : Bool :=
  (let o0_0 := ofHas_L0 c kind l 0 has; o0_0)
theorem ofHas_ok (c : GContent) (l : List GActive) (l_f : Bool) (kind : Int) (has : Bool) : Ok Try.prog 45 [aGContent c, .pv (.slc l.length l_f (l.flatMap encGActive)), I kind, .fnc 53 [.ptr 0 0]] [.box [B has]] (.tup []) [.box [B (ofHas c l kind has)]] [] := by
 refine Ok.len fun hlen => ?_
 have hl_c_Abilities : c.Abilities.length ≤ maxLen := hlen _ (by simp [lensL, lens, lensP])
 have hl_c_Auras : c.Auras.length ≤ maxLen := hlen _ (by simp [lensL, lens, lensP])
 have hl_c_Foes : c.Foes.length ≤ maxLen := hlen _ (by simp [lensL, lens, lensP])
 have hl_c_Map_Wall : c.Map.Wall.length ≤ maxLen := hlen _ (by simp [lensL, lens, lensP])
 have hl_l : l.length ≤ maxLen := hlen _ (by simp [lensL, lens, lensP])
 unfold maxLen at hl_c_Abilities hl_c_Auras hl_c_Foes hl_c_Map_Wall hl_l
 refine ok_of_sem Try.func45 rfl ?_
 show Walks Try.prog _ _ ⟨[(0, aGContent c), (1, .pv (.slc l.length l_f (l.flatMap encGActive))), (2, I kind), (3, .fnc 53 [.ptr 0 0])], [(0, .box [B has])], 1, [], 39, 1⟩
 refine sem_seq (sem_region rfl (step_n (o := .box [_, _, _, _, _, _, _, _, _, _]) (nx' := 2) rfl rfl rfl trivial (step_nil (seqK_n (sem_seq (sem_region rfl (step_r rfl rfl trivial (step_r rfl rfl trivial (step_r rfl rfl trivial (step_nil (seqK_n ?_)))))))))))
 refine sem_cutW (fun o0_0 : Bool => (⟨[], [(0, .box [B o0_0])], 1, [], 39, 1⟩ : St)) (fun w_ => ofHas_L0 c kind l 0 has = w_) ?_ ?_
 ·refine sem_block ?_
  refine sem_loopT (fun w_ : Nat × Bool => match w_ with | (k0, o00) => (⟨[(2, I kind), (3, .fnc 53 [.ptr 0 0]), (4, .ptr 1 0), (12, .pv (.slc l.length l_f (l.flatMap encGActive))), (13, I l.length), (14, I k0)], [(0, .box [B o00]), (1, .box [.pv (.slc c.Abilities.length false (c.Abilities.flatMap encGAbility)), .pv (.slc c.Auras.length false (c.Auras.flatMap encGAura)), .pv (.slc c.Foes.length false (c.Foes.flatMap encGFoe)), I c.Map.W, I c.Map.H, .pv (.slc c.Map.Wall.length false (encB c.Map.Wall)), I c.Door.X, I c.Door.Y, I c.Lair.X, I c.Lair.Y])], 2, [], 39, 1⟩ : St)) (fun w_ : Nat × Bool => match w_ with | (k0, o00) => ofHas_L0 c kind (l.drop k0) k0 o00 = ofHas_L0 c kind l 0 has ∧ k0 ≤ l.length) (fun w_ : Nat × Bool => match w_ with | (k0, o00) => l.length - k0) (0, has) (⟨rfl, Nat.zero_le _⟩) ?_ (fun w_ hh_ => ?_)
  ·exact (Trans.ren [] (by decide +kernel) (by decide +kernel) rfl ⟨⟨rfl, rfl⟩, ⟨rfl, rfl⟩, ⟨rfl, rfl⟩, ⟨rfl, rfl⟩, ⟨rfl, rfl⟩, ⟨rfl, rfl⟩, trivial⟩ ⟨⟨rfl, rfl, rfl⟩, ⟨rfl, rfl, rfl⟩, trivial⟩ (by decide))
  obtain ⟨k0, o00⟩ := w_
  obtain ⟨hI0, hb0⟩ := hh_
  show Walks Try.prog _ _ (⟨[(2, I kind), (3, .fnc 53 [.ptr 0 0]), (4, .ptr 1 0), (12, .pv (.slc l.length l_f (l.flatMap encGActive))), (13, I l.length), (14, I k0)], [(0, .box [B o00]), (1, .box [.pv (.slc c.Abilities.length false (c.Abilities.flatMap encGAbility)), .pv (.slc c.Auras.length false (c.Auras.flatMap encGAura)), .pv (.slc c.Foes.length false (c.Foes.flatMap encGFoe)), I c.Map.W, I c.Map.H, .pv (.slc c.Map.Wall.length false (encB c.Map.Wall)), I c.Door.X, I c.Door.Y, I c.Lair.X, I c.Lair.Y])], 2, [], 39, 1⟩ : St)
  refine sem_seq (sem_region rfl (step_bin rfl rfl rfl rfl rfl trivial (step_nil (seqK_n (sem_seq ?_)))))
  refine sem_cond rfl (fun h2 => ?_) (fun h2 => ?_)
  ·have g2 : (k0 : Int) < l.length := of_decide_eq_true h2
   have hk0 : k0 < l.length := by omega
   obtain ⟨x0, hx0⟩ : ∃ z_, l[k0]? = some z_ := ⟨_, List.getElem?_eq_getElem hk0⟩
   refine sem_skip (seqK_n (sem_seq ?_))
   refine sem_cutW (fun o0_16 : Bool => (⟨[(2, I kind), (3, .fnc 53 [.ptr 0 0]), (4, .ptr 1 0), (12, .pv (.slc l.length l_f (l.flatMap encGActive))), (13, I l.length), (14, I k0)], [(0, .box [B o0_16]), (1, .box [.pv (.slc c.Abilities.length false (c.Abilities.flatMap encGAbility)), .pv (.slc c.Auras.length false (c.Auras.flatMap encGAura)), .pv (.slc c.Foes.length false (c.Foes.flatMap encGFoe)), I c.Map.W, I c.Map.H, .pv (.slc c.Map.Wall.length false (encB c.Map.Wall)), I c.Door.X, I c.Door.Y, I c.Lair.X, I c.Lair.Y])], 2, [], 39, 1⟩ : St)) (fun w_ => ofHas_J16 c kind o00 k0 x0 = w_) ?_ ?_
   ·refine sem_block (sem_seq (sem_region rfl (step_r rfl rfl trivial (step_idxS (k := k0) rfl rfl rfl rfl hk0 (flat_ne (s := 6) (enc := encGActive) (fun _ => rfl) (by decide) hk0) rfl (step_load_row rfl rfl rfl (flat_lt (s := 6) (enc := encGActive) (fun _ => rfl) hk0) (flat_take (s := 6) (enc := encGActive) (fun _ => rfl) hx0) rfl (step_n (o := .box [_, _, _, _, _, _]) (nx' := 3) rfl rfl rfl trivial (step_r rfl rfl trivial (step_store (H' := [(2, .box [_, _, _, _, _, _]), (0, .box [_]), (1, .box [_, _, _, _, _, _, _, _, _, _])]) rfl rfl rfl rfl rfl rfl (Nat.le_of_ble_eq_true rfl) (.inl rfl) rfl (step_nil (seqK_n (sem_seq ?_)))))))))))
    refine sem_region rfl (step_r (v := (.agg [_, _, _, _, _, _, _, _, _, _])) rfl rfl (Nat.le_of_ble_eq_true rfl) (step_r rfl rfl (by decide) (step_r rfl rfl trivial (step_call rfl rfl rfl rfl (getU_ok c x0.Aura) rfl rfl rfl (step_r rfl rfl trivial (step_r rfl rfl trivial (step_r rfl rfl trivial (step_n (o := .box [_, _, _, _, _, _, _]) (nx' := 4) rfl rfl rfl trivial (step_store (H' := [(3, .box [_, _, _, _, _, _, _]), (2, .box [_, _, _, _, _, _]), (0, .box [_]), (1, .box [_, _, _, _, _, _, _, _, _, _])]) rfl rfl rfl rfl rfl rfl (Nat.le_of_ble_eq_true rfl) (.inl rfl) rfl (step_r rfl rfl trivial (step_nil ?_)))))))))))
    refine seqK_n (sem_seq (sem_region rfl (step_r rfl rfl trivial (step_r rfl rfl trivial ?_))))
    refine step_gs rfl (fun h6 => ?_) (fun h6 => ?_)
    ·have g6 : (getU c x0.Aura).2 = true := h6
     refine step_g1 rfl h6 (step_r rfl rfl (by decide) (step_g1 rfl h6 (step_r rfl rfl trivial (step_g1 rfl h6 (step_r rfl rfl trivial (step_g1 rfl h6 (step_bin rfl rfl rfl rfl rfl trivial (step_pickT rfl h6 rfl rfl (step_nil (seqK_n ?_))))))))))
     refine sem_cond rfl (fun h9 => ?_) (fun h9 => ?_)
     ·have g9 : (((getU c x0.Aura).1).Kind : Int) = kind := beq_t h9
      refine sem_region rfl (step_r rfl rfl trivial (step_r rfl rfl trivial (step_r (v := (.agg [_, _, _, _, _, _])) rfl rfl (Nat.le_of_ble_eq_true rfl) (step_r (v := (.agg [_, _, _, _, _, _, _])) rfl rfl (Nat.le_of_ble_eq_true rfl) ?_))))
      refine step_callM (Hin := [.box [.pv _]]) (out' := .tup []) (H' := [(3, .box [_, _, _, _, _, _, _]), (2, .box [_, _, _, _, _, _]), (0, .box [_]), (1, .box [_, _, _, _, _, _, _, _, _, _])]) (nx' := 4) [0] rfl rfl rfl rfl (.inl rfl) rfl rfl rfl rfl (hasF_ok k0 x0 ((getU c x0.Aura).1) o00) rfl (by decide) rfl rfl rfl rfl rfl ?_
      refine step_nil (blkK_n ?_)
      have e10 : ofHas_J16 c kind o00 k0 x0 = (hasF k0 x0 ((getU c x0.Aura).1) o00) := by
       unfold ofHas_J16
       try dsimp only
       rewrite [if_pos g6, if_pos g9]
       all_goals rfl
      exact cutW_n (hasF k0 x0 ((getU c x0.Aura).1) o00) e10 (Trans.ren [] (by decide +kernel) (by decide +kernel) rfl ⟨⟨rfl, rfl⟩, ⟨rfl, rfl⟩, ⟨rfl, rfl⟩, ⟨rfl, rfl⟩, ⟨rfl, rfl⟩, ⟨rfl, rfl⟩, trivial⟩ ⟨⟨rfl, rfl, rfl⟩, ⟨rfl, rfl, rfl⟩, trivial⟩ (by decide))
     ·have g9 : ¬ ((((getU c x0.Aura).1).Kind : Int) = kind) := beq_f h9
      refine sem_skip (blkK_n ?_)
      have e11 : ofHas_J16 c kind o00 k0 x0 = o00 := by
       unfold ofHas_J16
       try dsimp only
       rewrite [if_pos g6, if_neg g9]
       all_goals rfl
      exact cutW_n o00 e11 (Trans.ren [] (by decide +kernel) (by decide +kernel) rfl ⟨⟨rfl, rfl⟩, ⟨rfl, rfl⟩, ⟨rfl, rfl⟩, ⟨rfl, rfl⟩, ⟨rfl, rfl⟩, ⟨rfl, rfl⟩, trivial⟩ ⟨⟨rfl, rfl, rfl⟩, ⟨rfl, rfl, rfl⟩, trivial⟩ (by decide))
    ·have g6 : ¬ ((getU c x0.Aura).2 = true) := boo_f h6
     refine step_g0 rfl h6 rfl (step_g0 rfl h6 rfl (step_g0 rfl h6 rfl (step_g0 rfl h6 rfl (step_pickF rfl h6 rfl rfl (step_nil (seqK_n (sem_condF rfl (sem_skip (blkK_n ?_)))))))))
     have e12 : ofHas_J16 c kind o00 k0 x0 = o00 := by
      unfold ofHas_J16
      try dsimp only
      rewrite [if_neg g6]
      all_goals rfl
     exact cutW_n o00 e12 (Trans.ren [] (by decide +kernel) (by decide +kernel) rfl ⟨⟨rfl, rfl⟩, ⟨rfl, rfl⟩, ⟨rfl, rfl⟩, ⟨rfl, rfl⟩, ⟨rfl, rfl⟩, ⟨rfl, rfl⟩, trivial⟩ ⟨⟨rfl, rfl, rfl⟩, ⟨rfl, rfl, rfl⟩, trivial⟩ (by decide))
   ·rintro o0_16 (hJ3 : ofHas_J16 c kind o00 k0 x0 = o0_16)
    show seqK _ _ _ .normal (⟨[(2, I kind), (3, .fnc 53 [.ptr 0 0]), (4, .ptr 1 0), (12, .pv (.slc l.length l_f (l.flatMap encGActive))), (13, I l.length), (14, I k0)], [(0, .box [B o0_16]), (1, .box [.pv (.slc c.Abilities.length false (c.Abilities.flatMap encGAbility)), .pv (.slc c.Auras.length false (c.Auras.flatMap encGAura)), .pv (.slc c.Foes.length false (c.Foes.flatMap encGFoe)), I c.Map.W, I c.Map.H, .pv (.slc c.Map.Wall.length false (encB c.Map.Wall)), I c.Door.X, I c.Door.Y, I c.Lair.X, I c.Lair.Y])], 2, [], 39, 1⟩ : St)
    refine seqK_n (sem_region rfl (step_bin rfl rfl rfl rfl rfl trivial (step_r rfl rfl trivial (step_nil ?_))))
    have e14 : ofHas_L0 c kind (l.drop k0) k0 o00 = ofHas_L0 c kind (l.drop (k0 + 1)) (k0 + 1) o0_16 := by
     rewrite [drop_cons hx0]
     rewrite [ofHas_L0]
     try dsimp only
     rewrite [hJ3]
     try dsimp only
     all_goals rfl
    exact lup_againT (k0 + 1, o0_16) ⟨e14.symm.trans hI0, hk0⟩ (by show l.length - (k0 + 1) < l.length - k0; omega) (Trans.ren [] (by decide +kernel) (by decide +kernel) rfl ⟨⟨rfl, rfl⟩, ⟨rfl, rfl⟩, ⟨rfl, rfl⟩, ⟨rfl, rfl⟩, ⟨rfl, rfl⟩, ⟨congrArg (fun n => some (I n)) (wrapI (k := k0) (by first | omega | (simp; omega))), rfl⟩, trivial⟩ ⟨⟨rfl, rfl, rfl⟩, ⟨rfl, rfl, rfl⟩, trivial⟩ (by decide))
  ·have g2 : ¬ ((k0 : Int) < l.length) := of_decide_eq_false h2
   have hk0 : k0 = l.length := by omega
   refine sem_exit (seqK_e (lupK_e (blkK_t rfl ?_)))
   have e15 : ofHas_L0 c kind l 0 has = o00 := by
    rewrite [← hI0, hk0, List.drop_length]
    rewrite [ofHas_L0]
    try dsimp only
    all_goals rfl
   exact cutW_n o00 e15 (Trans.ren [] (by decide +kernel) (by decide +kernel) rfl trivial ⟨⟨rfl, rfl, rfl⟩, trivial⟩ (by decide))
 ·rintro o0_0 (hJ1 : ofHas_L0 c kind l 0 has = o0_0)
  show AnswersE _ _ _ _ _ _ .normal (⟨[], [(0, .box [B o0_0])], 1, [], 39, 1⟩ : St)
  have e16 : ofHas c l kind has = o0_0 := by
   unfold ofHas
   try dsimp only
   rewrite [hJ1]
   try dsimp only
   all_goals rfl
  rw [e16]
  exact answersGN [] [] rfl trivial rfl (by (repeat' apply And.intro) <;> first | trivial | rfl | exact flat_len (fun _ => rfl) _ | exact encI_len _ | assumption) (rfl) rfl rfl rfl (by decide) rfl rfl ⟨⟨rfl, rfl⟩, trivial⟩

def has15 (c : GContent) (l : List GActive) (kind : Int) : Bool :=
  (ofHas c l kind false)
theorem has15_ok (c : GContent) (l : List GActive) (l_f : Bool) (kind : Int) : Ok Try.prog 26 [aGContent c, .pv (.slc l.length l_f (l.flatMap encGActive)), I kind] [] (B (has15 c l kind)) [] [] := by
 refine Ok.len fun hlen => ?_
 have hl_c_Abilities : c.Abilities.length ≤ maxLen := hlen _ (by simp [lensL, lens, lensP])
 have hl_c_Auras : c.Auras.length ≤ maxLen := hlen _ (by simp [lensL, lens, lensP])
 have hl_c_Foes : c.Foes.length ≤ maxLen := hlen _ (by simp [lensL, lens, lensP])
 have hl_c_Map_Wall : c.Map.Wall.length ≤ maxLen := hlen _ (by simp [lensL, lens, lensP])
 have hl_l : l.length ≤ maxLen := hlen _ (by simp [lensL, lens, lensP])
 unfold maxLen at hl_c_Abilities hl_c_Auras hl_c_Foes hl_c_Map_Wall hl_l
 refine ok_of_sem Try.func26 rfl ?_
 show Walks Try.prog _ _ ⟨[(0, aGContent c), (1, .pv (.slc l.length l_f (l.flatMap encGActive))), (2, I kind)], [], 0, [], 14, 0⟩
 refine sem_seq (sem_region rfl (step_n (o := .box [_, _, _, _, _, _, _, _, _, _]) (nx' := 1) rfl rfl rfl trivial (step_r rfl rfl trivial (step_nil (seqK_n (sem_seq (sem_region rfl (step_n (o := .box [_]) (nx' := 2) rfl rfl rfl trivial (step_store (H' := [(1, .box [_]), (0, .box [_, _, _, _, _, _, _, _, _, _])]) rfl rfl rfl rfl rfl rfl (Nat.le_of_ble_eq_true rfl) (.inl rfl) rfl (step_nil (seqK_n ?_)))))))))))
 refine sem_seq (sem_region rfl (step_r (v := (.agg [_, _, _, _, _, _, _, _, _, _])) rfl rfl (Nat.le_of_ble_eq_true rfl) (step_r rfl rfl trivial (step_r rfl rfl trivial (step_r rfl rfl trivial ?_)))))
 refine step_callM (Hin := [.box [.pv _]]) (out' := .tup []) (H' := [(1, .box [_]), (0, .box [_, _, _, _, _, _, _, _, _, _])]) (nx' := 2) [1] rfl rfl rfl rfl (.inl rfl) rfl rfl rfl rfl (ofHas_ok c l l_f kind false) rfl (by decide) rfl rfl rfl rfl rfl ?_
 refine step_nil (seqK_n (sem_seq (sem_region rfl (step_r rfl rfl trivial (step_r rfl rfl trivial (step_nil (seqK_n (sem_ret ?_))))))))
 have e3 : has15 c l kind = (ofHas c l kind false) := by
  unfold has15
  try dsimp only
  all_goals rfl
 rw [e3]
 exact answersR rfl ⟨trivial, trivial⟩ (rfl) rfl
end Go.Proofs.Ytcbdecknbfabaaa

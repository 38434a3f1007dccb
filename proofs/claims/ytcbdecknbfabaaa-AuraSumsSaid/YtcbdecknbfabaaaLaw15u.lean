import Derived.Test.YtcbdecknbfabaaaRef15u
namespace Go.Proofs.Ytcbdecknbfabaaa
open Go Go.RowKit Go.Proofs.YtcbdecknbfabaaaVm
attribute [local irreducible] opsWp AnswersE OpsS
set_option maxHeartbeats 400000
set_option maxRecDepth 100000
set_option linter.all false
theorem take15_L1_len (c : GContent) (l : List GActive) (n : Int) : ∀ (r : List GActive) (k : Nat) (out : List GActive), (take15_L1 c l n r k out).length ≤ out.length + r.length
  | [], k, out => by rw [take15_L1]; simp
  | x :: r, k, out => by
    rw [take15_L1]
    split
    · have h := take15_L1_len c l n r (k + 1) out
      simp only [List.length_cons] at h ⊢; omega
    · have h := take15_L1_len c l n r (k + 1) (out ++ [x])
      simp only [List.length_cons, List.length_append, List.length_nil] at h ⊢; omega
theorem take15_L0_len : ∀ (s : List GShield) (k : Nat) (r : List GActive), (take15_L0 s k r).length = r.length
  | [], k, r => by rw [take15_L0]
  | x :: s, k, r => by rw [take15_L0, take15_L0_len s]; simp
theorem take15_len (c : GContent) (l : List GActive) (n : Int) : (take15 c l n).1.length ≤ l.length := by
  unfold take15
  have h := take15_L1_len c l n (take15_L0 (take14 (ofTake c l 5 []) n).1 0 l) 0 []
  rw [take15_L0_len] at h
  simpa using h

def sums15_J46 (c : GContent) (l : List GActive) (n : Int) : Bool :=
  if ((take15 c l n).1) = ((takeR c l n).1) then (((take15 c l n).2 : Int) == ((takeR c l n).2)) else false
def sums15_L0 : Nat → Nat → (List GActive) → Unit
  | 0, k0, a0 => ()
  | n_ + 1, k0, a0 => sums15_L0 n_ (k0 + 1) (a0.set k0 { (a0.getD k0 default) with Aura := (-7) })
def sums15 (c : GContent) (l : List GActive) (kind : Int) (n : Int) : Bool :=
  if few9 c = true then (if (l.length : Int) > 60 then (small15) else (let same_46 := sums15_J46 c l n; if small15 = true then (if same_46 = true then (if (sum15 c l kind : Int) = (sumR c l kind) then (if (has15 c l kind) = (hasR c l kind) then (decide (l = l)) else false) else false) else false) else false)) else (small15)
theorem sums15_ok (c : GContent) (l : List GActive) (l_f : Bool) (kind : Int) (n : Int) : Ok Try.prog 6 [aGContent c, .pv (.slc l.length l_f (l.flatMap encGActive)), I kind, I n] [] (B (sums15 c l kind n)) [] [] := by
 refine Ok.len fun hlen => ?_
 have hl_c_Abilities : c.Abilities.length ≤ maxLen := hlen _ (by simp [lensL, lens, lensP])
 have hl_c_Auras : c.Auras.length ≤ maxLen := hlen _ (by simp [lensL, lens, lensP])
 have hl_c_Foes : c.Foes.length ≤ maxLen := hlen _ (by simp [lensL, lens, lensP])
 have hl_c_Map_Wall : c.Map.Wall.length ≤ maxLen := hlen _ (by simp [lensL, lens, lensP])
 have hl_l : l.length ≤ maxLen := hlen _ (by simp [lensL, lens, lensP])
 unfold maxLen at hl_c_Abilities hl_c_Auras hl_c_Foes hl_c_Map_Wall hl_l
 refine ok_of_sem Try.func6 rfl ?_
 show Walks Try.prog _ _ ⟨[(0, aGContent c), (1, .pv (.slc l.length l_f (l.flatMap encGActive))), (2, I kind), (3, I n)], [], 0, [], 95, 0⟩
 refine sem_seq (sem_region rfl (step_n (o := .box [_, _, _, _, _, _, _, _, _, _]) (nx' := 1) rfl rfl rfl trivial (step_r rfl rfl trivial (step_nil (seqK_n (sem_seq (sem_region rfl (step_call rfl rfl rfl rfl (small15_ok ) rfl rfl rfl (step_r rfl rfl trivial (step_nil (seqK_n ?_)))))))))))
 refine sem_seq (sem_region rfl (step_r (v := (.agg [_, _, _, _, _, _, _, _, _, _])) rfl rfl (Nat.le_of_ble_eq_true rfl) (step_call rfl rfl rfl rfl (few9_ok c) rfl rfl rfl (step_r rfl rfl trivial (step_nil (seqK_n (sem_seq (sem_seq (sem_region rfl (step_r rfl rfl trivial (step_r rfl rfl trivial ?_)))))))))))
 refine step_r rfl rfl trivial ?_
 refine step_gs rfl (fun h4 => ?_) (fun h4 => ?_)
 ·have g4 : ¬ (few9 c = true) := boo_f (not_t h4)
  refine step_g0 rfl h4 rfl (step_g0 rfl h4 rfl (step_g0 rfl h4 rfl (step_pickT rfl h4 rfl rfl (step_nil (seqK_n (sem_condT rfl (sem_seq (sem_region rfl (step_r rfl rfl trivial (step_r rfl rfl trivial (step_nil ?_)))))))))))
  refine seqK_n (sem_ret (seqK_r ?_))
  have e5 : sums15 c l kind n = (small15) := by
   unfold sums15
   try dsimp only
   rewrite [if_neg g4]
   all_goals rfl
  rw [e5]
  exact answersR rfl ⟨trivial, trivial⟩ (rfl) rfl
 ·have g4 : few9 c = true := (not_f h4)
  have qg4 := few_of g4
  refine step_g1 rfl h4 (step_r rfl rfl trivial (step_g1 rfl h4 (step_r rfl rfl trivial (step_g1 rfl h4 (step_bin rfl rfl rfl rfl rfl trivial (step_pickF rfl h4 rfl rfl (step_nil (seqK_n ?_))))))))
  refine sem_cond rfl (fun h7 => ?_) (fun h7 => ?_)
  ·have g7 : (l.length : Int) > 60 := of_decide_eq_true h7
   refine sem_seq (sem_region rfl (step_r rfl rfl trivial (step_r rfl rfl trivial (step_nil (seqK_n (sem_ret (seqK_r ?_)))))))
   have e8 : sums15 c l kind n = (small15) := by
    unfold sums15
    try dsimp only
    rewrite [if_pos g4, if_pos g7]
    all_goals rfl
   rw [e8]
   exact answersR rfl ⟨trivial, trivial⟩ (rfl) rfl
  ·have g7 : ¬ ((l.length : Int) > 60) := of_decide_eq_false h7
   refine sem_skip (seqK_n (sem_seq (sem_region rfl (step_r rfl rfl ⟨by decide, rfl⟩ (step_r rfl rfl trivial ?_)))))
   refine step_appendN (m := l.length) (new := l.flatMap encGActive) (cs' := l.flatMap encGActive) (n' := l.length) rfl rfl (rfl) rfl rfl rfl rfl rfl rfl (flat_len (s := 6) (enc := encGActive) (fun _ => rfl) l) (by first | decide | (unfold maxGrow; omega) | (unfold maxGrow; simp; omega) | (unfold maxGrow; simp only [List.length_append, List.length_take, List.length_drop, List.length_cons, List.length_nil, IntKind.wrap_i64] at *; omega)) rfl rfl rfl rfl ?_
   refine step_r rfl rfl trivial (step_nil (seqK_n (sem_seq (sem_region rfl (step_r (v := (.agg [_, _, _, _, _, _, _, _, _, _])) rfl rfl (Nat.le_of_ble_eq_true rfl) (step_r rfl rfl trivial (step_r rfl rfl trivial ?_)))))))
   refine step_callJ (Hin := [.row _ _ _]) (out' := .tup [.ref 2 _ _ _, _]) (H' := [(2, .row _ _ _), (1, .row _ _ _), (0, .box [_, _, _, _, _, _, _, _, _, _])]) (nx' := 3) [1] rfl rfl rfl rfl rfl rfl rfl rfl rfl (by (repeat' apply And.intro) <;> first | trivial | rfl | exact flat_len (s := 6) (enc := encGActive) (fun _ => rfl) _ | exact flat_len (fun _ => rfl) _ | exact encI_len _ | exact Nat.le_of_ble_eq_true rfl | assumption) (take15_ok c l false n (by first | assumption | omega | (simp only [List.length_nil, List.length_cons, List.length_append] at *; omega) | (simp; done) | (simp; omega))) rfl (by decide) rfl rfl ⟨encGActive_solid, trivial⟩ rfl rfl rfl rfl ?_
   have p10 := take15_len c l n
   refine step_r rfl rfl trivial (step_r rfl rfl trivial (step_r rfl rfl trivial (step_r rfl rfl trivial (step_r rfl rfl trivial (step_nil (seqK_n (sem_seq (sem_region rfl (step_r (v := (.agg [_, _, _, _, _, _, _, _, _, _])) rfl rfl (Nat.le_of_ble_eq_true rfl) (step_r rfl rfl trivial (step_r rfl rfl trivial ?_)))))))))))
   refine step_callN (out' := .tup [.ref 3 _ _ _, _]) (H' := [(3, .row _ _ _), (2, .row _ _ _), (1, .row _ _ _), (0, .box [_, _, _, _, _, _, _, _, _, _])]) (nx' := 4) rfl rfl rfl rfl rfl rfl rfl (by (repeat' apply And.intro) <;> first | trivial | rfl | exact flat_len (fun _ => rfl) _ | exact encI_len _ | exact Nat.le_of_ble_eq_true rfl | assumption) (takeR_ok c l false n (by first | assumption | omega | (simp only [List.length_nil, List.length_cons, List.length_append] at *; omega) | (simp; done) | (simp; omega))) rfl rfl rfl rfl ?_
   refine step_r rfl rfl trivial (step_r rfl rfl trivial (step_r rfl rfl trivial (step_r rfl rfl trivial (step_r rfl rfl trivial (step_nil (seqK_n (sem_seq ?_)))))))
   refine sem_cutW (fun same_46 : Bool => (⟨[(1, .pv (.slc l.length l_f (l.flatMap encGActive))), (2, I kind), (4, .ptr 0 0), (9, B (small15)), (11, .ref 1 6 0 l.length), (12, .ref 2 6 0 (take15 c l n).1.length), (16, B same_46)], [(0, .box [.pv (.slc c.Abilities.length false (c.Abilities.flatMap encGAbility)), .pv (.slc c.Auras.length false (c.Auras.flatMap encGAura)), .pv (.slc c.Foes.length false (c.Foes.flatMap encGFoe)), I c.Map.W, I c.Map.H, .pv (.slc c.Map.Wall.length false (encB c.Map.Wall)), I c.Door.X, I c.Door.Y, I c.Lair.X, I c.Lair.Y]), (1, .row 42 6 (l.flatMap encGActive)), (2, .row 42 6 ((take15 c l n).1.flatMap encGActive))], 3, [], 95, 0⟩ : St)) (fun w_ => sums15_J46 c l n = w_) ?_ ?_
   ·refine sem_region rfl (step_r rfl rfl trivial (step_r rfl rfl trivial ?_))
    refine step_callJ (Hin := [.row _ _ _, .row _ _ _]) (H' := [(3, .row _ _ _), (2, .row _ _ _), (1, .row _ _ _), (0, .box [_, _, _, _, _, _, _, _, _, _])]) (nx' := 4) [2, 3] rfl rfl rfl rfl rfl rfl rfl rfl rfl (by (repeat' apply And.intro) <;> first | trivial | rfl | exact flat_len (s := 6) (enc := encGActive) (fun _ => rfl) _ | exact flat_len (fun _ => rfl) _ | exact encI_len _ | exact Nat.le_of_ble_eq_true rfl | assumption) (sameL ((take15 c l n).1) false ((takeR c l n).1) false) rfl (by decide) rfl rfl trivial rfl rfl rfl rfl ?_
    refine step_r rfl rfl trivial ?_
    refine step_gs rfl (fun h15 => ?_) (fun h15 => ?_)
    ·have g15 : ((take15 c l n).1) = ((takeR c l n).1) := of_decide_eq_true h15
     refine step_g1 rfl h15 (step_r rfl rfl trivial (step_g1 rfl h15 (step_r rfl rfl trivial (step_g1 rfl h15 (step_bin rfl rfl rfl rfl rfl trivial (step_pickT rfl h15 rfl rfl (step_r rfl rfl trivial (step_nil ?_))))))))
     have e17 : sums15_J46 c l n = (((take15 c l n).2 : Int) == ((takeR c l n).2)) := by
      unfold sums15_J46
      try dsimp only
      rewrite [if_pos g15]
      all_goals rfl
     exact cutW_n (((take15 c l n).2 : Int) == ((takeR c l n).2)) e17 (Trans.ren [] (by decide +kernel) (by decide +kernel) rfl ⟨⟨rfl, rfl⟩, ⟨rfl, rfl⟩, ⟨rfl, rfl⟩, ⟨rfl, rfl⟩, ⟨rfl, rfl⟩, ⟨rfl, rfl⟩, ⟨rfl, rfl⟩, trivial⟩ ⟨⟨rfl, rfl, rfl⟩, ⟨rfl, rfl, rfl⟩, ⟨rfl, rfl, rfl⟩, trivial⟩ (by decide))
    ·have g15 : ¬ (((take15 c l n).1) = ((takeR c l n).1)) := of_decide_eq_false h15
     refine step_g0 rfl h15 rfl (step_g0 rfl h15 rfl (step_g0 rfl h15 rfl (step_pickF rfl h15 rfl rfl (step_r rfl rfl trivial (step_nil ?_)))))
     have e18 : sums15_J46 c l n = false := by
      unfold sums15_J46
      try dsimp only
      rewrite [if_neg g15]
      all_goals rfl
     exact cutW_n false e18 (Trans.ren [] (by decide +kernel) (by decide +kernel) rfl ⟨⟨rfl, rfl⟩, ⟨rfl, rfl⟩, ⟨rfl, rfl⟩, ⟨rfl, rfl⟩, ⟨rfl, rfl⟩, ⟨rfl, rfl⟩, ⟨rfl, rfl⟩, trivial⟩ ⟨⟨rfl, rfl, rfl⟩, ⟨rfl, rfl, rfl⟩, ⟨rfl, rfl, rfl⟩, trivial⟩ (by decide))
   ·rintro same_46 (hJ13 : sums15_J46 c l n = same_46)
    show seqK _ _ _ .normal (⟨[(1, .pv (.slc l.length l_f (l.flatMap encGActive))), (2, I kind), (4, .ptr 0 0), (9, B (small15)), (11, .ref 1 6 0 l.length), (12, .ref 2 6 0 (take15 c l n).1.length), (16, B same_46)], [(0, .box [.pv (.slc c.Abilities.length false (c.Abilities.flatMap encGAbility)), .pv (.slc c.Auras.length false (c.Auras.flatMap encGAura)), .pv (.slc c.Foes.length false (c.Foes.flatMap encGFoe)), I c.Map.W, I c.Map.H, .pv (.slc c.Map.Wall.length false (encB c.Map.Wall)), I c.Door.X, I c.Door.Y, I c.Lair.X, I c.Lair.Y]), (1, .row 42 6 (l.flatMap encGActive)), (2, .row 42 6 ((take15 c l n).1.flatMap encGActive))], 3, [], 95, 0⟩ : St)
    refine seqK_n (sem_seq (sem_seq (sem_region rfl (step_r rfl rfl trivial (step_nil (seqK_n ?_))))))
    refine sem_cutW (fun w_ : Unit => match w_ with | () => (⟨[(1, .pv (.slc l.length l_f (l.flatMap encGActive))), (2, I kind), (4, .ptr 0 0), (9, B (small15)), (11, .ref 1 6 0 l.length), (16, B same_46)], [(0, .box [.pv (.slc c.Abilities.length false (c.Abilities.flatMap encGAbility)), .pv (.slc c.Auras.length false (c.Auras.flatMap encGAura)), .pv (.slc c.Foes.length false (c.Foes.flatMap encGFoe)), I c.Map.W, I c.Map.H, .pv (.slc c.Map.Wall.length false (encB c.Map.Wall)), I c.Door.X, I c.Door.Y, I c.Lair.X, I c.Lair.Y]), (1, .row 42 6 (l.flatMap encGActive))], 2, [], 95, 0⟩ : St)) (fun w_ => sums15_L0 (((take15 c l n).1.length) - 0) 0 ((take15 c l n).1) = w_) ?_ ?_
    ·refine sem_block ?_
     refine sem_loopT (fun w_ : Nat × (List GActive) => match w_ with | (k0, a0) => (⟨[(1, .pv (.slc l.length l_f (l.flatMap encGActive))), (2, I kind), (4, .ptr 0 0), (9, B (small15)), (11, .ref 1 6 0 l.length), (12, .ref 2 6 0 a0.length), (16, B same_46), (17, I k0)], [(0, .box [.pv (.slc c.Abilities.length false (c.Abilities.flatMap encGAbility)), .pv (.slc c.Auras.length false (c.Auras.flatMap encGAura)), .pv (.slc c.Foes.length false (c.Foes.flatMap encGFoe)), I c.Map.W, I c.Map.H, .pv (.slc c.Map.Wall.length false (encB c.Map.Wall)), I c.Door.X, I c.Door.Y, I c.Lair.X, I c.Lair.Y]), (1, .row 42 6 (l.flatMap encGActive)), (2, .row 42 6 (a0.flatMap encGActive))], 3, [], 95, 0⟩ : St)) (fun w_ : Nat × (List GActive) => match w_ with | (k0, a0) => sums15_L0 (((take15 c l n).1.length) - k0) k0 a0 = sums15_L0 (((take15 c l n).1.length) - 0) 0 ((take15 c l n).1) ∧ k0 ≤ (take15 c l n).1.length ∧ a0.length = (take15 c l n).1.length) (fun w_ : Nat × (List GActive) => match w_ with | (k0, a0) => (take15 c l n).1.length - k0) (0, (take15 c l n).1) (⟨rfl, (by first | omega | (simp; omega)), by first | omega | simp | (simp; omega)⟩) ?_ (fun w_ hh_ => ?_)
     ·exact (Trans.ren [] (by decide +kernel) (by decide +kernel) rfl ⟨⟨rfl, rfl⟩, ⟨rfl, rfl⟩, ⟨rfl, rfl⟩, ⟨rfl, rfl⟩, ⟨rfl, rfl⟩, ⟨rfl, rfl⟩, ⟨rfl, rfl⟩, ⟨rfl, rfl⟩, trivial⟩ ⟨⟨rfl, rfl, rfl⟩, ⟨rfl, rfl, rfl⟩, ⟨rfl, rfl, rfl⟩, trivial⟩ (by decide))
     obtain ⟨k0, a0⟩ := w_
     obtain ⟨hI0, hb0, hv0⟩ := hh_
     show Walks Try.prog _ _ (⟨[(1, .pv (.slc l.length l_f (l.flatMap encGActive))), (2, I kind), (4, .ptr 0 0), (9, B (small15)), (11, .ref 1 6 0 l.length), (12, .ref 2 6 0 a0.length), (16, B same_46), (17, I k0)], [(0, .box [.pv (.slc c.Abilities.length false (c.Abilities.flatMap encGAbility)), .pv (.slc c.Auras.length false (c.Auras.flatMap encGAura)), .pv (.slc c.Foes.length false (c.Foes.flatMap encGFoe)), I c.Map.W, I c.Map.H, .pv (.slc c.Map.Wall.length false (encB c.Map.Wall)), I c.Door.X, I c.Door.Y, I c.Lair.X, I c.Lair.Y]), (1, .row 42 6 (l.flatMap encGActive)), (2, .row 42 6 (a0.flatMap encGActive))], 3, [], 95, 0⟩ : St)
     refine sem_seq (sem_seq (sem_region rfl (step_r rfl rfl trivial (step_r rfl rfl trivial (step_r rfl rfl trivial (step_bin rfl rfl rfl rfl rfl trivial (step_nil (seqK_n ?_))))))))
     refine sem_cond rfl (fun h21 => ?_) (fun h21 => ?_)
     ·have g21 : (k0 : Int) < a0.length := of_decide_eq_true h21
      have hm0 : (take15 c l n).1.length - k0 = ((take15 c l n).1.length - (k0 + 1)) + 1 := by omega
      refine sem_skip (seqK_n (sem_seq (sem_block (sem_region rfl (step_r rfl rfl trivial (step_r rfl rfl trivial ?_))))))
      have jk22 : k0 < a0.length := by first | assumption | omega | (simp only [List.length_set, List.length_append]; omega) | (simp only [IntKind.wrap_i64] at *; omega) | (simp; omega) | simp_all
      refine step_idxR (k := k0) rfl rfl rfl rfl jk22 rfl (step_r rfl rfl (by decide) ?_)
      refine step_storeR rfl rfl rfl rfl (by first | decide | (have := flat_lt (s := 6) (enc := encGActive) (fun _ => rfl) jk22; show k0 * 6 + 0 < _; omega)) (flat_set (enc := encGActive) (s := 6) (y := { (a0.getD k0 default) with Aura := (-7) }) (fun _ => rfl) (get_getD jk22) (by decide) rfl) (.inl rfl) rfl ?_
      refine step_nil (blkK_n (seqK_n (sem_region rfl (step_r rfl rfl trivial (step_bin rfl rfl rfl rfl rfl trivial (step_r rfl rfl trivial (step_nil ?_)))))))
      have e24 : sums15_L0 (((take15 c l n).1.length) - k0) k0 a0 = sums15_L0 (((take15 c l n).1.length) - (k0 + 1)) (k0 + 1) (a0.set k0 { (a0.getD k0 default) with Aura := (-7) }) := by
       rfl
      exact lup_againT (k0 + 1, (a0.set k0 { (a0.getD k0 default) with Aura := (-7) })) ⟨e24.symm.trans hI0, (by omega), by first | omega | assumption | (simp only [List.length_append, List.length_cons, List.length_nil, List.length_set]; omega) | (simp; omega) | grind⟩ (by show (take15 c l n).1.length - (k0 + 1) < (take15 c l n).1.length - k0; omega) (Trans.ren [] (by decide +kernel) (by decide +kernel) rfl ⟨⟨rfl, rfl⟩, ⟨rfl, rfl⟩, ⟨rfl, rfl⟩, ⟨rfl, rfl⟩, ⟨rfl, rfl⟩, ⟨congrArg (fun n => some (AV.ref 2 6 0 n)) (by first | rfl | simp only [List.length_set] | simp | omega | (simp; omega)), rfl⟩, ⟨rfl, rfl⟩, ⟨congrArg (fun n => some (I n)) (wrapI (k := k0) (by first | omega | (simp; omega))), rfl⟩, trivial⟩ ⟨⟨rfl, rfl, rfl⟩, ⟨rfl, rfl, rfl⟩, ⟨rfl, rfl, rfl⟩, trivial⟩ (by decide))
     ·have g21 : ¬ ((k0 : Int) < a0.length) := of_decide_eq_false h21
      have hm0 : (take15 c l n).1.length - k0 = 0 := by omega
      refine sem_exit (seqK_e (lupK_e (blkK_t rfl ?_)))
      have e25 : sums15_L0 (((take15 c l n).1.length) - 0) 0 ((take15 c l n).1) = () := by
       rfl
      exact cutW_n () e25 (Trans.ren [] (by decide +kernel) (by decide +kernel) rfl ⟨⟨rfl, rfl⟩, ⟨rfl, rfl⟩, ⟨rfl, rfl⟩, ⟨rfl, rfl⟩, ⟨rfl, rfl⟩, ⟨rfl, rfl⟩, trivial⟩ ⟨⟨rfl, rfl, rfl⟩, ⟨rfl, rfl, rfl⟩, trivial⟩ (by decide))
    ·rintro ⟨⟩ (hJ19 : sums15_L0 (((take15 c l n).1.length) - 0) 0 ((take15 c l n).1) = ())
     show seqK _ _ _ .normal (⟨[(1, .pv (.slc l.length l_f (l.flatMap encGActive))), (2, I kind), (4, .ptr 0 0), (9, B (small15)), (11, .ref 1 6 0 l.length), (16, B same_46)], [(0, .box [.pv (.slc c.Abilities.length false (c.Abilities.flatMap encGAbility)), .pv (.slc c.Auras.length false (c.Auras.flatMap encGAura)), .pv (.slc c.Foes.length false (c.Foes.flatMap encGFoe)), I c.Map.W, I c.Map.H, .pv (.slc c.Map.Wall.length false (encB c.Map.Wall)), I c.Door.X, I c.Door.Y, I c.Lair.X, I c.Lair.Y]), (1, .row 42 6 (l.flatMap encGActive))], 2, [], 95, 0⟩ : St)
     refine seqK_n (sem_seq ?_)
     refine sem_drawn rfl (by decide +kernel) rfl ?_
     refine step_r rfl rfl trivial (step_r rfl rfl trivial ?_)
     refine step_gs rfl (fun h27 => ?_) (fun h27 => ?_)
     ·have g27 : small15 = true := h27
      refine step_g1 rfl h27 (step_r rfl rfl trivial (step_pickT rfl h27 rfl rfl (step_r rfl rfl trivial ?_)))
      refine step_gs rfl (fun h29 => ?_) (fun h29 => ?_)
      ·have g29 : same_46 = true := h29
       refine step_g1 rfl h29 (step_r (v := (.agg [_, _, _, _, _, _, _, _, _, _])) rfl rfl (Nat.le_of_ble_eq_true rfl) (step_g1 rfl h29 (step_r rfl rfl trivial (step_g1 rfl h29 (step_r rfl rfl trivial (step_g1 rfl h29 ?_))))))
       refine step_callJ (Hin := [.row _ _ _]) (H' := [(0, .box [_, _, _, _, _, _, _, _, _, _]), (1, .row _ _ _)]) (nx' := 2) [1] rfl rfl rfl rfl rfl rfl rfl rfl rfl (by (repeat' apply And.intro) <;> first | trivial | rfl | exact flat_len (s := 6) (enc := encGActive) (fun _ => rfl) _ | exact flat_len (fun _ => rfl) _ | exact encI_len _ | exact Nat.le_of_ble_eq_true rfl | assumption) (sum15_ok c l false kind) rfl (by decide) rfl rfl trivial rfl rfl rfl rfl ?_
       refine step_g1 rfl h29 (step_r (v := (.agg [_, _, _, _, _, _, _, _, _, _])) rfl rfl (Nat.le_of_ble_eq_true rfl) (step_g1 rfl h29 (step_r rfl rfl trivial (step_g1 rfl h29 (step_r rfl rfl trivial (step_g1 rfl h29 (step_call rfl rfl rfl rfl (sumR_ok c l l_f kind) rfl rfl rfl (step_g1 rfl h29 (step_bin rfl rfl rfl rfl rfl trivial (step_pickT rfl h29 rfl rfl (step_r rfl rfl trivial ?_)))))))))))
       refine step_gs rfl (fun h32 => ?_) (fun h32 => ?_)
       ·have g32 : (sum15 c l kind : Int) = (sumR c l kind) := beq_t h32
        refine step_g1 rfl h32 (step_r (v := (.agg [_, _, _, _, _, _, _, _, _, _])) rfl rfl (Nat.le_of_ble_eq_true rfl) (step_g1 rfl h32 (step_r rfl rfl trivial (step_g1 rfl h32 (step_r rfl rfl trivial (step_g1 rfl h32 ?_))))))
        refine step_callJ (Hin := [.row _ _ _]) (H' := [(0, .box [_, _, _, _, _, _, _, _, _, _]), (1, .row _ _ _)]) (nx' := 2) [1] rfl rfl rfl rfl rfl rfl rfl rfl rfl (by (repeat' apply And.intro) <;> first | trivial | rfl | exact flat_len (s := 6) (enc := encGActive) (fun _ => rfl) _ | exact flat_len (fun _ => rfl) _ | exact encI_len _ | exact Nat.le_of_ble_eq_true rfl | assumption) (has15_ok c l false kind) rfl (by decide) rfl rfl trivial rfl rfl rfl rfl ?_
        refine step_g1 rfl h32 (step_r (v := (.agg [_, _, _, _, _, _, _, _, _, _])) rfl rfl (Nat.le_of_ble_eq_true rfl) (step_g1 rfl h32 (step_r rfl rfl trivial (step_g1 rfl h32 (step_r rfl rfl trivial (step_g1 rfl h32 (step_call rfl rfl rfl rfl (hasR_ok c l l_f kind) rfl rfl rfl (step_g1 rfl h32 (step_bin rfl rfl rfl rfl rfl trivial (step_pickT rfl h32 rfl rfl (step_r rfl rfl trivial ?_)))))))))))
        refine step_gs rfl (fun h34 => ?_) (fun h34 => ?_)
        ·have g34 : (has15 c l kind) = (hasR c l kind) := beq_t h34
         refine step_g1 rfl h34 (step_r rfl rfl trivial (step_g1 rfl h34 (step_r rfl rfl trivial (step_g1 rfl h34 ?_))))
         refine step_callJ (Hin := [.row _ _ _]) (H' := [(0, .box [_, _, _, _, _, _, _, _, _, _]), (1, .row _ _ _)]) (nx' := 2) [1] rfl rfl rfl rfl rfl rfl rfl rfl rfl (by (repeat' apply And.intro) <;> first | trivial | rfl | exact flat_len (s := 6) (enc := encGActive) (fun _ => rfl) _ | exact flat_len (fun _ => rfl) _ | exact encI_len _ | exact Nat.le_of_ble_eq_true rfl | assumption) (sameL l false l false) rfl (by decide) rfl rfl trivial rfl rfl rfl rfl ?_
         refine step_pickT rfl h34 rfl rfl (step_r rfl rfl trivial (step_nil (seqK_n (sem_ret ?_))))
         have e36 : sums15 c l kind n = (decide (l = l)) := by
          unfold sums15
          try dsimp only
          rewrite [if_pos g4, if_neg g7, hJ13]
          try dsimp only
          rewrite [if_pos g27, if_pos g29, if_pos g32, if_pos g34]
          all_goals rfl
         rw [e36]
         exact answersR rfl ⟨trivial, trivial⟩ (rfl) rfl
        ·have g34 : ¬ ((has15 c l kind) = (hasR c l kind)) := beq_f h34
         refine step_g0 rfl h34 rfl (step_g0 rfl h34 rfl (step_g0 rfl h34 rfl (step_pickF rfl h34 rfl rfl (step_r rfl rfl trivial (step_nil (seqK_n (sem_ret ?_)))))))
         have e37 : sums15 c l kind n = false := by
          unfold sums15
          try dsimp only
          rewrite [if_pos g4, if_neg g7, hJ13]
          try dsimp only
          rewrite [if_pos g27, if_pos g29, if_pos g32, if_neg g34]
          all_goals rfl
         rw [e37]
         exact answersR rfl ⟨trivial, trivial⟩ (rfl) rfl
       ·have g32 : ¬ ((sum15 c l kind : Int) = (sumR c l kind)) := beq_f h32
        refine step_g0 rfl h32 rfl (step_g0 rfl h32 rfl (step_g0 rfl h32 rfl (step_g0 rfl h32 rfl (step_g0 rfl h32 rfl (step_g0 rfl h32 rfl (step_g0 rfl h32 rfl (step_g0 rfl h32 rfl (step_g0 rfl h32 rfl (step_pickF rfl h32 rfl rfl (step_r rfl rfl trivial (step_gf rfl rfl ?_)))))))))))
        refine step_gf rfl rfl (step_gf rfl rfl (step_r rfl rfl trivial (step_r rfl rfl trivial (step_nil (seqK_n (sem_ret ?_))))))
        have e38 : sums15 c l kind n = false := by
         unfold sums15
         try dsimp only
         rewrite [if_pos g4, if_neg g7, hJ13]
         try dsimp only
         rewrite [if_pos g27, if_pos g29, if_neg g32]
         all_goals rfl
        rw [e38]
        exact answersR rfl ⟨trivial, trivial⟩ (rfl) rfl
      ·have g29 : ¬ (same_46 = true) := boo_f h29
       refine step_g0 rfl h29 rfl (step_g0 rfl h29 rfl (step_g0 rfl h29 rfl (step_g0 rfl h29 rfl (step_g0 rfl h29 rfl (step_g0 rfl h29 rfl (step_g0 rfl h29 rfl (step_g0 rfl h29 rfl (step_g0 rfl h29 rfl (step_pickF rfl h29 rfl rfl (step_r rfl rfl trivial (step_gf rfl rfl ?_)))))))))))
       refine step_gf rfl rfl (step_gf rfl rfl (step_gf rfl rfl (step_gf rfl rfl (step_gf rfl rfl (step_gf rfl rfl (step_gf rfl rfl (step_gf rfl rfl (step_r rfl rfl trivial (step_r rfl rfl trivial (step_gf rfl rfl (step_gf rfl rfl ?_)))))))))))
       refine step_gf rfl rfl (step_r rfl rfl trivial (step_r rfl rfl trivial (step_nil (seqK_n (sem_ret ?_)))))
       have e39 : sums15 c l kind n = false := by
        unfold sums15
        try dsimp only
        rewrite [if_pos g4, if_neg g7, hJ13]
        try dsimp only
        rewrite [if_pos g27, if_neg g29]
        all_goals rfl
       rw [e39]
       exact answersR rfl ⟨trivial, trivial⟩ (rfl) rfl
     ·have g27 : ¬ (small15 = true) := boo_f h27
      refine step_g0 rfl h27 rfl (step_pickF rfl h27 rfl rfl (step_r rfl rfl trivial (step_gf rfl rfl (step_gf rfl rfl (step_gf rfl rfl (step_gf rfl rfl (step_gf rfl rfl (step_gf rfl rfl (step_gf rfl rfl (step_gf rfl rfl (step_gf rfl rfl ?_)))))))))))
      refine step_r rfl rfl trivial (step_r rfl rfl trivial (step_gf rfl rfl (step_gf rfl rfl (step_gf rfl rfl (step_gf rfl rfl (step_gf rfl rfl (step_gf rfl rfl (step_gf rfl rfl (step_gf rfl rfl (step_gf rfl rfl (step_r rfl rfl trivial ?_)))))))))))
      refine step_r rfl rfl trivial (step_gf rfl rfl (step_gf rfl rfl (step_gf rfl rfl (step_r rfl rfl trivial (step_r rfl rfl trivial (step_nil (seqK_n (sem_ret ?_))))))))
      have e40 : sums15 c l kind n = false := by
       unfold sums15
       try dsimp only
       rewrite [if_pos g4, if_neg g7, hJ13]
       try dsimp only
       rewrite [if_neg g27]
       all_goals rfl
      rw [e40]
      exact answersR rfl ⟨trivial, trivial⟩ (rfl) rfl
end Go.Proofs.Ytcbdecknbfabaaa

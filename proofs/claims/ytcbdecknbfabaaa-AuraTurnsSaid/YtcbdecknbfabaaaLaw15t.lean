import Derived.Test.YtcbdecknbfabaaaRef15
namespace Go.Proofs.Ytcbdecknbfabaaa
open Go Go.RowKit Go.Proofs.YtcbdecknbfabaaaVm
attribute [local irreducible] opsWp AnswersE OpsS
set_option maxHeartbeats 400000
set_option maxRecDepth 100000
set_option linter.all false
theorem applyR_len (c : GContent) (l : List GActive) (id source now : Int) : True := trivial
def turns15_J69 (c : GContent) (l : List GActive) (id : Int) (source : Int) (now : Int) : Bool :=
  if ((apply15 c l id source now).1) = ((applyR c l id source now).1) then (if ((apply15 c l id source now).2 : Int) = ((applyR c l id source now).2) then (if ((expire15 l now).1) = ((expireR l now).1) then (decide (((expire15 l now).2) = ((expireR l now).2))) else false) else false) else false
def turns15_L0 : Nat → Nat → (List GActive) → Unit
  | 0, k0, a0 => ()
  | n_ + 1, k0, a0 => turns15_L0 n_ (k0 + 1) (a0.set k0 { (a0.getD k0 default) with Aura := (-7) })
def turns15_J111 (c : GContent) (l : List GActive) (now : Int) (same_69 : Bool) : Bool :=
  if same_69 = true then (if ((tick15 c l now).1) = ((tickR c l now).1) then (decide (((tick15 c l now).2) = ((tickR c l now).2))) else false) else false
def turns15_L1 : Nat → Nat → (List GActive) → Unit
  | 0, k1, x1' => ()
  | n_ + 1, k1, x1' => turns15_L1 n_ (k1 + 1) (x1'.set k1 { ((x1').getD k1 default) with Aura := (-7) })
def turns15 (c : GContent) (l : List GActive) (id : Int) (source : Int) (now : Int) : Bool :=
  if few9 c = true then (if (l.length : Int) > 60 then (small15) else (let same_69 := turns15_J69 c l id source now; (let same_111 := turns15_J111 c l now same_69; if small15 = true then (if same_111 = true then (if ((dispel15 c l id).1) = ((dispelR c l id).1) then (if ((dispel15 c l id).2) = ((dispelR c l id).2) then (if (right15 c l) = (rightR15 c l) then (decide (l = l)) else false) else false) else false) else false) else false))) else (small15)
theorem turns15_ok (c : GContent) (l : List GActive) (l_f : Bool) (id : Int) (source : Int) (now : Int) : Ok Try.prog 3 [aGContent c, .pv (.slc l.length l_f (l.flatMap encGActive)), I id, I source, I now] [] (B (turns15 c l id source now)) [] [] := by
 refine Ok.len fun hlen => ?_
 have hl_c_Abilities : c.Abilities.length ≤ maxLen := hlen _ (by simp [lensL, lens, lensP])
 have hl_c_Auras : c.Auras.length ≤ maxLen := hlen _ (by simp [lensL, lens, lensP])
 have hl_c_Foes : c.Foes.length ≤ maxLen := hlen _ (by simp [lensL, lens, lensP])
 have hl_c_Map_Wall : c.Map.Wall.length ≤ maxLen := hlen _ (by simp [lensL, lens, lensP])
 have hl_l : l.length ≤ maxLen := hlen _ (by simp [lensL, lens, lensP])
 unfold maxLen at hl_c_Abilities hl_c_Auras hl_c_Foes hl_c_Map_Wall hl_l
 refine ok_of_sem Try.func3 rfl ?_
 show Walks Try.prog _ _ ⟨[(0, aGContent c), (1, .pv (.slc l.length l_f (l.flatMap encGActive))), (2, I id), (3, I source), (4, I now)], [], 0, [], 174, 0⟩
 refine sem_seq (sem_region rfl (step_n (o := .box [_, _, _, _, _, _, _, _, _, _]) (nx' := 1) rfl rfl rfl trivial (step_r rfl rfl trivial (step_nil (seqK_n (sem_seq (sem_region rfl (step_call rfl rfl rfl rfl (small15_ok ) rfl rfl rfl (step_r rfl rfl trivial (step_nil (seqK_n ?_)))))))))))
 refine sem_seq (sem_region rfl (step_r (v := (.agg [_, _, _, _, _, _, _, _, _, _])) rfl rfl (Nat.le_of_ble_eq_true rfl) (step_call rfl rfl rfl rfl (few9_ok c) rfl rfl rfl (step_r rfl rfl trivial (step_nil (seqK_n (sem_seq (sem_seq (sem_region rfl (step_r rfl rfl trivial (step_r rfl rfl trivial ?_)))))))))))
 refine step_r rfl rfl trivial ?_
 refine step_gs rfl (fun h4 => ?_) (fun h4 => ?_)
 ·have g4 : ¬ (few9 c = true) := boo_f (not_t h4)
  refine step_g0 rfl h4 rfl (step_g0 rfl h4 rfl (step_g0 rfl h4 rfl (step_pickT rfl h4 rfl rfl (step_nil (seqK_n (sem_condT rfl (sem_seq (sem_region rfl (step_r rfl rfl trivial (step_r rfl rfl trivial (step_nil ?_)))))))))))
  refine seqK_n (sem_ret (seqK_r ?_))
  have e5 : turns15 c l id source now = (small15) := by
   unfold turns15
   try dsimp only
   rewrite [if_neg g4]
   all_goals rfl
  rw [e5]
  exact answersR rfl ⟨trivial, trivial⟩ (rfl) rfl
 ·have g4 : few9 c = true := (not_f h4)
  have qg4 := few_of g4
  refine step_g1 rfl h4 (step_r rfl rfl trivial (step_g1 rfl h4 (step_r rfl rfl trivial (step_g1 rfl h4 (step_bin rfl rfl rfl rfl rfl trivial (step_pickF rfl h4 rfl rfl (step_nil (seqK_n ?_))))))))
  refine sem_cond rfl (fun h7 => ?_) (fun h7 => ?_)
  ·have g7 : (l.length : Int) > 60 := of_decide_eq_true h7
   refine sem_seq (sem_region rfl (step_r rfl rfl trivial (step_r rfl rfl trivial (step_nil (seqK_n (sem_ret (seqK_r ?_)))))))
   have e8 : turns15 c l id source now = (small15) := by
    unfold turns15
    try dsimp only
    rewrite [if_pos g4, if_pos g7]
    all_goals rfl
   rw [e8]
   exact answersR rfl ⟨trivial, trivial⟩ (rfl) rfl
  ·have g7 : ¬ ((l.length : Int) > 60) := of_decide_eq_false h7
   refine sem_skip (seqK_n (sem_seq (sem_region rfl (step_r rfl rfl ⟨by decide, rfl⟩ (step_r rfl rfl trivial ?_)))))
   refine step_appendN (m := l.length) (new := l.flatMap encGActive) (cs' := l.flatMap encGActive) (n' := l.length) rfl rfl (rfl) rfl rfl rfl rfl rfl rfl (flat_len (s := 6) (enc := encGActive) (fun _ => rfl) l) (by first | decide | (unfold maxGrow; omega) | (unfold maxGrow; simp; omega) | (unfold maxGrow; simp only [List.length_append, List.length_take, List.length_drop, List.length_cons, List.length_nil, IntKind.wrap_i64] at *; omega)) rfl rfl rfl rfl ?_
   refine step_r rfl rfl trivial (step_nil (seqK_n (sem_seq (sem_region rfl (step_r (v := (.agg [_, _, _, _, _, _, _, _, _, _])) rfl rfl (Nat.le_of_ble_eq_true rfl) (step_r rfl rfl trivial (step_r rfl rfl trivial (step_r rfl rfl trivial (step_r rfl rfl trivial ?_)))))))))
   refine step_callJ (Hin := [.row _ _ _]) (out' := .tup [.ref 2 _ _ _, _]) (H' := [(2, .row _ _ _), (1, .row _ _ _), (0, .box [_, _, _, _, _, _, _, _, _, _])]) (nx' := 3) [1] rfl rfl rfl rfl rfl rfl rfl rfl rfl (by (repeat' apply And.intro) <;> first | trivial | rfl | exact flat_len (s := 6) (enc := encGActive) (fun _ => rfl) _ | exact flat_len (fun _ => rfl) _ | exact encI_len _ | exact Nat.le_of_ble_eq_true rfl | assumption) (apply15_ok c l false id source now (by first | assumption | omega | (simp only [List.length_nil, List.length_cons, List.length_append] at *; omega) | (simp; done) | (simp; omega))) rfl (by decide) rfl rfl ⟨encGActive_solid, trivial⟩ rfl rfl rfl rfl ?_
   have p12 := apply15_len c l id source now
   refine step_r rfl rfl trivial (step_r rfl rfl trivial (step_r rfl rfl trivial (step_r rfl rfl trivial (step_r rfl rfl trivial (step_nil (seqK_n (sem_seq (sem_region rfl (step_r (v := (.agg [_, _, _, _, _, _, _, _, _, _])) rfl rfl (Nat.le_of_ble_eq_true rfl) (step_r rfl rfl trivial (step_r rfl rfl trivial ?_)))))))))))
   refine step_r rfl rfl trivial (step_r rfl rfl trivial ?_)
   refine step_callN (out' := .tup [.ref 3 _ _ _, _]) (H' := [(3, .row _ _ _), (2, .row _ _ _), (1, .row _ _ _), (0, .box [_, _, _, _, _, _, _, _, _, _])]) (nx' := 4) rfl rfl rfl rfl rfl rfl rfl (by (repeat' apply And.intro) <;> first | trivial | rfl | exact flat_len (fun _ => rfl) _ | exact encI_len _ | exact Nat.le_of_ble_eq_true rfl | assumption) (applyR_ok c l false id source now (by first | assumption | omega | (simp only [List.length_nil, List.length_cons, List.length_append] at *; omega) | (simp; done) | (simp; omega))) rfl rfl rfl rfl ?_
   refine step_r rfl rfl trivial (step_r rfl rfl trivial (step_r rfl rfl trivial (step_r rfl rfl trivial (step_r rfl rfl trivial (step_nil (seqK_n (sem_seq (sem_region rfl (step_r rfl rfl trivial (step_r rfl rfl trivial ?_))))))))))
   refine step_callJ (Hin := [.row _ _ _]) (out' := .tup [.ref 4 _ _ _, .ref 5 _ _ _]) (H' := [(4, .row _ _ _), (5, .row _ _ _), (3, .row _ _ _), (2, .row _ _ _), (1, .row _ _ _), (0, .box [_, _, _, _, _, _, _, _, _, _])]) (nx' := 6) [1] rfl rfl rfl rfl rfl rfl rfl rfl rfl (by (repeat' apply And.intro) <;> first | trivial | rfl | exact flat_len (s := 6) (enc := encGActive) (fun _ => rfl) _ | exact flat_len (fun _ => rfl) _ | exact encI_len _ | exact Nat.le_of_ble_eq_true rfl | assumption) (expire15_ok l false now (by first | assumption | omega | (simp only [List.length_nil, List.length_cons, List.length_append] at *; omega) | (simp; done) | (simp; omega))) rfl (by decide) rfl rfl ⟨encGActive_solid, encGActive_solid, trivial⟩ rfl rfl rfl rfl ?_
   have p15 := expire15_len l now
   refine step_r rfl rfl trivial (step_r rfl rfl trivial (step_r rfl rfl trivial (step_r rfl rfl trivial (step_r rfl rfl trivial (step_nil (seqK_n (sem_seq (sem_region rfl (step_r rfl rfl trivial (step_r rfl rfl trivial ?_))))))))))
   refine step_callN (out' := .tup [.ref 6 _ _ _, .ref 7 _ _ _]) (H' := [(6, .row _ _ _), (7, .row _ _ _), (4, .row _ _ _), (5, .row _ _ _), (3, .row _ _ _), (2, .row _ _ _), (1, .row _ _ _), (0, .box [_, _, _, _, _, _, _, _, _, _])]) (nx' := 8) rfl rfl rfl rfl rfl rfl rfl (by (repeat' apply And.intro) <;> first | trivial | rfl | exact flat_len (fun _ => rfl) _ | exact encI_len _ | exact Nat.le_of_ble_eq_true rfl | assumption) (expireR_ok l false now (by first | assumption | omega | (simp only [List.length_nil, List.length_cons, List.length_append] at *; omega) | (simp; done) | (simp; omega))) rfl rfl rfl rfl ?_
   refine step_r rfl rfl trivial (step_r rfl rfl trivial (step_r rfl rfl trivial (step_r rfl rfl trivial (step_r rfl rfl trivial (step_nil (seqK_n (sem_seq ?_)))))))
   refine sem_cutW (fun same_69 : Bool => (⟨[(1, .pv (.slc l.length l_f (l.flatMap encGActive))), (2, I id), (4, I now), (5, .ptr 0 0), (11, B (small15)), (13, .ref 1 6 0 l.length), (14, .ref 2 6 0 (apply15 c l id source now).1.length), (22, B same_69)], [(0, .box [.pv (.slc c.Abilities.length false (c.Abilities.flatMap encGAbility)), .pv (.slc c.Auras.length false (c.Auras.flatMap encGAura)), .pv (.slc c.Foes.length false (c.Foes.flatMap encGFoe)), I c.Map.W, I c.Map.H, .pv (.slc c.Map.Wall.length false (encB c.Map.Wall)), I c.Door.X, I c.Door.Y, I c.Lair.X, I c.Lair.Y]), (1, .row 42 6 (l.flatMap encGActive)), (2, .row 42 6 ((apply15 c l id source now).1.flatMap encGActive))], 3, [], 174, 0⟩ : St)) (fun w_ => turns15_J69 c l id source now = w_) ?_ ?_
   ·refine sem_region rfl (step_r rfl rfl trivial (step_r rfl rfl trivial ?_))
    refine step_callJ (Hin := [.row _ _ _, .row _ _ _]) (H' := [(6, .row _ _ _), (7, .row _ _ _), (4, .row _ _ _), (5, .row _ _ _), (3, .row _ _ _), (2, .row _ _ _), (1, .row _ _ _), (0, .box [_, _, _, _, _, _, _, _, _, _])]) (nx' := 8) [2, 3] rfl rfl rfl rfl rfl rfl rfl rfl rfl (by (repeat' apply And.intro) <;> first | trivial | rfl | exact flat_len (s := 6) (enc := encGActive) (fun _ => rfl) _ | exact flat_len (fun _ => rfl) _ | exact encI_len _ | exact Nat.le_of_ble_eq_true rfl | assumption) (sameL ((apply15 c l id source now).1) false ((applyR c l id source now).1) false) rfl (by decide) rfl rfl trivial rfl rfl rfl rfl ?_
    refine step_r rfl rfl trivial ?_
    refine step_gs rfl (fun h18 => ?_) (fun h18 => ?_)
    ·have g18 : ((apply15 c l id source now).1) = ((applyR c l id source now).1) := of_decide_eq_true h18
     refine step_g1 rfl h18 (step_r rfl rfl trivial (step_g1 rfl h18 (step_r rfl rfl trivial (step_g1 rfl h18 (step_bin rfl rfl rfl rfl rfl trivial (step_pickT rfl h18 rfl rfl (step_r rfl rfl trivial ?_)))))))
     refine step_gs rfl (fun h20 => ?_) (fun h20 => ?_)
     ·have g20 : ((apply15 c l id source now).2 : Int) = ((applyR c l id source now).2) := beq_t h20
      refine step_g1 rfl h20 (step_r rfl rfl trivial (step_g1 rfl h20 (step_r rfl rfl trivial (step_g1 rfl h20 ?_))))
      refine step_callJ (Hin := [.row _ _ _, .row _ _ _]) (H' := [(6, .row _ _ _), (7, .row _ _ _), (4, .row _ _ _), (5, .row _ _ _), (3, .row _ _ _), (2, .row _ _ _), (1, .row _ _ _), (0, .box [_, _, _, _, _, _, _, _, _, _])]) (nx' := 8) [4, 6] rfl rfl rfl rfl rfl rfl rfl rfl rfl (by (repeat' apply And.intro) <;> first | trivial | rfl | exact flat_len (s := 6) (enc := encGActive) (fun _ => rfl) _ | exact flat_len (fun _ => rfl) _ | exact encI_len _ | exact Nat.le_of_ble_eq_true rfl | assumption) (sameL ((expire15 l now).1) false ((expireR l now).1) false) rfl (by decide) rfl rfl trivial rfl rfl rfl rfl ?_
      refine step_pickT rfl h20 rfl rfl (step_r rfl rfl trivial ?_)
      refine step_gs rfl (fun h22 => ?_) (fun h22 => ?_)
      ·have g22 : ((expire15 l now).1) = ((expireR l now).1) := of_decide_eq_true h22
       refine step_g1 rfl h22 (step_r rfl rfl trivial (step_g1 rfl h22 (step_r rfl rfl trivial (step_g1 rfl h22 ?_))))
       refine step_callJ (Hin := [.row _ _ _, .row _ _ _]) (H' := [(6, .row _ _ _), (7, .row _ _ _), (4, .row _ _ _), (5, .row _ _ _), (3, .row _ _ _), (2, .row _ _ _), (1, .row _ _ _), (0, .box [_, _, _, _, _, _, _, _, _, _])]) (nx' := 8) [5, 7] rfl rfl rfl rfl rfl rfl rfl rfl rfl (by (repeat' apply And.intro) <;> first | trivial | rfl | exact flat_len (s := 6) (enc := encGActive) (fun _ => rfl) _ | exact flat_len (fun _ => rfl) _ | exact encI_len _ | exact Nat.le_of_ble_eq_true rfl | assumption) (sameL ((expire15 l now).2) false ((expireR l now).2) false) rfl (by decide) rfl rfl trivial rfl rfl rfl rfl ?_
       refine step_pickT rfl h22 rfl rfl (step_r rfl rfl trivial (step_nil ?_))
       have e24 : turns15_J69 c l id source now = (decide (((expire15 l now).2) = ((expireR l now).2))) := by
        unfold turns15_J69
        try dsimp only
        rewrite [if_pos g18, if_pos g20, if_pos g22]
        all_goals rfl
       exact cutW_n (decide (((expire15 l now).2) = ((expireR l now).2))) e24 (Trans.ren [] (by decide +kernel) (by decide +kernel) rfl ⟨⟨rfl, rfl⟩, ⟨rfl, rfl⟩, ⟨rfl, rfl⟩, ⟨rfl, rfl⟩, ⟨rfl, rfl⟩, ⟨rfl, rfl⟩, ⟨rfl, rfl⟩, ⟨rfl, rfl⟩, trivial⟩ ⟨⟨rfl, rfl, rfl⟩, ⟨rfl, rfl, rfl⟩, ⟨rfl, rfl, rfl⟩, trivial⟩ (by decide))
      ·have g22 : ¬ (((expire15 l now).1) = ((expireR l now).1)) := of_decide_eq_false h22
       refine step_g0 rfl h22 rfl (step_g0 rfl h22 rfl (step_g0 rfl h22 rfl (step_pickF rfl h22 rfl rfl (step_r rfl rfl trivial (step_nil ?_)))))
       have e25 : turns15_J69 c l id source now = false := by
        unfold turns15_J69
        try dsimp only
        rewrite [if_pos g18, if_pos g20, if_neg g22]
        all_goals rfl
       exact cutW_n false e25 (Trans.ren [] (by decide +kernel) (by decide +kernel) rfl ⟨⟨rfl, rfl⟩, ⟨rfl, rfl⟩, ⟨rfl, rfl⟩, ⟨rfl, rfl⟩, ⟨rfl, rfl⟩, ⟨rfl, rfl⟩, ⟨rfl, rfl⟩, ⟨rfl, rfl⟩, trivial⟩ ⟨⟨rfl, rfl, rfl⟩, ⟨rfl, rfl, rfl⟩, ⟨rfl, rfl, rfl⟩, trivial⟩ (by decide))
     ·have g20 : ¬ (((apply15 c l id source now).2 : Int) = ((applyR c l id source now).2)) := beq_f h20
      refine step_g0 rfl h20 rfl (step_g0 rfl h20 rfl (step_g0 rfl h20 rfl (step_pickF rfl h20 rfl rfl (step_r rfl rfl trivial (step_gf rfl rfl (step_gf rfl rfl (step_gf rfl rfl (step_r rfl rfl trivial (step_r rfl rfl trivial (step_nil ?_))))))))))
      have e26 : turns15_J69 c l id source now = false := by
       unfold turns15_J69
       try dsimp only
       rewrite [if_pos g18, if_neg g20]
       all_goals rfl
      exact cutW_n false e26 (Trans.ren [] (by decide +kernel) (by decide +kernel) rfl ⟨⟨rfl, rfl⟩, ⟨rfl, rfl⟩, ⟨rfl, rfl⟩, ⟨rfl, rfl⟩, ⟨rfl, rfl⟩, ⟨rfl, rfl⟩, ⟨rfl, rfl⟩, ⟨rfl, rfl⟩, trivial⟩ ⟨⟨rfl, rfl, rfl⟩, ⟨rfl, rfl, rfl⟩, ⟨rfl, rfl, rfl⟩, trivial⟩ (by decide))
    ·have g18 : ¬ (((apply15 c l id source now).1) = ((applyR c l id source now).1)) := of_decide_eq_false h18
     refine step_g0 rfl h18 rfl (step_g0 rfl h18 rfl (step_g0 rfl h18 rfl (step_pickF rfl h18 rfl rfl (step_r rfl rfl trivial (step_gf rfl rfl (step_gf rfl rfl (step_gf rfl rfl (step_r rfl rfl trivial (step_r rfl rfl trivial (step_gf rfl rfl (step_gf rfl rfl ?_)))))))))))
     refine step_gf rfl rfl (step_r rfl rfl trivial (step_r rfl rfl trivial (step_nil ?_)))
     have e27 : turns15_J69 c l id source now = false := by
      unfold turns15_J69
      try dsimp only
      rewrite [if_neg g18]
      all_goals rfl
     exact cutW_n false e27 (Trans.ren [] (by decide +kernel) (by decide +kernel) rfl ⟨⟨rfl, rfl⟩, ⟨rfl, rfl⟩, ⟨rfl, rfl⟩, ⟨rfl, rfl⟩, ⟨rfl, rfl⟩, ⟨rfl, rfl⟩, ⟨rfl, rfl⟩, ⟨rfl, rfl⟩, trivial⟩ ⟨⟨rfl, rfl, rfl⟩, ⟨rfl, rfl, rfl⟩, ⟨rfl, rfl, rfl⟩, trivial⟩ (by decide))
   ·rintro same_69 (hJ16 : turns15_J69 c l id source now = same_69)
    show seqK _ _ _ .normal (⟨[(1, .pv (.slc l.length l_f (l.flatMap encGActive))), (2, I id), (4, I now), (5, .ptr 0 0), (11, B (small15)), (13, .ref 1 6 0 l.length), (14, .ref 2 6 0 (apply15 c l id source now).1.length), (22, B same_69)], [(0, .box [.pv (.slc c.Abilities.length false (c.Abilities.flatMap encGAbility)), .pv (.slc c.Auras.length false (c.Auras.flatMap encGAura)), .pv (.slc c.Foes.length false (c.Foes.flatMap encGFoe)), I c.Map.W, I c.Map.H, .pv (.slc c.Map.Wall.length false (encB c.Map.Wall)), I c.Door.X, I c.Door.Y, I c.Lair.X, I c.Lair.Y]), (1, .row 42 6 (l.flatMap encGActive)), (2, .row 42 6 ((apply15 c l id source now).1.flatMap encGActive))], 3, [], 174, 0⟩ : St)
    refine seqK_n (sem_seq (sem_seq (sem_region rfl (step_r rfl rfl trivial (step_nil (seqK_n ?_))))))
    refine sem_cutW (fun w_ : Unit => match w_ with | () => (⟨[(1, .pv (.slc l.length l_f (l.flatMap encGActive))), (2, I id), (4, I now), (5, .ptr 0 0), (11, B (small15)), (13, .ref 1 6 0 l.length), (22, B same_69)], [(0, .box [.pv (.slc c.Abilities.length false (c.Abilities.flatMap encGAbility)), .pv (.slc c.Auras.length false (c.Auras.flatMap encGAura)), .pv (.slc c.Foes.length false (c.Foes.flatMap encGFoe)), I c.Map.W, I c.Map.H, .pv (.slc c.Map.Wall.length false (encB c.Map.Wall)), I c.Door.X, I c.Door.Y, I c.Lair.X, I c.Lair.Y]), (1, .row 42 6 (l.flatMap encGActive))], 2, [], 174, 0⟩ : St)) (fun w_ => turns15_L0 (((apply15 c l id source now).1.length) - 0) 0 ((apply15 c l id source now).1) = w_) ?_ ?_
    ·refine sem_block ?_
     refine sem_loopT (fun w_ : Nat × (List GActive) => match w_ with | (k0, a0) => (⟨[(1, .pv (.slc l.length l_f (l.flatMap encGActive))), (2, I id), (4, I now), (5, .ptr 0 0), (11, B (small15)), (13, .ref 1 6 0 l.length), (14, .ref 2 6 0 a0.length), (22, B same_69), (23, I k0)], [(0, .box [.pv (.slc c.Abilities.length false (c.Abilities.flatMap encGAbility)), .pv (.slc c.Auras.length false (c.Auras.flatMap encGAura)), .pv (.slc c.Foes.length false (c.Foes.flatMap encGFoe)), I c.Map.W, I c.Map.H, .pv (.slc c.Map.Wall.length false (encB c.Map.Wall)), I c.Door.X, I c.Door.Y, I c.Lair.X, I c.Lair.Y]), (1, .row 42 6 (l.flatMap encGActive)), (2, .row 42 6 (a0.flatMap encGActive))], 3, [], 174, 0⟩ : St)) (fun w_ : Nat × (List GActive) => match w_ with | (k0, a0) => turns15_L0 (((apply15 c l id source now).1.length) - k0) k0 a0 = turns15_L0 (((apply15 c l id source now).1.length) - 0) 0 ((apply15 c l id source now).1) ∧ k0 ≤ (apply15 c l id source now).1.length ∧ a0.length = (apply15 c l id source now).1.length) (fun w_ : Nat × (List GActive) => match w_ with | (k0, a0) => (apply15 c l id source now).1.length - k0) (0, (apply15 c l id source now).1) (⟨rfl, (by first | omega | (simp; omega)), by first | omega | simp | (simp; omega)⟩) ?_ (fun w_ hh_ => ?_)
     ·exact (Trans.ren [] (by decide +kernel) (by decide +kernel) rfl ⟨⟨rfl, rfl⟩, ⟨rfl, rfl⟩, ⟨rfl, rfl⟩, ⟨rfl, rfl⟩, ⟨rfl, rfl⟩, ⟨rfl, rfl⟩, ⟨rfl, rfl⟩, ⟨rfl, rfl⟩, ⟨rfl, rfl⟩, trivial⟩ ⟨⟨rfl, rfl, rfl⟩, ⟨rfl, rfl, rfl⟩, ⟨rfl, rfl, rfl⟩, trivial⟩ (by decide))
     obtain ⟨k0, a0⟩ := w_
     obtain ⟨hI0, hb0, hv0⟩ := hh_
     show Walks Try.prog _ _ (⟨[(1, .pv (.slc l.length l_f (l.flatMap encGActive))), (2, I id), (4, I now), (5, .ptr 0 0), (11, B (small15)), (13, .ref 1 6 0 l.length), (14, .ref 2 6 0 a0.length), (22, B same_69), (23, I k0)], [(0, .box [.pv (.slc c.Abilities.length false (c.Abilities.flatMap encGAbility)), .pv (.slc c.Auras.length false (c.Auras.flatMap encGAura)), .pv (.slc c.Foes.length false (c.Foes.flatMap encGFoe)), I c.Map.W, I c.Map.H, .pv (.slc c.Map.Wall.length false (encB c.Map.Wall)), I c.Door.X, I c.Door.Y, I c.Lair.X, I c.Lair.Y]), (1, .row 42 6 (l.flatMap encGActive)), (2, .row 42 6 (a0.flatMap encGActive))], 3, [], 174, 0⟩ : St)
     refine sem_seq (sem_seq (sem_region rfl (step_r rfl rfl trivial (step_r rfl rfl trivial (step_r rfl rfl trivial (step_bin rfl rfl rfl rfl rfl trivial (step_nil (seqK_n ?_))))))))
     refine sem_cond rfl (fun h30 => ?_) (fun h30 => ?_)
     ·have g30 : (k0 : Int) < a0.length := of_decide_eq_true h30
      have hm0 : (apply15 c l id source now).1.length - k0 = ((apply15 c l id source now).1.length - (k0 + 1)) + 1 := by omega
      refine sem_skip (seqK_n (sem_seq (sem_block (sem_region rfl (step_r rfl rfl trivial (step_r rfl rfl trivial ?_))))))
      have jk31 : k0 < a0.length := by first | assumption | omega | (simp only [List.length_set, List.length_append]; omega) | (simp only [IntKind.wrap_i64] at *; omega) | (simp; omega) | simp_all
      refine step_idxR (k := k0) rfl rfl rfl rfl jk31 rfl (step_r rfl rfl (by decide) ?_)
      refine step_storeR rfl rfl rfl rfl (by first | decide | (have := flat_lt (s := 6) (enc := encGActive) (fun _ => rfl) jk31; show k0 * 6 + 0 < _; omega)) (flat_set (enc := encGActive) (s := 6) (y := { (a0.getD k0 default) with Aura := (-7) }) (fun _ => rfl) (get_getD jk31) (by decide) rfl) (.inl rfl) rfl ?_
      refine step_nil (blkK_n (seqK_n (sem_region rfl (step_r rfl rfl trivial (step_bin rfl rfl rfl rfl rfl trivial (step_r rfl rfl trivial (step_nil ?_)))))))
      have e33 : turns15_L0 (((apply15 c l id source now).1.length) - k0) k0 a0 = turns15_L0 (((apply15 c l id source now).1.length) - (k0 + 1)) (k0 + 1) (a0.set k0 { (a0.getD k0 default) with Aura := (-7) }) := by
       rfl
      exact lup_againT (k0 + 1, (a0.set k0 { (a0.getD k0 default) with Aura := (-7) })) ⟨e33.symm.trans hI0, (by omega), by first | omega | assumption | (simp only [List.length_append, List.length_cons, List.length_nil, List.length_set]; omega) | (simp; omega) | grind⟩ (by show (apply15 c l id source now).1.length - (k0 + 1) < (apply15 c l id source now).1.length - k0; omega) (Trans.ren [] (by decide +kernel) (by decide +kernel) rfl ⟨⟨rfl, rfl⟩, ⟨rfl, rfl⟩, ⟨rfl, rfl⟩, ⟨rfl, rfl⟩, ⟨rfl, rfl⟩, ⟨rfl, rfl⟩, ⟨congrArg (fun n => some (AV.ref 2 6 0 n)) (by first | rfl | simp only [List.length_set] | simp | omega | (simp; omega)), rfl⟩, ⟨rfl, rfl⟩, ⟨congrArg (fun n => some (I n)) (wrapI (k := k0) (by first | omega | (simp; omega))), rfl⟩, trivial⟩ ⟨⟨rfl, rfl, rfl⟩, ⟨rfl, rfl, rfl⟩, ⟨rfl, rfl, rfl⟩, trivial⟩ (by decide))
     ·have g30 : ¬ ((k0 : Int) < a0.length) := of_decide_eq_false h30
      have hm0 : (apply15 c l id source now).1.length - k0 = 0 := by omega
      refine sem_exit (seqK_e (lupK_e (blkK_t rfl ?_)))
      have e34 : turns15_L0 (((apply15 c l id source now).1.length) - 0) 0 ((apply15 c l id source now).1) = () := by
       rfl
      exact cutW_n () e34 (Trans.ren [] (by decide +kernel) (by decide +kernel) rfl ⟨⟨rfl, rfl⟩, ⟨rfl, rfl⟩, ⟨rfl, rfl⟩, ⟨rfl, rfl⟩, ⟨rfl, rfl⟩, ⟨rfl, rfl⟩, ⟨rfl, rfl⟩, trivial⟩ ⟨⟨rfl, rfl, rfl⟩, ⟨rfl, rfl, rfl⟩, trivial⟩ (by decide))
    ·rintro ⟨⟩ (hJ28 : turns15_L0 (((apply15 c l id source now).1.length) - 0) 0 ((apply15 c l id source now).1) = ())
     show seqK _ _ _ .normal (⟨[(1, .pv (.slc l.length l_f (l.flatMap encGActive))), (2, I id), (4, I now), (5, .ptr 0 0), (11, B (small15)), (13, .ref 1 6 0 l.length), (22, B same_69)], [(0, .box [.pv (.slc c.Abilities.length false (c.Abilities.flatMap encGAbility)), .pv (.slc c.Auras.length false (c.Auras.flatMap encGAura)), .pv (.slc c.Foes.length false (c.Foes.flatMap encGFoe)), I c.Map.W, I c.Map.H, .pv (.slc c.Map.Wall.length false (encB c.Map.Wall)), I c.Door.X, I c.Door.Y, I c.Lair.X, I c.Lair.Y]), (1, .row 42 6 (l.flatMap encGActive))], 2, [], 174, 0⟩ : St)
     refine seqK_n (sem_seq (sem_region rfl (step_r (v := (.agg [_, _, _, _, _, _, _, _, _, _])) rfl rfl (Nat.le_of_ble_eq_true rfl) (step_r rfl rfl trivial (step_r rfl rfl trivial ?_)))))
     refine step_callJ (Hin := [.row _ _ _]) (out' := .tup [.ref 2 _ _ _, .ref 3 _ _ _]) (H' := [(2, .row _ _ _), (3, .row _ _ _), (0, .box [_, _, _, _, _, _, _, _, _, _]), (1, .row _ _ _)]) (nx' := 4) [1] rfl rfl rfl rfl rfl rfl rfl rfl rfl (by (repeat' apply And.intro) <;> first | trivial | rfl | exact flat_len (s := 6) (enc := encGActive) (fun _ => rfl) _ | exact flat_len (fun _ => rfl) _ | exact encI_len _ | exact Nat.le_of_ble_eq_true rfl | assumption) (tick15_ok c l false now (by first | assumption | omega | (simp only [List.length_nil, List.length_cons, List.length_append] at *; omega) | (simp; done) | (simp; omega))) rfl (by decide) rfl rfl ⟨encGActive_solid, encGActive_solid, trivial⟩ rfl rfl rfl rfl ?_
     have p36 := tick15_len c l now
     refine step_r rfl rfl trivial (step_r rfl rfl trivial (step_r rfl rfl trivial (step_r rfl rfl trivial (step_r rfl rfl trivial (step_nil (seqK_n (sem_seq (sem_region rfl (step_r (v := (.agg [_, _, _, _, _, _, _, _, _, _])) rfl rfl (Nat.le_of_ble_eq_true rfl) (step_r rfl rfl trivial (step_r rfl rfl trivial ?_)))))))))))
     refine step_callN (out' := .tup [.ref 4 _ _ _, .ref 5 _ _ _]) (H' := [(4, .row _ _ _), (5, .row _ _ _), (2, .row _ _ _), (3, .row _ _ _), (0, .box [_, _, _, _, _, _, _, _, _, _]), (1, .row _ _ _)]) (nx' := 6) rfl rfl rfl rfl rfl rfl rfl (by (repeat' apply And.intro) <;> first | trivial | rfl | exact flat_len (fun _ => rfl) _ | exact encI_len _ | exact Nat.le_of_ble_eq_true rfl | assumption) (tickR_ok c l false now (by first | assumption | omega | (simp only [List.length_nil, List.length_cons, List.length_append] at *; omega) | (simp; done) | (simp; omega))) rfl rfl rfl rfl ?_
     refine step_r rfl rfl trivial (step_r rfl rfl trivial (step_r rfl rfl trivial (step_r rfl rfl trivial (step_r rfl rfl trivial (step_nil (seqK_n (sem_seq ?_)))))))
     refine sem_cutW (fun same_111 : Bool => (⟨[(1, .pv (.slc l.length l_f (l.flatMap encGActive))), (2, I id), (5, .ptr 0 0), (11, B (small15)), (13, .ref 1 6 0 l.length), (18, .ref 2 6 0 (tick15 c l now).1.length), (22, B same_111)], [(0, .box [.pv (.slc c.Abilities.length false (c.Abilities.flatMap encGAbility)), .pv (.slc c.Auras.length false (c.Auras.flatMap encGAura)), .pv (.slc c.Foes.length false (c.Foes.flatMap encGFoe)), I c.Map.W, I c.Map.H, .pv (.slc c.Map.Wall.length false (encB c.Map.Wall)), I c.Door.X, I c.Door.Y, I c.Lair.X, I c.Lair.Y]), (1, .row 42 6 (l.flatMap encGActive)), (2, .row 42 6 ((tick15 c l now).1.flatMap encGActive))], 3, [], 174, 0⟩ : St)) (fun w_ => turns15_J111 c l now same_69 = w_) ?_ ?_
     ·refine sem_region rfl (step_r rfl rfl trivial (step_r rfl rfl trivial ?_))
      refine step_gs rfl (fun h39 => ?_) (fun h39 => ?_)
      ·have g39 : same_69 = true := h39
       refine step_g1 rfl h39 (step_r rfl rfl trivial (step_g1 rfl h39 (step_r rfl rfl trivial (step_g1 rfl h39 ?_))))
       refine step_callJ (Hin := [.row _ _ _, .row _ _ _]) (H' := [(4, .row _ _ _), (5, .row _ _ _), (2, .row _ _ _), (3, .row _ _ _), (0, .box [_, _, _, _, _, _, _, _, _, _]), (1, .row _ _ _)]) (nx' := 6) [2, 4] rfl rfl rfl rfl rfl rfl rfl rfl rfl (by (repeat' apply And.intro) <;> first | trivial | rfl | exact flat_len (s := 6) (enc := encGActive) (fun _ => rfl) _ | exact flat_len (fun _ => rfl) _ | exact encI_len _ | exact Nat.le_of_ble_eq_true rfl | assumption) (sameL ((tick15 c l now).1) false ((tickR c l now).1) false) rfl (by decide) rfl rfl trivial rfl rfl rfl rfl ?_
       refine step_pickT rfl h39 rfl rfl (step_r rfl rfl trivial ?_)
       refine step_gs rfl (fun h41 => ?_) (fun h41 => ?_)
       ·have g41 : ((tick15 c l now).1) = ((tickR c l now).1) := of_decide_eq_true h41
        refine step_g1 rfl h41 (step_r rfl rfl trivial (step_g1 rfl h41 (step_r rfl rfl trivial (step_g1 rfl h41 ?_))))
        refine step_callJ (Hin := [.row _ _ _, .row _ _ _]) (H' := [(4, .row _ _ _), (5, .row _ _ _), (2, .row _ _ _), (3, .row _ _ _), (0, .box [_, _, _, _, _, _, _, _, _, _]), (1, .row _ _ _)]) (nx' := 6) [3, 5] rfl rfl rfl rfl rfl rfl rfl rfl rfl (by (repeat' apply And.intro) <;> first | trivial | rfl | exact flat_len (s := 6) (enc := encGActive) (fun _ => rfl) _ | exact flat_len (fun _ => rfl) _ | exact encI_len _ | exact Nat.le_of_ble_eq_true rfl | assumption) (sameL ((tick15 c l now).2) false ((tickR c l now).2) false) rfl (by decide) rfl rfl trivial rfl rfl rfl rfl ?_
        refine step_pickT rfl h41 rfl rfl (step_r rfl rfl trivial (step_nil ?_))
        have e43 : turns15_J111 c l now same_69 = (decide (((tick15 c l now).2) = ((tickR c l now).2))) := by
         unfold turns15_J111
         try dsimp only
         rewrite [if_pos g39, if_pos g41]
         all_goals rfl
        exact cutW_n (decide (((tick15 c l now).2) = ((tickR c l now).2))) e43 (Trans.ren [] (by decide +kernel) (by decide +kernel) rfl ⟨⟨rfl, rfl⟩, ⟨rfl, rfl⟩, ⟨rfl, rfl⟩, ⟨rfl, rfl⟩, ⟨rfl, rfl⟩, ⟨rfl, rfl⟩, ⟨rfl, rfl⟩, trivial⟩ ⟨⟨rfl, rfl, rfl⟩, ⟨rfl, rfl, rfl⟩, ⟨rfl, rfl, rfl⟩, trivial⟩ (by decide))
       ·have g41 : ¬ (((tick15 c l now).1) = ((tickR c l now).1)) := of_decide_eq_false h41
        refine step_g0 rfl h41 rfl (step_g0 rfl h41 rfl (step_g0 rfl h41 rfl (step_pickF rfl h41 rfl rfl (step_r rfl rfl trivial (step_nil ?_)))))
        have e44 : turns15_J111 c l now same_69 = false := by
         unfold turns15_J111
         try dsimp only
         rewrite [if_pos g39, if_neg g41]
         all_goals rfl
        exact cutW_n false e44 (Trans.ren [] (by decide +kernel) (by decide +kernel) rfl ⟨⟨rfl, rfl⟩, ⟨rfl, rfl⟩, ⟨rfl, rfl⟩, ⟨rfl, rfl⟩, ⟨rfl, rfl⟩, ⟨rfl, rfl⟩, ⟨rfl, rfl⟩, trivial⟩ ⟨⟨rfl, rfl, rfl⟩, ⟨rfl, rfl, rfl⟩, ⟨rfl, rfl, rfl⟩, trivial⟩ (by decide))
      ·have g39 : ¬ (same_69 = true) := boo_f h39
       refine step_g0 rfl h39 rfl (step_g0 rfl h39 rfl (step_g0 rfl h39 rfl (step_pickF rfl h39 rfl rfl (step_r rfl rfl trivial (step_gf rfl rfl (step_gf rfl rfl (step_gf rfl rfl (step_r rfl rfl trivial (step_r rfl rfl trivial (step_nil ?_))))))))))
       have e45 : turns15_J111 c l now same_69 = false := by
        unfold turns15_J111
        try dsimp only
        rewrite [if_neg g39]
        all_goals rfl
       exact cutW_n false e45 (Trans.ren [] (by decide +kernel) (by decide +kernel) rfl ⟨⟨rfl, rfl⟩, ⟨rfl, rfl⟩, ⟨rfl, rfl⟩, ⟨rfl, rfl⟩, ⟨rfl, rfl⟩, ⟨rfl, rfl⟩, ⟨rfl, rfl⟩, trivial⟩ ⟨⟨rfl, rfl, rfl⟩, ⟨rfl, rfl, rfl⟩, ⟨rfl, rfl, rfl⟩, trivial⟩ (by decide))
     ·rintro same_111 (hJ37 : turns15_J111 c l now same_69 = same_111)
      show seqK _ _ _ .normal (⟨[(1, .pv (.slc l.length l_f (l.flatMap encGActive))), (2, I id), (5, .ptr 0 0), (11, B (small15)), (13, .ref 1 6 0 l.length), (18, .ref 2 6 0 (tick15 c l now).1.length), (22, B same_111)], [(0, .box [.pv (.slc c.Abilities.length false (c.Abilities.flatMap encGAbility)), .pv (.slc c.Auras.length false (c.Auras.flatMap encGAura)), .pv (.slc c.Foes.length false (c.Foes.flatMap encGFoe)), I c.Map.W, I c.Map.H, .pv (.slc c.Map.Wall.length false (encB c.Map.Wall)), I c.Door.X, I c.Door.Y, I c.Lair.X, I c.Lair.Y]), (1, .row 42 6 (l.flatMap encGActive)), (2, .row 42 6 ((tick15 c l now).1.flatMap encGActive))], 3, [], 174, 0⟩ : St)
      refine seqK_n (sem_seq (sem_seq (sem_region rfl (step_r rfl rfl trivial (step_nil (seqK_n ?_))))))
      refine sem_cutW (fun w_ : Unit => match w_ with | () => (⟨[(1, .pv (.slc l.length l_f (l.flatMap encGActive))), (2, I id), (5, .ptr 0 0), (11, B (small15)), (13, .ref 1 6 0 l.length), (22, B same_111)], [(0, .box [.pv (.slc c.Abilities.length false (c.Abilities.flatMap encGAbility)), .pv (.slc c.Auras.length false (c.Auras.flatMap encGAura)), .pv (.slc c.Foes.length false (c.Foes.flatMap encGFoe)), I c.Map.W, I c.Map.H, .pv (.slc c.Map.Wall.length false (encB c.Map.Wall)), I c.Door.X, I c.Door.Y, I c.Lair.X, I c.Lair.Y]), (1, .row 42 6 (l.flatMap encGActive))], 2, [], 174, 0⟩ : St)) (fun w_ => turns15_L1 (((tick15 c l now).1.length) - 0) 0 ((tick15 c l now).1) = w_) ?_ ?_
      ·refine sem_block ?_
       refine sem_loopT (fun w_ : Nat × (List GActive) => match w_ with | (k1, x1') => (⟨[(1, .pv (.slc l.length l_f (l.flatMap encGActive))), (2, I id), (5, .ptr 0 0), (11, B (small15)), (13, .ref 1 6 0 l.length), (18, .ref 2 6 0 x1'.length), (22, B same_111), (24, I k1)], [(0, .box [.pv (.slc c.Abilities.length false (c.Abilities.flatMap encGAbility)), .pv (.slc c.Auras.length false (c.Auras.flatMap encGAura)), .pv (.slc c.Foes.length false (c.Foes.flatMap encGFoe)), I c.Map.W, I c.Map.H, .pv (.slc c.Map.Wall.length false (encB c.Map.Wall)), I c.Door.X, I c.Door.Y, I c.Lair.X, I c.Lair.Y]), (1, .row 42 6 (l.flatMap encGActive)), (2, .row 42 6 (x1'.flatMap encGActive))], 3, [], 174, 0⟩ : St)) (fun w_ : Nat × (List GActive) => match w_ with | (k1, x1') => turns15_L1 (((tick15 c l now).1.length) - k1) k1 (x1') = turns15_L1 (((tick15 c l now).1.length) - 0) 0 ((tick15 c l now).1) ∧ k1 ≤ (tick15 c l now).1.length ∧ x1'.length = (tick15 c l now).1.length) (fun w_ : Nat × (List GActive) => match w_ with | (k1, x1') => (tick15 c l now).1.length - k1) (0, (tick15 c l now).1) (⟨rfl, (by first | omega | (simp; omega)), by first | omega | simp | (simp; omega)⟩) ?_ (fun w_ hh_ => ?_)
       ·exact (Trans.ren [] (by decide +kernel) (by decide +kernel) rfl ⟨⟨rfl, rfl⟩, ⟨rfl, rfl⟩, ⟨rfl, rfl⟩, ⟨rfl, rfl⟩, ⟨rfl, rfl⟩, ⟨rfl, rfl⟩, ⟨rfl, rfl⟩, ⟨rfl, rfl⟩, trivial⟩ ⟨⟨rfl, rfl, rfl⟩, ⟨rfl, rfl, rfl⟩, ⟨rfl, rfl, rfl⟩, trivial⟩ (by decide))
       obtain ⟨k1, x1'⟩ := w_
       obtain ⟨hI1, hb1, hv1⟩ := hh_
       show Walks Try.prog _ _ (⟨[(1, .pv (.slc l.length l_f (l.flatMap encGActive))), (2, I id), (5, .ptr 0 0), (11, B (small15)), (13, .ref 1 6 0 l.length), (18, .ref 2 6 0 x1'.length), (22, B same_111), (24, I k1)], [(0, .box [.pv (.slc c.Abilities.length false (c.Abilities.flatMap encGAbility)), .pv (.slc c.Auras.length false (c.Auras.flatMap encGAura)), .pv (.slc c.Foes.length false (c.Foes.flatMap encGFoe)), I c.Map.W, I c.Map.H, .pv (.slc c.Map.Wall.length false (encB c.Map.Wall)), I c.Door.X, I c.Door.Y, I c.Lair.X, I c.Lair.Y]), (1, .row 42 6 (l.flatMap encGActive)), (2, .row 42 6 (x1'.flatMap encGActive))], 3, [], 174, 0⟩ : St)
       refine sem_seq (sem_seq (sem_region rfl (step_r rfl rfl trivial (step_r rfl rfl trivial (step_r rfl rfl trivial (step_bin rfl rfl rfl rfl rfl trivial (step_nil (seqK_n ?_))))))))
       refine sem_cond rfl (fun h48 => ?_) (fun h48 => ?_)
       ·have g48 : (k1 : Int) < (x1'.length) := of_decide_eq_true h48
        have hm1 : (tick15 c l now).1.length - k1 = ((tick15 c l now).1.length - (k1 + 1)) + 1 := by omega
        refine sem_skip (seqK_n (sem_seq (sem_block (sem_region rfl (step_r rfl rfl trivial (step_r rfl rfl trivial ?_))))))
        have jk49 : k1 < (x1').length := by first | assumption | omega | (simp only [List.length_set, List.length_append]; omega) | (simp only [IntKind.wrap_i64] at *; omega) | (simp; omega) | simp_all
        refine step_idxR (k := k1) rfl rfl rfl rfl jk49 rfl (step_r rfl rfl (by decide) ?_)
        refine step_storeR rfl rfl rfl rfl (by first | decide | (have := flat_lt (s := 6) (enc := encGActive) (fun _ => rfl) jk49; show k1 * 6 + 0 < _; omega)) (flat_set (enc := encGActive) (s := 6) (y := { ((x1').getD k1 default) with Aura := (-7) }) (fun _ => rfl) (get_getD jk49) (by decide) rfl) (.inl rfl) rfl ?_
        refine step_nil (blkK_n (seqK_n (sem_region rfl (step_r rfl rfl trivial (step_bin rfl rfl rfl rfl rfl trivial (step_r rfl rfl trivial (step_nil ?_)))))))
        have e51 : turns15_L1 (((tick15 c l now).1.length) - k1) k1 (x1') = turns15_L1 (((tick15 c l now).1.length) - (k1 + 1)) (k1 + 1) (x1'.set k1 { ((x1').getD k1 default) with Aura := (-7) }) := by
         rfl
        exact lup_againT (k1 + 1, (x1'.set k1 { ((x1').getD k1 default) with Aura := (-7) })) ⟨e51.symm.trans hI1, (by omega), by first | omega | assumption | (simp only [List.length_append, List.length_cons, List.length_nil, List.length_set]; omega) | (simp; omega) | grind⟩ (by show (tick15 c l now).1.length - (k1 + 1) < (tick15 c l now).1.length - k1; omega) (Trans.ren [] (by decide +kernel) (by decide +kernel) rfl ⟨⟨rfl, rfl⟩, ⟨rfl, rfl⟩, ⟨rfl, rfl⟩, ⟨rfl, rfl⟩, ⟨rfl, rfl⟩, ⟨congrArg (fun n => some (AV.ref 2 6 0 n)) (by first | rfl | simp only [List.length_set] | simp | omega | (simp; omega)), rfl⟩, ⟨rfl, rfl⟩, ⟨congrArg (fun n => some (I n)) (wrapI (k := k1) (by first | omega | (simp; omega))), rfl⟩, trivial⟩ ⟨⟨rfl, rfl, rfl⟩, ⟨rfl, rfl, rfl⟩, ⟨rfl, rfl, rfl⟩, trivial⟩ (by decide))
       ·have g48 : ¬ ((k1 : Int) < (x1'.length)) := of_decide_eq_false h48
        have hm1 : (tick15 c l now).1.length - k1 = 0 := by omega
        refine sem_exit (seqK_e (lupK_e (blkK_t rfl ?_)))
        have e52 : turns15_L1 (((tick15 c l now).1.length) - 0) 0 ((tick15 c l now).1) = () := by
         rfl
        exact cutW_n () e52 (Trans.ren [] (by decide +kernel) (by decide +kernel) rfl ⟨⟨rfl, rfl⟩, ⟨rfl, rfl⟩, ⟨rfl, rfl⟩, ⟨rfl, rfl⟩, ⟨rfl, rfl⟩, ⟨rfl, rfl⟩, trivial⟩ ⟨⟨rfl, rfl, rfl⟩, ⟨rfl, rfl, rfl⟩, trivial⟩ (by decide))
      ·rintro ⟨⟩ (hJ46 : turns15_L1 (((tick15 c l now).1.length) - 0) 0 ((tick15 c l now).1) = ())
       show seqK _ _ _ .normal (⟨[(1, .pv (.slc l.length l_f (l.flatMap encGActive))), (2, I id), (5, .ptr 0 0), (11, B (small15)), (13, .ref 1 6 0 l.length), (22, B same_111)], [(0, .box [.pv (.slc c.Abilities.length false (c.Abilities.flatMap encGAbility)), .pv (.slc c.Auras.length false (c.Auras.flatMap encGAura)), .pv (.slc c.Foes.length false (c.Foes.flatMap encGFoe)), I c.Map.W, I c.Map.H, .pv (.slc c.Map.Wall.length false (encB c.Map.Wall)), I c.Door.X, I c.Door.Y, I c.Lair.X, I c.Lair.Y]), (1, .row 42 6 (l.flatMap encGActive))], 2, [], 174, 0⟩ : St)
       refine seqK_n (sem_seq (sem_region rfl (step_r (v := (.agg [_, _, _, _, _, _, _, _, _, _])) rfl rfl (Nat.le_of_ble_eq_true rfl) (step_r rfl rfl trivial (step_r rfl rfl trivial ?_)))))
       refine step_callJ (Hin := [.row _ _ _]) (out' := .tup [.ref 2 _ _ _, .ref 3 _ _ _]) (H' := [(2, .row _ _ _), (3, .row _ _ _), (0, .box [_, _, _, _, _, _, _, _, _, _]), (1, .row _ _ _)]) (nx' := 4) [1] rfl rfl rfl rfl rfl rfl rfl rfl rfl (by (repeat' apply And.intro) <;> first | trivial | rfl | exact flat_len (s := 6) (enc := encGActive) (fun _ => rfl) _ | exact flat_len (fun _ => rfl) _ | exact encI_len _ | exact Nat.le_of_ble_eq_true rfl | assumption) (dispel15_ok c l false id (by first | assumption | omega | (simp only [List.length_nil, List.length_cons, List.length_append] at *; omega) | (simp; done) | (simp; omega))) rfl (by decide) rfl rfl ⟨encGActive_solid, encGActive_solid, trivial⟩ rfl rfl rfl rfl ?_
       have p54 := dispel15_len c l id
       refine step_r rfl rfl trivial (step_r rfl rfl trivial (step_r rfl rfl trivial (step_r rfl rfl trivial (step_r rfl rfl trivial (step_nil (seqK_n (sem_seq (sem_region rfl (step_r (v := (.agg [_, _, _, _, _, _, _, _, _, _])) rfl rfl (Nat.le_of_ble_eq_true rfl) (step_r rfl rfl trivial (step_r rfl rfl trivial ?_)))))))))))
       refine step_callN (out' := .tup [.ref 4 _ _ _, .ref 5 _ _ _]) (H' := [(4, .row _ _ _), (5, .row _ _ _), (2, .row _ _ _), (3, .row _ _ _), (0, .box [_, _, _, _, _, _, _, _, _, _]), (1, .row _ _ _)]) (nx' := 6) rfl rfl rfl rfl rfl rfl rfl (by (repeat' apply And.intro) <;> first | trivial | rfl | exact flat_len (fun _ => rfl) _ | exact encI_len _ | exact Nat.le_of_ble_eq_true rfl | assumption) (dispelR_ok c l false id (by first | assumption | omega | (simp only [List.length_nil, List.length_cons, List.length_append] at *; omega) | (simp; done) | (simp; omega))) rfl rfl rfl rfl ?_
       refine step_r rfl rfl trivial (step_r rfl rfl trivial (step_r rfl rfl trivial (step_r rfl rfl trivial (step_r rfl rfl trivial (step_nil (seqK_n (sem_seq ?_)))))))
       refine sem_drawn rfl (by decide +kernel) rfl ?_
       refine step_r rfl rfl trivial (step_r rfl rfl trivial ?_)
       refine step_gs rfl (fun h56 => ?_) (fun h56 => ?_)
       ·have g56 : small15 = true := h56
        refine step_g1 rfl h56 (step_r rfl rfl trivial (step_pickT rfl h56 rfl rfl (step_r rfl rfl trivial ?_)))
        refine step_gs rfl (fun h58 => ?_) (fun h58 => ?_)
        ·have g58 : same_111 = true := h58
         refine step_g1 rfl h58 (step_r rfl rfl trivial (step_g1 rfl h58 (step_r rfl rfl trivial (step_g1 rfl h58 ?_))))
         refine step_callJ (Hin := [.row _ _ _, .row _ _ _]) (H' := [(4, .row _ _ _), (5, .row _ _ _), (2, .row _ _ _), (3, .row _ _ _), (0, .box [_, _, _, _, _, _, _, _, _, _]), (1, .row _ _ _)]) (nx' := 6) [2, 4] rfl rfl rfl rfl rfl rfl rfl rfl rfl (by (repeat' apply And.intro) <;> first | trivial | rfl | exact flat_len (s := 6) (enc := encGActive) (fun _ => rfl) _ | exact flat_len (fun _ => rfl) _ | exact encI_len _ | exact Nat.le_of_ble_eq_true rfl | assumption) (sameL ((dispel15 c l id).1) false ((dispelR c l id).1) false) rfl (by decide) rfl rfl trivial rfl rfl rfl rfl ?_
         refine step_pickT rfl h58 rfl rfl (step_r rfl rfl trivial ?_)
         refine step_gs rfl (fun h60 => ?_) (fun h60 => ?_)
         ·have g60 : ((dispel15 c l id).1) = ((dispelR c l id).1) := of_decide_eq_true h60
          refine step_g1 rfl h60 (step_r rfl rfl trivial (step_g1 rfl h60 (step_r rfl rfl trivial (step_g1 rfl h60 ?_))))
          refine step_callJ (Hin := [.row _ _ _, .row _ _ _]) (H' := [(4, .row _ _ _), (5, .row _ _ _), (2, .row _ _ _), (3, .row _ _ _), (0, .box [_, _, _, _, _, _, _, _, _, _]), (1, .row _ _ _)]) (nx' := 6) [3, 5] rfl rfl rfl rfl rfl rfl rfl rfl rfl (by (repeat' apply And.intro) <;> first | trivial | rfl | exact flat_len (s := 6) (enc := encGActive) (fun _ => rfl) _ | exact flat_len (fun _ => rfl) _ | exact encI_len _ | exact Nat.le_of_ble_eq_true rfl | assumption) (sameL ((dispel15 c l id).2) false ((dispelR c l id).2) false) rfl (by decide) rfl rfl trivial rfl rfl rfl rfl ?_
          refine step_pickT rfl h60 rfl rfl (step_r rfl rfl trivial ?_)
          refine step_gs rfl (fun h62 => ?_) (fun h62 => ?_)
          ·have g62 : ((dispel15 c l id).2) = ((dispelR c l id).2) := of_decide_eq_true h62
           refine step_g1 rfl h62 (step_r (v := (.agg [_, _, _, _, _, _, _, _, _, _])) rfl rfl (Nat.le_of_ble_eq_true rfl) (step_g1 rfl h62 (step_r rfl rfl trivial (step_g1 rfl h62 ?_))))
           refine step_callJ (Hin := [.row _ _ _]) (H' := [(4, .row _ _ _), (5, .row _ _ _), (2, .row _ _ _), (3, .row _ _ _), (0, .box [_, _, _, _, _, _, _, _, _, _]), (1, .row _ _ _)]) (nx' := 6) [1] rfl rfl rfl rfl rfl rfl rfl rfl rfl (by (repeat' apply And.intro) <;> first | trivial | rfl | exact flat_len (s := 6) (enc := encGActive) (fun _ => rfl) _ | exact flat_len (fun _ => rfl) _ | exact encI_len _ | exact Nat.le_of_ble_eq_true rfl | assumption) (right15_ok c l false (by first | assumption | exact few_small (by decide +kernel))) rfl (by decide) rfl rfl trivial rfl rfl rfl rfl ?_
           refine step_g1 rfl h62 (step_r (v := (.agg [_, _, _, _, _, _, _, _, _, _])) rfl rfl (Nat.le_of_ble_eq_true rfl) (step_g1 rfl h62 (step_r rfl rfl trivial (step_g1 rfl h62 (step_call rfl rfl rfl rfl (rightR15_ok c l l_f (by first | assumption | exact few_small (by decide +kernel))) rfl rfl rfl (step_g1 rfl h62 (step_bin rfl rfl rfl rfl rfl trivial (step_pickT rfl h62 rfl rfl (step_r rfl rfl trivial ?_)))))))))
           refine step_gs rfl (fun h64 => ?_) (fun h64 => ?_)
           ·have g64 : (right15 c l) = (rightR15 c l) := beq_t h64
            refine step_g1 rfl h64 (step_r rfl rfl trivial (step_g1 rfl h64 (step_r rfl rfl trivial (step_g1 rfl h64 ?_))))
            refine step_callJ (Hin := [.row _ _ _]) (H' := [(4, .row _ _ _), (5, .row _ _ _), (2, .row _ _ _), (3, .row _ _ _), (0, .box [_, _, _, _, _, _, _, _, _, _]), (1, .row _ _ _)]) (nx' := 6) [1] rfl rfl rfl rfl rfl rfl rfl rfl rfl (by (repeat' apply And.intro) <;> first | trivial | rfl | exact flat_len (s := 6) (enc := encGActive) (fun _ => rfl) _ | exact flat_len (fun _ => rfl) _ | exact encI_len _ | exact Nat.le_of_ble_eq_true rfl | assumption) (sameL l false l false) rfl (by decide) rfl rfl trivial rfl rfl rfl rfl ?_
            refine step_pickT rfl h64 rfl rfl (step_r rfl rfl trivial (step_nil (seqK_n (sem_ret ?_))))
            have e66 : turns15 c l id source now = (decide (l = l)) := by
             unfold turns15
             try dsimp only
             rewrite [if_pos g4, if_neg g7, hJ16]
             try dsimp only
             rewrite [hJ37]
             try dsimp only
             rewrite [if_pos g56, if_pos g58, if_pos g60, if_pos g62, if_pos g64]
             all_goals rfl
            rw [e66]
            exact answersR rfl ⟨trivial, trivial⟩ (rfl) rfl
           ·have g64 : ¬ ((right15 c l) = (rightR15 c l)) := beq_f h64
            refine step_g0 rfl h64 rfl (step_g0 rfl h64 rfl (step_g0 rfl h64 rfl (step_pickF rfl h64 rfl rfl (step_r rfl rfl trivial (step_nil (seqK_n (sem_ret ?_)))))))
            have e67 : turns15 c l id source now = false := by
             unfold turns15
             try dsimp only
             rewrite [if_pos g4, if_neg g7, hJ16]
             try dsimp only
             rewrite [hJ37]
             try dsimp only
             rewrite [if_pos g56, if_pos g58, if_pos g60, if_pos g62, if_neg g64]
             all_goals rfl
            rw [e67]
            exact answersR rfl ⟨trivial, trivial⟩ (rfl) rfl
          ·have g62 : ¬ (((dispel15 c l id).2) = ((dispelR c l id).2)) := of_decide_eq_false h62
           refine step_g0 rfl h62 rfl (step_g0 rfl h62 rfl (step_g0 rfl h62 rfl (step_g0 rfl h62 rfl (step_g0 rfl h62 rfl (step_g0 rfl h62 rfl (step_g0 rfl h62 rfl (step_pickF rfl h62 rfl rfl (step_r rfl rfl trivial (step_gf rfl rfl (step_gf rfl rfl (step_gf rfl rfl ?_)))))))))))
           refine step_r rfl rfl trivial (step_r rfl rfl trivial (step_nil (seqK_n (sem_ret ?_))))
           have e68 : turns15 c l id source now = false := by
            unfold turns15
            try dsimp only
            rewrite [if_pos g4, if_neg g7, hJ16]
            try dsimp only
            rewrite [hJ37]
            try dsimp only
            rewrite [if_pos g56, if_pos g58, if_pos g60, if_neg g62]
            all_goals rfl
           rw [e68]
           exact answersR rfl ⟨trivial, trivial⟩ (rfl) rfl
         ·have g60 : ¬ (((dispel15 c l id).1) = ((dispelR c l id).1)) := of_decide_eq_false h60
          refine step_g0 rfl h60 rfl (step_g0 rfl h60 rfl (step_g0 rfl h60 rfl (step_pickF rfl h60 rfl rfl (step_r rfl rfl trivial (step_gf rfl rfl (step_gf rfl rfl (step_gf rfl rfl (step_gf rfl rfl (step_gf rfl rfl (step_gf rfl rfl (step_gf rfl rfl ?_)))))))))))
          refine step_r rfl rfl trivial (step_r rfl rfl trivial (step_gf rfl rfl (step_gf rfl rfl (step_gf rfl rfl (step_r rfl rfl trivial (step_r rfl rfl trivial (step_nil (seqK_n (sem_ret ?_)))))))))
          have e69 : turns15 c l id source now = false := by
           unfold turns15
           try dsimp only
           rewrite [if_pos g4, if_neg g7, hJ16]
           try dsimp only
           rewrite [hJ37]
           try dsimp only
           rewrite [if_pos g56, if_pos g58, if_neg g60]
           all_goals rfl
          rw [e69]
          exact answersR rfl ⟨trivial, trivial⟩ (rfl) rfl
        ·have g58 : ¬ (same_111 = true) := boo_f h58
         refine step_g0 rfl h58 rfl (step_g0 rfl h58 rfl (step_g0 rfl h58 rfl (step_pickF rfl h58 rfl rfl (step_r rfl rfl trivial (step_gf rfl rfl (step_gf rfl rfl (step_gf rfl rfl (step_r rfl rfl trivial (step_r rfl rfl trivial (step_gf rfl rfl (step_gf rfl rfl ?_)))))))))))
         refine step_gf rfl rfl (step_gf rfl rfl (step_gf rfl rfl (step_gf rfl rfl (step_gf rfl rfl (step_r rfl rfl trivial (step_r rfl rfl trivial (step_gf rfl rfl (step_gf rfl rfl (step_gf rfl rfl (step_r rfl rfl trivial (step_r rfl rfl trivial ?_)))))))))))
         refine step_nil (seqK_n (sem_ret ?_))
         have e70 : turns15 c l id source now = false := by
          unfold turns15
          try dsimp only
          rewrite [if_pos g4, if_neg g7, hJ16]
          try dsimp only
          rewrite [hJ37]
          try dsimp only
          rewrite [if_pos g56, if_neg g58]
          all_goals rfl
         rw [e70]
         exact answersR rfl ⟨trivial, trivial⟩ (rfl) rfl
       ·have g56 : ¬ (small15 = true) := boo_f h56
        refine step_g0 rfl h56 rfl (step_pickF rfl h56 rfl rfl (step_r rfl rfl trivial (step_gf rfl rfl (step_gf rfl rfl (step_gf rfl rfl (step_r rfl rfl trivial (step_r rfl rfl trivial (step_gf rfl rfl (step_gf rfl rfl (step_gf rfl rfl (step_r rfl rfl trivial ?_)))))))))))
        refine step_r rfl rfl trivial (step_gf rfl rfl (step_gf rfl rfl (step_gf rfl rfl (step_gf rfl rfl (step_gf rfl rfl (step_gf rfl rfl (step_gf rfl rfl (step_r rfl rfl trivial (step_r rfl rfl trivial (step_gf rfl rfl (step_gf rfl rfl ?_)))))))))))
        refine step_gf rfl rfl (step_r rfl rfl trivial (step_r rfl rfl trivial (step_nil (seqK_n (sem_ret ?_)))))
        have e71 : turns15 c l id source now = false := by
         unfold turns15
         try dsimp only
         rewrite [if_pos g4, if_neg g7, hJ16]
         try dsimp only
         rewrite [hJ37]
         try dsimp only
         rewrite [if_neg g56]
         all_goals rfl
        rw [e71]
        exact answersR rfl ⟨trivial, trivial⟩ (rfl) rfl
end Go.Proofs.Ytcbdecknbfabaaa

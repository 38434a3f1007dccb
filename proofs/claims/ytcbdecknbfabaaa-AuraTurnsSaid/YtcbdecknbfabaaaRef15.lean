import Derived.Test.YtcbdecknbfabaaaRef09
namespace Go.Proofs.Ytcbdecknbfabaaa
open Go Go.RowKit Go.Proofs.YtcbdecknbfabaaaVm
attribute [local irreducible] opsWp AnswersE OpsS
set_option maxHeartbeats 400000
set_option maxRecDepth 100000
set_option linter.all false
def leftR (a : GAura) (stacks : Int) : Int :=
  if (a.Kind : Int) = 5 then (mulR a.Amount stacks) else 0
theorem leftR_ok (a : GAura) (stacks : Int) : Ok Try.prog 36 [aGAura a, I stacks] [] (I (leftR a stacks)) [] [] := by
 refine ok_of_sem Try.func36 rfl ?_
 show Walks Try.prog _ _ ⟨[(0, aGAura a), (1, I stacks)], [], 0, [], 12, 0⟩
 refine sem_seq (sem_region rfl (step_n (o := .box [_, _, _, _, _, _, _]) (nx' := 1) rfl rfl rfl trivial (step_r rfl rfl trivial (step_nil (seqK_n (sem_seq (sem_seq (sem_region rfl (step_r rfl rfl (by decide) (step_r rfl rfl trivial (step_bin rfl rfl rfl rfl rfl trivial ?_)))))))))))
 refine step_nil (seqK_n ?_)
 refine sem_cond rfl (fun h1 => ?_) (fun h1 => ?_)
 ·have g1 : ¬ ((a.Kind : Int) = 5) := bne_t h1
  refine sem_seq (sem_region rfl (step_r rfl rfl trivial (step_nil (seqK_n (sem_ret (seqK_r ?_))))))
  have e2 : leftR a stacks = 0 := by
   unfold leftR
   try dsimp only
   rewrite [if_neg g1]
   all_goals rfl
  rw [e2]
  exact answersR rfl ⟨trivial, trivial⟩ (rfl) rfl
 ·have g1 : (a.Kind : Int) = 5 := bne_f h1
  refine sem_skip (seqK_n (sem_seq (sem_region rfl (step_r rfl rfl (by decide) (step_r rfl rfl trivial (step_r rfl rfl trivial (step_call rfl rfl rfl rfl (mulR_ok a.Amount stacks) rfl rfl rfl (step_r rfl rfl trivial (step_nil (seqK_n (sem_ret ?_)))))))))))
  have e5 : leftR a stacks = (mulR a.Amount stacks) := by
   unfold leftR
   try dsimp only
   rewrite [if_pos g1]
   all_goals rfl
  rw [e5]
  exact answersR rfl ⟨trivial, trivial⟩ (rfl) rfl

def copiedR (l : List GActive) : List GActive :=
  l
theorem copiedR_ok (l : List GActive) (l_f : Bool) (hl : l.length ≤ 16777215) : Ok Try.prog 34 [.pv (.slc l.length l_f (l.flatMap encGActive))] [] (.ref 0 6 0 (copiedR l).length) [.row 42 6 ((copiedR l).flatMap encGActive)] [] := by
 refine Ok.len fun hlen => ?_
 have hl_l : l.length ≤ maxLen := hlen _ (by simp [lensL, lens, lensP])
 unfold maxLen at hl_l
 refine ok_of_sem Try.func34 rfl ?_
 show Walks Try.prog _ _ ⟨[(0, .pv (.slc l.length l_f (l.flatMap encGActive)))], [], 0, [], 6, 0⟩
 refine sem_seq (sem_region rfl (step_n (nx' := 1) rfl rfl rfl trivial (step_nil (seqK_n (sem_seq (sem_region rfl (step_r rfl rfl ⟨by decide, rfl⟩ (step_r rfl rfl trivial ?_))))))))
 refine step_appendN (m := l.length) (new := l.flatMap encGActive) (cs' := l.flatMap encGActive) (n' := l.length) rfl rfl (rfl) rfl rfl rfl rfl rfl rfl (flat_len (s := 6) (enc := encGActive) (fun _ => rfl) l) (by first | decide | (unfold maxGrow; omega) | (unfold maxGrow; simp; omega) | (unfold maxGrow; simp only [List.length_append, List.length_take, List.length_drop, List.length_cons, List.length_nil, IntKind.wrap_i64] at *; omega)) rfl rfl rfl rfl ?_
 refine step_r rfl rfl trivial (step_nil (seqK_n (sem_ret ?_)))
 have e1 : copiedR l = l := by
  unfold copiedR
  try dsimp only
  all_goals rfl
 rw [e1]
 exact answersGR [] [1] rfl ⟨trivial, trivial⟩ rfl (by (repeat' apply And.intro) <;> first | trivial | rfl | exact flat_len (fun _ => rfl) _ | exact encI_len _ | assumption) (rfl) rfl rfl rfl (by decide) rfl rfl ⟨⟨rfl, rfl⟩, trivial⟩

theorem copiedR_len (l : List GActive) : (copiedR l).length = l.length := by unfold copiedR; simp

def applyR_L0 (c : GContent) (l : List GActive) (id : Int) (source : Int) (now : Int) : Nat → Nat → Sum ((List GActive) × Int) Unit
  | 0, k0 => .inr ()
  | n_ + 1, k0 => if (((copiedR l).getD k0 default).Aura : Int) = id then (if (((copiedR l).getD k0 default).Source : Int) = source then .inl (((((copiedR l).set k0 { ((copiedR l).getD k0 default) with Stacks := (min (addR (((copiedR l).getD k0 default).Stacks) 1) (((getUR c id).1).Stacks)) }).set k0 { (((copiedR l).set k0 { ((copiedR l).getD k0 default) with Stacks := (min (addR (((copiedR l).getD k0 default).Stacks) 1) (((getUR c id).1).Stacks)) }).getD k0 default) with Until := (addR now (((getUR c id).1).Ticks)) }).set k0 { ((((copiedR l).set k0 { ((copiedR l).getD k0 default) with Stacks := (min (addR (((copiedR l).getD k0 default).Stacks) 1) (((getUR c id).1).Stacks)) }).set k0 { (((copiedR l).set k0 { ((copiedR l).getD k0 default) with Stacks := (min (addR (((copiedR l).getD k0 default).Stacks) 1) (((getUR c id).1).Stacks)) }).getD k0 default) with Until := (addR now (((getUR c id).1).Ticks)) }).getD k0 default) with Left := (leftR ((getUR c id).1) (((((copiedR l).set k0 { ((copiedR l).getD k0 default) with Stacks := (min (addR (((copiedR l).getD k0 default).Stacks) 1) (((getUR c id).1).Stacks)) }).set k0 { (((copiedR l).set k0 { ((copiedR l).getD k0 default) with Stacks := (min (addR (((copiedR l).getD k0 default).Stacks) 1) (((getUR c id).1).Stacks)) }).getD k0 default) with Until := (addR now (((getUR c id).1).Ticks)) }).getD k0 default).Stacks)) }), 0) else applyR_L0 c l id source now n_ (k0 + 1)) else applyR_L0 c l id source now n_ (k0 + 1)
def applyR (c : GContent) (l : List GActive) (id : Int) (source : Int) (now : Int) : (List GActive) × Int :=
  if (getUR c id).2 = true then (match applyR_L0 c l id source now (l.length - 0) 0 with
    | .inl r_ => r_
    | .inr () => if (l.length : Int) ≥ 16 then ([], 4) else if (((getUR c id).1).Every : Int) = 0 then (((copiedR l) ++ [(⟨id, source, 1, (addR now (((getUR c id).1).Ticks)), 0, (leftR ((getUR c id).1) 1)⟩ : GActive)]), 0) else (((copiedR l) ++ [(⟨id, source, 1, (addR now (((getUR c id).1).Ticks)), (addR now (((getUR c id).1).Every)), (leftR ((getUR c id).1) 1)⟩ : GActive)]), 0)) else ([], 5)
theorem applyR_ok (c : GContent) (l : List GActive) (l_f : Bool) (id : Int) (source : Int) (now : Int) (hl : l.length ≤ 16777215) : Ok Try.prog 10 [aGContent c, .pv (.slc l.length l_f (l.flatMap encGActive)), I id, I source, I now] [] (.tup [.ref 0 6 0 (applyR c l id source now).1.length, I (applyR c l id source now).2]) [.row 42 6 ((applyR c l id source now).1.flatMap encGActive)] [] := by
 refine Ok.len fun hlen => ?_
 have hl_c_Abilities : c.Abilities.length ≤ maxLen := hlen _ (by simp [lensL, lens, lensP])
 have hl_c_Auras : c.Auras.length ≤ maxLen := hlen _ (by simp [lensL, lens, lensP])
 have hl_c_Foes : c.Foes.length ≤ maxLen := hlen _ (by simp [lensL, lens, lensP])
 have hl_c_Map_Wall : c.Map.Wall.length ≤ maxLen := hlen _ (by simp [lensL, lens, lensP])
 have hl_l : l.length ≤ maxLen := hlen _ (by simp [lensL, lens, lensP])
 unfold maxLen at hl_c_Abilities hl_c_Auras hl_c_Foes hl_c_Map_Wall hl_l
 refine ok_of_sem Try.func10 rfl ?_
 show Walks Try.prog _ _ ⟨[(0, aGContent c), (1, .pv (.slc l.length l_f (l.flatMap encGActive))), (2, I id), (3, I source), (4, I now)], [], 0, [], 106, 0⟩
 refine sem_seq (sem_region rfl (step_n (o := .box [_, _, _, _, _, _, _, _, _, _]) (nx' := 1) rfl rfl rfl trivial (step_n (nx' := 2) rfl rfl rfl trivial (step_r rfl rfl trivial (step_nil (seqK_n (sem_seq (sem_region rfl (step_r (v := (.agg [_, _, _, _, _, _, _, _, _, _])) rfl rfl (Nat.le_of_ble_eq_true rfl) (step_r rfl rfl trivial (step_call rfl rfl rfl rfl (getUR_ok c id) rfl rfl rfl ?_)))))))))))
 refine step_r rfl rfl trivial (step_r rfl rfl trivial (step_r rfl rfl trivial (step_n (o := .box [_, _, _, _, _, _, _]) (nx' := 3) rfl rfl rfl trivial (step_store (H' := [(2, .box [_, _, _, _, _, _, _]), (1, .row _ _ _), (0, .box [_, _, _, _, _, _, _, _, _, _])]) rfl rfl rfl rfl rfl rfl (Nat.le_of_ble_eq_true rfl) (.inl rfl) rfl (step_r rfl rfl trivial (step_nil (seqK_n (sem_seq (sem_seq (sem_region rfl (step_r rfl rfl trivial ?_)))))))))))
 refine step_r rfl rfl trivial (step_nil (seqK_n ?_))
 refine sem_cond rfl (fun h3 => ?_) (fun h3 => ?_)
 ·have g3 : ¬ ((getUR c id).2 = true) := boo_f (not_t h3)
  refine sem_seq (sem_region rfl (step_n (nx' := 4) rfl rfl rfl trivial (step_r rfl rfl trivial (step_nil (seqK_n (sem_ret (seqK_r ?_)))))))
  have e4 : applyR c l id source now = ([], 5) := by
   unfold applyR
   try dsimp only
   rewrite [if_neg g3]
   all_goals rfl
  rw [e4]
  exact answersGR [] [3] rfl ⟨trivial, trivial, trivial⟩ rfl (by (repeat' apply And.intro) <;> first | trivial | rfl | exact flat_len (fun _ => rfl) _ | exact encI_len _ | assumption) (rfl) rfl rfl rfl (by decide) rfl rfl ⟨⟨rfl, rfl⟩, trivial⟩
 ·have g3 : (getUR c id).2 = true := (not_f h3)
  refine sem_skip (seqK_n (sem_seq (sem_region rfl (step_r rfl rfl trivial ?_))))
  refine step_callN (out' := .ref 3 _ _ _) (H' := [(3, .row _ _ _), (2, .box [_, _, _, _, _, _, _]), (1, .row _ _ _), (0, .box [_, _, _, _, _, _, _, _, _, _])]) (nx' := 4) rfl rfl rfl rfl rfl rfl rfl (by (repeat' apply And.intro) <;> first | trivial | rfl | exact flat_len (fun _ => rfl) _ | exact encI_len _ | exact Nat.le_of_ble_eq_true rfl | assumption) (copiedR_ok l false (by first | assumption | omega | (simp only [List.length_nil, List.length_cons, List.length_append] at *; omega) | (simp; done) | (simp; omega))) rfl rfl rfl rfl ?_
  have p5 := copiedR_len l
  refine step_r rfl rfl trivial (step_nil (seqK_n (sem_seq (sem_seq (sem_region rfl (step_r rfl rfl trivial (step_nil (seqK_n ?_))))))))
  refine sem_cutW (fun w_ : Unit => match w_ with | () => (⟨[(1, .pv (.slc l.length l_f (l.flatMap encGActive))), (2, I id), (3, I source), (4, I now), (12, .ptr 0 0), (14, .ref 1 6 0 (copiedR l).length)], [(0, .box [I ((getUR c id).1).Id, I ((getUR c id).1).Kind, I ((getUR c id).1).Ticks, I ((getUR c id).1).Every, I ((getUR c id).1).Stacks, I ((getUR c id).1).Amount, B ((getUR c id).1).Harm]), (1, .row 42 6 ((copiedR l).flatMap encGActive))], 2, [], 106, 0⟩ : St)) (fun w_ => applyR_L0 c l id source now (l.length - 0) 0 = .inr w_) ?_ ?_
  ·refine sem_block ?_
   refine sem_loopT (fun k0 : Nat => (⟨[(1, .pv (.slc l.length l_f (l.flatMap encGActive))), (2, I id), (3, I source), (4, I now), (12, .ptr 0 0), (14, .ref 1 6 0 (copiedR l).length), (15, I k0)], [(0, .box [I ((getUR c id).1).Id, I ((getUR c id).1).Kind, I ((getUR c id).1).Ticks, I ((getUR c id).1).Every, I ((getUR c id).1).Stacks, I ((getUR c id).1).Amount, B ((getUR c id).1).Harm]), (1, .row 42 6 ((copiedR l).flatMap encGActive))], 2, [], 106, 0⟩ : St)) (fun k0 : Nat => applyR_L0 c l id source now (l.length - k0) k0 = applyR_L0 c l id source now (l.length - 0) 0 ∧ k0 ≤ l.length ∧ True) (fun k0 : Nat => l.length - k0) 0 (⟨rfl, (by first | omega | (simp; omega)), by first | omega | simp | (simp; omega)⟩) ?_ (fun k0 hh_ => ?_)
   ·exact (Trans.ren [(0, 2), (1, 3), (2, 0), (3, 1)] (by decide +kernel) (by decide +kernel) rfl ⟨⟨rfl, rfl⟩, ⟨rfl, rfl⟩, ⟨rfl, rfl⟩, ⟨rfl, rfl⟩, ⟨rfl, rfl⟩, ⟨rfl, rfl⟩, ⟨rfl, rfl⟩, trivial⟩ ⟨⟨rfl, rfl, rfl⟩, ⟨rfl, rfl, rfl⟩, trivial⟩ (by decide))
   obtain ⟨hI0, hb0, hv0⟩ := hh_
   show Walks Try.prog _ _ (⟨[(1, .pv (.slc l.length l_f (l.flatMap encGActive))), (2, I id), (3, I source), (4, I now), (12, .ptr 0 0), (14, .ref 1 6 0 (copiedR l).length), (15, I k0)], [(0, .box [I ((getUR c id).1).Id, I ((getUR c id).1).Kind, I ((getUR c id).1).Ticks, I ((getUR c id).1).Every, I ((getUR c id).1).Stacks, I ((getUR c id).1).Amount, B ((getUR c id).1).Harm]), (1, .row 42 6 ((copiedR l).flatMap encGActive))], 2, [], 106, 0⟩ : St)
   refine sem_seq (sem_seq (sem_region rfl (step_r rfl rfl trivial (step_r rfl rfl trivial (step_r rfl rfl trivial (step_bin rfl rfl rfl rfl rfl trivial (step_nil (seqK_n ?_))))))))
   refine sem_cond rfl (fun h8 => ?_) (fun h8 => ?_)
   ·have g8 : (k0 : Int) < ((copiedR l).length) := of_decide_eq_true h8
    have hm0 : l.length - k0 = (l.length - (k0 + 1)) + 1 := by omega
    refine sem_skip (seqK_n (sem_seq (sem_block (sem_seq (sem_region rfl (step_r rfl rfl trivial (step_r rfl rfl trivial ?_)))))))
    have jk9 : k0 < (copiedR l).length := by first | assumption | omega | (simp only [List.length_set, List.length_append]; omega) | (simp only [IntKind.wrap_i64] at *; omega) | (simp; omega) | simp_all
    refine step_idxR (k := k0) rfl rfl rfl rfl jk9 rfl (step_r rfl rfl (by decide) ?_)
    refine step_load_oneR rfl rfl rfl rfl (flat_get (s := 6) (enc := encGActive) (fun _ => rfl) (get_getD jk9) (o := 0) rfl (by decide)) rfl ?_
    refine step_r rfl rfl trivial (step_bin rfl rfl rfl rfl rfl trivial (step_r rfl rfl trivial ?_))
    refine step_gs rfl (fun h12 => ?_) (fun h12 => ?_)
    ·have g12 : (((copiedR l).getD k0 default).Aura : Int) = id := beq_t h12
     refine step_g1 rfl h12 (step_r rfl rfl trivial (step_g1 rfl h12 (step_r rfl rfl trivial (step_g1 rfl h12 (step_idxR (k := k0) rfl rfl rfl rfl jk9 rfl (step_g1 rfl h12 (step_r rfl rfl (by decide) (step_g1 rfl h12 ?_))))))))
     refine step_load_oneR rfl rfl rfl rfl (flat_get (s := 6) (enc := encGActive) (fun _ => rfl) (get_getD jk9) (o := 1) rfl (by decide)) rfl ?_
     refine step_g1 rfl h12 (step_r rfl rfl trivial (step_g1 rfl h12 (step_bin rfl rfl rfl rfl rfl trivial (step_pickT rfl h12 rfl rfl (step_nil (seqK_n ?_))))))
     refine sem_cond rfl (fun h15 => ?_) (fun h15 => ?_)
     ·have g15 : (((copiedR l).getD k0 default).Source : Int) = source := beq_t h15
      refine sem_seq ?_
      refine sem_drawn rfl (by decide +kernel) rfl ?_
      refine step_r rfl rfl trivial (step_r rfl rfl trivial (step_r rfl rfl trivial (step_r rfl rfl trivial (step_idxR (k := k0) rfl rfl rfl rfl jk9 rfl (step_r rfl rfl (by decide) ?_)))))
      refine step_load_oneR rfl rfl rfl rfl (flat_get (s := 6) (enc := encGActive) (fun _ => rfl) (get_getD jk9) (o := 2) rfl (by decide)) rfl ?_
      refine step_call rfl rfl rfl rfl (addR_ok (((copiedR l).getD k0 default).Stacks) 1) rfl rfl rfl (step_r rfl rfl (by decide) (step_r rfl rfl trivial ?_))
      refine step_min rfl rfl rfl ?_
      refine step_idxR (k := k0) rfl rfl rfl rfl jk9 rfl (step_r rfl rfl (by decide) ?_)
      refine step_storeR rfl rfl rfl rfl (by first | decide | (have := flat_lt (s := 6) (enc := encGActive) (fun _ => rfl) jk9; show k0 * 6 + 2 < _; omega)) (flat_set (enc := encGActive) (s := 6) (y := { ((copiedR l).getD k0 default) with Stacks := (min (addR (((copiedR l).getD k0 default).Stacks) 1) (((getUR c id).1).Stacks)) }) (fun _ => rfl) (get_getD jk9) (by decide) rfl) (.inr (by decide +kernel)) rfl ?_
      refine step_nil (seqK_n (sem_seq (sem_region rfl (step_r rfl rfl trivial (step_r rfl rfl trivial (step_r rfl rfl trivial (step_r rfl rfl (by decide) (step_r rfl rfl trivial (step_call rfl rfl rfl rfl (addR_ok now (((getUR c id).1).Ticks)) rfl rfl rfl ?_)))))))))
      have jk17 : k0 < ((copiedR l).set k0 { ((copiedR l).getD k0 default) with Stacks := (min (addR (((copiedR l).getD k0 default).Stacks) 1) (((getUR c id).1).Stacks)) }).length := by first | assumption | omega | (simp only [List.length_set, List.length_append]; omega) | (simp only [IntKind.wrap_i64] at *; omega) | (simp; omega) | simp_all
      refine step_idxR (k := k0) rfl rfl rfl rfl (by first | assumption | omega | (have := jk17; simp only [List.length_set] at this ⊢; omega) | (have := jk17; simp at this ⊢; omega)) rfl (step_r rfl rfl (by decide) ?_)
      refine step_storeR rfl rfl rfl rfl (by first | decide | (have := flat_lt (s := 6) (enc := encGActive) (fun _ => rfl) jk17; show k0 * 6 + 3 < _; omega)) (flat_set (enc := encGActive) (s := 6) (y := { (((copiedR l).set k0 { ((copiedR l).getD k0 default) with Stacks := (min (addR (((copiedR l).getD k0 default).Stacks) 1) (((getUR c id).1).Stacks)) }).getD k0 default) with Until := (addR now (((getUR c id).1).Ticks)) }) (fun _ => rfl) (get_getD jk17) (by decide) rfl) (.inl rfl) rfl ?_
      refine step_nil (seqK_n (sem_seq ?_))
      refine sem_drawn rfl (by decide +kernel) rfl ?_
      refine step_r rfl rfl trivial (step_r rfl rfl trivial (step_r (v := (.agg [_, _, _, _, _, _, _])) rfl rfl (Nat.le_of_ble_eq_true rfl) (step_r rfl rfl trivial (step_r rfl rfl trivial ?_))))
      have jk18 : k0 < (((copiedR l).set k0 { ((copiedR l).getD k0 default) with Stacks := (min (addR (((copiedR l).getD k0 default).Stacks) 1) (((getUR c id).1).Stacks)) }).set k0 { (((copiedR l).set k0 { ((copiedR l).getD k0 default) with Stacks := (min (addR (((copiedR l).getD k0 default).Stacks) 1) (((getUR c id).1).Stacks)) }).getD k0 default) with Until := (addR now (((getUR c id).1).Ticks)) }).length := by first | assumption | omega | (simp only [List.length_set, List.length_append]; omega) | (simp only [IntKind.wrap_i64] at *; omega) | (simp; omega) | simp_all
      refine step_idxR (k := k0) rfl rfl rfl rfl (by first | assumption | omega | (have := jk18; simp only [List.length_set] at this ⊢; omega) | (have := jk18; simp at this ⊢; omega)) rfl (step_r rfl rfl (by decide) ?_)
      refine step_load_oneR rfl rfl rfl rfl (flat_get (s := 6) (enc := encGActive) (fun _ => rfl) (get_getD jk18) (o := 2) rfl (by decide)) rfl ?_
      refine step_call rfl rfl rfl rfl (leftR_ok ((getUR c id).1) (((((copiedR l).set k0 { ((copiedR l).getD k0 default) with Stacks := (min (addR (((copiedR l).getD k0 default).Stacks) 1) (((getUR c id).1).Stacks)) }).set k0 { (((copiedR l).set k0 { ((copiedR l).getD k0 default) with Stacks := (min (addR (((copiedR l).getD k0 default).Stacks) 1) (((getUR c id).1).Stacks)) }).getD k0 default) with Until := (addR now (((getUR c id).1).Ticks)) }).getD k0 default).Stacks)) rfl rfl rfl (step_idxR (k := k0) rfl rfl rfl rfl (by first | assumption | omega | (have := jk18; simp only [List.length_set] at this ⊢; omega) | (have := jk18; simp at this ⊢; omega)) rfl (step_r rfl rfl (by decide) ?_))
      refine step_storeR rfl rfl rfl rfl (by first | decide | (have := flat_lt (s := 6) (enc := encGActive) (fun _ => rfl) jk18; show k0 * 6 + 5 < _; omega)) (flat_set (enc := encGActive) (s := 6) (y := { ((((copiedR l).set k0 { ((copiedR l).getD k0 default) with Stacks := (min (addR (((copiedR l).getD k0 default).Stacks) 1) (((getUR c id).1).Stacks)) }).set k0 { (((copiedR l).set k0 { ((copiedR l).getD k0 default) with Stacks := (min (addR (((copiedR l).getD k0 default).Stacks) 1) (((getUR c id).1).Stacks)) }).getD k0 default) with Until := (addR now (((getUR c id).1).Ticks)) }).getD k0 default) with Left := (leftR ((getUR c id).1) (((((copiedR l).set k0 { ((copiedR l).getD k0 default) with Stacks := (min (addR (((copiedR l).getD k0 default).Stacks) 1) (((getUR c id).1).Stacks)) }).set k0 { (((copiedR l).set k0 { ((copiedR l).getD k0 default) with Stacks := (min (addR (((copiedR l).getD k0 default).Stacks) 1) (((getUR c id).1).Stacks)) }).getD k0 default) with Until := (addR now (((getUR c id).1).Ticks)) }).getD k0 default).Stacks)) }) (fun _ => rfl) (get_getD jk18) (by decide) rfl) (.inr (by decide +kernel)) rfl ?_
      refine step_nil (seqK_n (sem_seq (sem_region rfl (step_r rfl rfl trivial (step_r rfl rfl trivial (step_r rfl rfl trivial (step_nil (seqK_n (sem_ret (blkK_r (seqK_r ?_)))))))))))
      refine lupK_r (blkK_r (cutW_r (seqK_r ?_)))
      have e19 : applyR_L0 c l id source now (l.length - 0) 0 = .inl (((((copiedR l).set k0 { ((copiedR l).getD k0 default) with Stacks := (min (addR (((copiedR l).getD k0 default).Stacks) 1) (((getUR c id).1).Stacks)) }).set k0 { (((copiedR l).set k0 { ((copiedR l).getD k0 default) with Stacks := (min (addR (((copiedR l).getD k0 default).Stacks) 1) (((getUR c id).1).Stacks)) }).getD k0 default) with Until := (addR now (((getUR c id).1).Ticks)) }).set k0 { ((((copiedR l).set k0 { ((copiedR l).getD k0 default) with Stacks := (min (addR (((copiedR l).getD k0 default).Stacks) 1) (((getUR c id).1).Stacks)) }).set k0 { (((copiedR l).set k0 { ((copiedR l).getD k0 default) with Stacks := (min (addR (((copiedR l).getD k0 default).Stacks) 1) (((getUR c id).1).Stacks)) }).getD k0 default) with Until := (addR now (((getUR c id).1).Ticks)) }).getD k0 default) with Left := (leftR ((getUR c id).1) (((((copiedR l).set k0 { ((copiedR l).getD k0 default) with Stacks := (min (addR (((copiedR l).getD k0 default).Stacks) 1) (((getUR c id).1).Stacks)) }).set k0 { (((copiedR l).set k0 { ((copiedR l).getD k0 default) with Stacks := (min (addR (((copiedR l).getD k0 default).Stacks) 1) (((getUR c id).1).Stacks)) }).getD k0 default) with Until := (addR now (((getUR c id).1).Ticks)) }).getD k0 default).Stacks)) }), 0) := by
       rewrite [← hI0, hm0]
       rewrite [applyR_L0]
       try dsimp only
       rewrite [if_pos g12, if_pos g15]
       all_goals rfl
      have e20 : applyR c l id source now = (((((copiedR l).set k0 { ((copiedR l).getD k0 default) with Stacks := (min (addR (((copiedR l).getD k0 default).Stacks) 1) (((getUR c id).1).Stacks)) }).set k0 { (((copiedR l).set k0 { ((copiedR l).getD k0 default) with Stacks := (min (addR (((copiedR l).getD k0 default).Stacks) 1) (((getUR c id).1).Stacks)) }).getD k0 default) with Until := (addR now (((getUR c id).1).Ticks)) }).set k0 { ((((copiedR l).set k0 { ((copiedR l).getD k0 default) with Stacks := (min (addR (((copiedR l).getD k0 default).Stacks) 1) (((getUR c id).1).Stacks)) }).set k0 { (((copiedR l).set k0 { ((copiedR l).getD k0 default) with Stacks := (min (addR (((copiedR l).getD k0 default).Stacks) 1) (((getUR c id).1).Stacks)) }).getD k0 default) with Until := (addR now (((getUR c id).1).Ticks)) }).getD k0 default) with Left := (leftR ((getUR c id).1) (((((copiedR l).set k0 { ((copiedR l).getD k0 default) with Stacks := (min (addR (((copiedR l).getD k0 default).Stacks) 1) (((getUR c id).1).Stacks)) }).set k0 { (((copiedR l).set k0 { ((copiedR l).getD k0 default) with Stacks := (min (addR (((copiedR l).getD k0 default).Stacks) 1) (((getUR c id).1).Stacks)) }).getD k0 default) with Until := (addR now (((getUR c id).1).Ticks)) }).getD k0 default).Stacks)) }), 0) := by
       unfold applyR
       try dsimp only
       rewrite [if_pos g3, e19]
       try dsimp only
       all_goals rfl
      rw [e20]
      try simp only [List.length_set]
      exact answersGR [] [1] rfl ⟨trivial, trivial, trivial⟩ rfl (by (repeat' apply And.intro) <;> first | trivial | rfl | exact flat_len (fun _ => rfl) _ | exact encI_len _ | assumption) (rfl) rfl rfl rfl (by decide) rfl rfl ⟨⟨rfl, rfl⟩, trivial⟩
     ·have g15 : ¬ ((((copiedR l).getD k0 default).Source : Int) = source) := beq_f h15
      refine sem_skip (blkK_n (seqK_n (sem_region rfl (step_r rfl rfl trivial (step_bin rfl rfl rfl rfl rfl trivial (step_r rfl rfl trivial (step_nil ?_)))))))
      have e22 : applyR_L0 c l id source now (l.length - k0) k0 = applyR_L0 c l id source now (l.length - (k0 + 1)) (k0 + 1) := by
       rewrite [hm0]
       rewrite [applyR_L0]
       try dsimp only
       rewrite [if_pos g12, if_neg g15]
       all_goals rfl
      exact lup_againT (k0 + 1) ⟨e22.symm.trans hI0, (by omega), by first | omega | assumption | (simp only [List.length_append, List.length_cons, List.length_nil, List.length_set]; omega) | (simp; omega) | grind⟩ (by show l.length - (k0 + 1) < l.length - k0; omega) (Trans.ren [] (by decide +kernel) (by decide +kernel) rfl ⟨⟨rfl, rfl⟩, ⟨rfl, rfl⟩, ⟨rfl, rfl⟩, ⟨rfl, rfl⟩, ⟨rfl, rfl⟩, ⟨rfl, rfl⟩, ⟨congrArg (fun n => some (I n)) (wrapI (k := k0) (by first | omega | (simp; omega))), rfl⟩, trivial⟩ ⟨⟨rfl, rfl, rfl⟩, ⟨rfl, rfl, rfl⟩, trivial⟩ (by decide))
    ·have g12 : ¬ ((((copiedR l).getD k0 default).Aura : Int) = id) := beq_f h12
     refine step_g0 rfl h12 rfl (step_g0 rfl h12 rfl (step_g0 rfl h12 rfl (step_g0 rfl h12 rfl (step_g0 rfl h12 rfl (step_g0 rfl h12 rfl (step_g0 rfl h12 rfl (step_pickF rfl h12 rfl rfl (step_nil (seqK_n (sem_condF rfl (sem_skip ?_)))))))))))
     refine blkK_n (seqK_n (sem_region rfl (step_r rfl rfl trivial (step_bin rfl rfl rfl rfl rfl trivial (step_r rfl rfl trivial (step_nil ?_))))))
     have e24 : applyR_L0 c l id source now (l.length - k0) k0 = applyR_L0 c l id source now (l.length - (k0 + 1)) (k0 + 1) := by
      rewrite [hm0]
      rewrite [applyR_L0]
      try dsimp only
      rewrite [if_neg g12]
      all_goals rfl
     exact lup_againT (k0 + 1) ⟨e24.symm.trans hI0, (by omega), by first | omega | assumption | (simp only [List.length_append, List.length_cons, List.length_nil, List.length_set]; omega) | (simp; omega) | grind⟩ (by show l.length - (k0 + 1) < l.length - k0; omega) (Trans.ren [] (by decide +kernel) (by decide +kernel) rfl ⟨⟨rfl, rfl⟩, ⟨rfl, rfl⟩, ⟨rfl, rfl⟩, ⟨rfl, rfl⟩, ⟨rfl, rfl⟩, ⟨rfl, rfl⟩, ⟨congrArg (fun n => some (I n)) (wrapI (k := k0) (by first | omega | (simp; omega))), rfl⟩, trivial⟩ ⟨⟨rfl, rfl, rfl⟩, ⟨rfl, rfl, rfl⟩, trivial⟩ (by decide))
   ·have g8 : ¬ ((k0 : Int) < ((copiedR l).length)) := of_decide_eq_false h8
    have hm0 : l.length - k0 = 0 := by omega
    refine sem_exit (seqK_e (lupK_e (blkK_t rfl ?_)))
    have e25 : applyR_L0 c l id source now (l.length - 0) 0 = .inr () := by
     rewrite [← hI0, hm0]
     rewrite [applyR_L0]
     try dsimp only
     all_goals rfl
    exact cutW_n () e25 (Trans.ren [] (by decide +kernel) (by decide +kernel) rfl ⟨⟨rfl, rfl⟩, ⟨rfl, rfl⟩, ⟨rfl, rfl⟩, ⟨rfl, rfl⟩, ⟨rfl, rfl⟩, ⟨rfl, rfl⟩, trivial⟩ ⟨⟨rfl, rfl, rfl⟩, ⟨rfl, rfl, rfl⟩, trivial⟩ (by decide))
  ·rintro ⟨⟩ (hJ6 : applyR_L0 c l id source now (l.length - 0) 0 = .inr ())
   show seqK _ _ _ .normal (⟨[(1, .pv (.slc l.length l_f (l.flatMap encGActive))), (2, I id), (3, I source), (4, I now), (12, .ptr 0 0), (14, .ref 1 6 0 (copiedR l).length)], [(0, .box [I ((getUR c id).1).Id, I ((getUR c id).1).Kind, I ((getUR c id).1).Ticks, I ((getUR c id).1).Every, I ((getUR c id).1).Stacks, I ((getUR c id).1).Amount, B ((getUR c id).1).Harm]), (1, .row 42 6 ((copiedR l).flatMap encGActive))], 2, [], 106, 0⟩ : St)
   refine seqK_n (sem_seq (sem_seq (sem_region rfl (step_r rfl rfl trivial (step_r rfl rfl trivial (step_bin rfl rfl rfl rfl rfl trivial (step_nil (seqK_n ?_))))))))
   refine sem_cond rfl (fun h26 => ?_) (fun h26 => ?_)
   ·have g26 : (l.length : Int) ≥ 16 := of_decide_eq_true h26
    refine sem_seq (sem_region rfl (step_n (nx' := 3) rfl rfl rfl trivial (step_r rfl rfl trivial (step_nil (seqK_n (sem_ret (seqK_r ?_)))))))
    have e27 : applyR c l id source now = ([], 4) := by
     unfold applyR
     try dsimp only
     rewrite [if_pos g3, hJ6]
     try dsimp only
     rewrite [if_pos g26]
     all_goals rfl
    rw [e27]
    exact answersGR [] [2] rfl ⟨trivial, trivial, trivial⟩ rfl (by (repeat' apply And.intro) <;> first | trivial | rfl | exact flat_len (fun _ => rfl) _ | exact encI_len _ | assumption) (rfl) rfl rfl rfl (by decide) rfl rfl ⟨⟨rfl, rfl⟩, trivial⟩
   ·have g26 : ¬ ((l.length : Int) ≥ 16) := of_decide_eq_false h26
    refine sem_skip (seqK_n (sem_seq ?_))
    refine sem_drawn rfl (by decide +kernel) rfl ?_
    refine step_r rfl rfl trivial (step_r rfl rfl trivial (step_r rfl rfl trivial (step_r rfl rfl (by decide) (step_r rfl rfl trivial (step_call rfl rfl rfl rfl (addR_ok now (((getUR c id).1).Ticks)) rfl rfl rfl (step_r (v := (.agg [_, _, _, _, _, _, _])) rfl rfl (Nat.le_of_ble_eq_true rfl) (step_call rfl rfl rfl rfl (leftR_ok ((getUR c id).1) 1) rfl rfl rfl (step_r (v := (.agg [_, _, _, _, _, _])) rfl rfl trivial (step_n (o := .box [_, _, _, _, _, _]) (nx' := 3) rfl rfl rfl trivial (step_store (H' := [(2, .box [_, _, _, _, _, _]), (0, .box [_, _, _, _, _, _, _]), (1, .row _ _ _)]) rfl rfl rfl rfl rfl rfl (Nat.le_of_ble_eq_true rfl) (.inr (by decide +kernel)) rfl (step_nil ?_)))))))))))
    refine seqK_n (sem_seq (sem_seq (sem_region rfl (step_r rfl rfl (by decide) (step_r rfl rfl trivial (step_bin rfl rfl rfl rfl rfl trivial (step_nil (seqK_n ?_))))))))
    refine sem_cond rfl (fun h31 => ?_) (fun h31 => ?_)
    ·have g31 : ¬ ((((getUR c id).1).Every : Int) = 0) := bne_t h31
     refine sem_region rfl (step_r rfl rfl trivial (step_r rfl rfl (by decide) (step_r rfl rfl trivial (step_call rfl rfl rfl rfl (addR_ok now (((getUR c id).1).Every)) rfl rfl rfl (step_r rfl rfl (by decide) (step_store (H' := [(2, .box [_, _, _, _, _, _]), (0, .box [_, _, _, _, _, _, _]), (1, .row _ _ _)]) rfl rfl rfl rfl rfl rfl (Nat.le_of_ble_eq_true rfl) (.inl rfl) rfl (step_nil (seqK_n (sem_seq (sem_region rfl (step_r rfl rfl trivial ?_)))))))))))
     refine step_r (v := (.agg [_, _, _, _, _, _])) rfl rfl (Nat.le_of_ble_eq_true rfl) (step_n (o := .row _ _ [_, _, _, _, _, _]) (nx' := 4) rfl rfl rfl (by decide) ?_)
     refine step_appendC (m := 1) (new := [_, _, _, _, _, _]) (cs' := ((copiedR l) ++ [(⟨id, source, 1, (addR now (((getUR c id).1).Ticks)), (addR now (((getUR c id).1).Every)), (leftR ((getUR c id).1) 1)⟩ : GActive)]).flatMap encGActive) (n' := ((copiedR l) ++ [(⟨id, source, 1, (addR now (((getUR c id).1).Ticks)), (addR now (((getUR c id).1).Every)), (leftR ((getUR c id).1) 1)⟩ : GActive)]).length) (H' := [(3, .row _ _ _), (2, .box [_, _, _, _, _, _]), (0, .box [_, _, _, _, _, _, _]), (1, .row _ _ _)]) rfl rfl rfl (rfl) rfl rfl rfl rfl rfl rfl (flat_len (s := 6) (enc := encGActive) (fun _ => rfl) (copiedR l)) (rfl) (by first | decide | (unfold maxGrow; omega) | (unfold maxGrow; simp; omega) | (unfold maxGrow; simp only [List.length_append, List.length_take, List.length_drop, List.length_cons, List.length_nil, IntKind.wrap_i64] at *; omega)) (len_snoc (copiedR l) _) (((flat_snoc (enc := encGActive) (l := (copiedR l)) (⟨id, source, 1, (addR now (((getUR c id).1).Ticks)), (addR now (((getUR c id).1).Every)), (leftR ((getUR c id).1) 1)⟩ : GActive))).symm) (.inl rfl) rfl rfl (.keep rfl (.keep rfl (.keep rfl (.keep rfl .nil)))) (.keep rfl (.keep rfl (.lose (v' := .undef) rfl (.keep rfl (.keep rfl (.keep rfl (.keep rfl (.keep rfl (.keep rfl (.keep rfl (.keep rfl (.keep rfl (.keep rfl (.keep rfl (.keep rfl (.keep rfl (.keep rfl (.keep rfl (.keep rfl (.keep rfl (.keep rfl (.keep rfl (.keep rfl (.keep rfl (.keep rfl (.keep rfl (.keep rfl (.keep rfl (.keep rfl (.lose (v' := .undef) rfl .nil)))))))))))))))))))))))))))))) ?_
     refine step_r rfl rfl trivial (step_r rfl rfl trivial (step_nil (seqK_n (sem_ret ?_))))
     have e32 : applyR c l id source now = (((copiedR l) ++ [(⟨id, source, 1, (addR now (((getUR c id).1).Ticks)), (addR now (((getUR c id).1).Every)), (leftR ((getUR c id).1) 1)⟩ : GActive)]), 0) := by
      unfold applyR
      try dsimp only
      rewrite [if_pos g3, hJ6]
      try dsimp only
      rewrite [if_neg g26, if_neg g31]
      all_goals rfl
     rw [e32]
     exact answersGR [] [1] rfl ⟨trivial, trivial, trivial⟩ rfl (by (repeat' apply And.intro) <;> first | trivial | rfl | exact flat_len (fun _ => rfl) _ | exact encI_len _ | assumption) (rfl) rfl rfl rfl (by decide) rfl rfl ⟨⟨rfl, rfl⟩, trivial⟩
    ·have g31 : (((getUR c id).1).Every : Int) = 0 := bne_f h31
     refine sem_skip (seqK_n (sem_seq (sem_region rfl (step_r rfl rfl trivial (step_r (v := (.agg [_, _, _, _, _, _])) rfl rfl (Nat.le_of_ble_eq_true rfl) (step_n (o := .row _ _ [_, _, _, _, _, _]) (nx' := 4) rfl rfl rfl (by decide) ?_))))))
     refine step_appendC (m := 1) (new := [_, _, _, _, _, _]) (cs' := ((copiedR l) ++ [(⟨id, source, 1, (addR now (((getUR c id).1).Ticks)), 0, (leftR ((getUR c id).1) 1)⟩ : GActive)]).flatMap encGActive) (n' := ((copiedR l) ++ [(⟨id, source, 1, (addR now (((getUR c id).1).Ticks)), 0, (leftR ((getUR c id).1) 1)⟩ : GActive)]).length) (H' := [(3, .row _ _ _), (2, .box [_, _, _, _, _, _]), (0, .box [_, _, _, _, _, _, _]), (1, .row _ _ _)]) rfl rfl rfl (rfl) rfl rfl rfl rfl rfl rfl (flat_len (s := 6) (enc := encGActive) (fun _ => rfl) (copiedR l)) (rfl) (by first | decide | (unfold maxGrow; omega) | (unfold maxGrow; simp; omega) | (unfold maxGrow; simp only [List.length_append, List.length_take, List.length_drop, List.length_cons, List.length_nil, IntKind.wrap_i64] at *; omega)) (len_snoc (copiedR l) _) (((flat_snoc (enc := encGActive) (l := (copiedR l)) (⟨id, source, 1, (addR now (((getUR c id).1).Ticks)), 0, (leftR ((getUR c id).1) 1)⟩ : GActive))).symm) (.inl rfl) rfl rfl (.keep rfl (.keep rfl (.keep rfl (.keep rfl .nil)))) (.keep rfl (.keep rfl (.lose (v' := .undef) rfl (.keep rfl (.keep rfl (.keep rfl (.keep rfl (.keep rfl (.keep rfl (.keep rfl (.keep rfl (.keep rfl (.keep rfl (.keep rfl (.keep rfl (.keep rfl (.keep rfl (.keep rfl (.keep rfl (.keep rfl (.keep rfl (.keep rfl (.keep rfl (.keep rfl (.lose (v' := .undef) rfl .nil))))))))))))))))))))))))) ?_
     refine step_r rfl rfl trivial (step_r rfl rfl trivial (step_nil (seqK_n (sem_ret ?_))))
     have e33 : applyR c l id source now = (((copiedR l) ++ [(⟨id, source, 1, (addR now (((getUR c id).1).Ticks)), 0, (leftR ((getUR c id).1) 1)⟩ : GActive)]), 0) := by
      unfold applyR
      try dsimp only
      rewrite [if_pos g3, hJ6]
      try dsimp only
      rewrite [if_neg g26, if_pos g31]
      all_goals rfl
     rw [e33]
     exact answersGR [] [1] rfl ⟨trivial, trivial, trivial⟩ rfl (by (repeat' apply And.intro) <;> first | trivial | rfl | exact flat_len (fun _ => rfl) _ | exact encI_len _ | assumption) (rfl) rfl rfl rfl (by decide) rfl rfl ⟨⟨rfl, rfl⟩, trivial⟩

def expireR_L0 (now : Int) : List GActive → Nat → (List GActive) → (List GActive) → (List GActive) × (List GActive)
  | [], k0, stay0, gone0 => (stay0, gone0)
  | x0 :: l_, k0, stay0, gone0 => if (x0.Until : Int) > now then expireR_L0 now l_ (k0 + 1) (stay0 ++ [x0]) gone0 else expireR_L0 now l_ (k0 + 1) stay0 (gone0 ++ [x0])
def expireR (l : List GActive) (now : Int) : (List GActive) × (List GActive) :=
  (match expireR_L0 now l 0 ([]) ([]) with
    | (stay_0, gone_0) => (stay_0, gone_0))
theorem expireR_ok (l : List GActive) (l_f : Bool) (now : Int) (hl : l.length ≤ 16777215) : Ok Try.prog 12 [.pv (.slc l.length l_f (l.flatMap encGActive)), I now] [] (.tup [.ref 0 6 0 (expireR l now).1.length, .ref 1 6 0 (expireR l now).2.length]) [.row 42 6 ((expireR l now).1.flatMap encGActive), .row 42 6 ((expireR l now).2.flatMap encGActive)] [] := by
 refine Ok.len fun hlen => ?_
 have hl_l : l.length ≤ maxLen := hlen _ (by simp [lensL, lens, lensP])
 unfold maxLen at hl_l
 refine ok_of_sem Try.func12 rfl ?_
 show Walks Try.prog _ _ ⟨[(0, .pv (.slc l.length l_f (l.flatMap encGActive))), (1, I now)], [], 0, [], 38, 0⟩
 refine sem_seq (sem_region rfl (step_n (nx' := 1) rfl rfl rfl trivial (step_n (nx' := 2) rfl rfl rfl trivial (step_nil (seqK_n (sem_seq (sem_region rfl (step_n (nx' := 3) rfl rfl rfl trivial (step_nil (seqK_n (sem_seq ?_)))))))))))
 refine sem_region rfl (step_n (nx' := 4) rfl rfl rfl trivial (step_nil (seqK_n (sem_seq (sem_seq (sem_region rfl (step_r rfl rfl trivial (step_nil (seqK_n ?_)))))))))
 refine sem_cutW (fun w_ : (List GActive) × (List GActive) => match w_ with | (stay_0, gone_0) => (⟨[(6, .ref 0 6 0 stay_0.length), (7, .ref 1 6 0 gone_0.length)], [(0, .row 42 6 (stay_0.flatMap encGActive)), (1, .row 42 6 (gone_0.flatMap encGActive))], 2, [], 38, 0⟩ : St)) (fun w_ => expireR_L0 now l 0 ([]) ([]) = w_) ?_ ?_
 ·refine sem_block ?_
  refine sem_loopT (fun w_ : Nat × (List GActive) × (List GActive) => match w_ with | (k0, stay0, gone0) => (⟨[(0, .pv (.slc l.length l_f (l.flatMap encGActive))), (1, I now), (6, .ref 0 6 0 stay0.length), (7, .ref 1 6 0 gone0.length), (8, I k0)], [(0, .row 42 6 (stay0.flatMap encGActive)), (1, .row 42 6 (gone0.flatMap encGActive))], 2, [], 38, 0⟩ : St)) (fun w_ : Nat × (List GActive) × (List GActive) => match w_ with | (k0, stay0, gone0) => expireR_L0 now (l.drop k0) k0 stay0 gone0 = expireR_L0 now l 0 ([]) ([]) ∧ k0 ≤ l.length ∧ stay0.length ≤ k0 ∧ gone0.length ≤ k0) (fun w_ : Nat × (List GActive) × (List GActive) => match w_ with | (k0, stay0, gone0) => l.length - k0) (0, [], []) (⟨rfl, Nat.zero_le _, by first | omega | simp | (simp; omega)⟩) ?_ (fun w_ hh_ => ?_)
  ·exact (Trans.ren [(0, 2), (1, 3), (2, 0), (3, 1)] (by decide +kernel) (by decide +kernel) rfl ⟨⟨rfl, rfl⟩, ⟨rfl, rfl⟩, ⟨congrArg (fun n => some (AV.ref 2 6 0 n)) (by first | rfl | simp only [List.length_set] | simp | omega | (simp; omega)), rfl⟩, ⟨congrArg (fun n => some (AV.ref 3 6 0 n)) (by first | rfl | simp only [List.length_set] | simp | omega | (simp; omega)), rfl⟩, ⟨rfl, rfl⟩, trivial⟩ ⟨⟨rfl, rfl, rfl⟩, ⟨rfl, rfl, rfl⟩, trivial⟩ (by decide))
  obtain ⟨k0, stay0, gone0⟩ := w_
  obtain ⟨hI0, hb0, hv0⟩ := hh_
  show Walks Try.prog _ _ (⟨[(0, .pv (.slc l.length l_f (l.flatMap encGActive))), (1, I now), (6, .ref 0 6 0 stay0.length), (7, .ref 1 6 0 gone0.length), (8, I k0)], [(0, .row 42 6 (stay0.flatMap encGActive)), (1, .row 42 6 (gone0.flatMap encGActive))], 2, [], 38, 0⟩ : St)
  refine sem_seq (sem_seq (sem_region rfl (step_r rfl rfl trivial (step_r rfl rfl trivial (step_r rfl rfl trivial (step_bin rfl rfl rfl rfl rfl trivial (step_nil (seqK_n ?_))))))))
  refine sem_cond rfl (fun h3 => ?_) (fun h3 => ?_)
  ·have g3 : (k0 : Int) < l.length := of_decide_eq_true h3
   have hk0 : k0 < l.length := by omega
   obtain ⟨x0, hx0⟩ : ∃ z_, l[k0]? = some z_ := ⟨_, List.getElem?_eq_getElem hk0⟩
   refine sem_skip (seqK_n (sem_seq (sem_block (sem_seq (sem_region rfl (step_r rfl rfl trivial (step_r rfl rfl trivial (step_idxS (k := k0) rfl rfl rfl rfl hk0 (flat_ne (s := 6) (enc := encGActive) (fun _ => rfl) (by decide) hk0) rfl (step_r rfl rfl (by decide) (step_load_one rfl rfl rfl (flat_get (s := 6) (enc := encGActive) (fun _ => rfl) hx0 (o := 3) rfl (by decide)) rfl (step_r rfl rfl trivial ?_)))))))))))
   refine step_bin rfl rfl rfl rfl rfl trivial (step_nil (seqK_n ?_))
   refine sem_cond rfl (fun h5 => ?_) (fun h5 => ?_)
   ·have g5 : (x0.Until : Int) > now := of_decide_eq_true h5
    refine sem_region rfl (step_r rfl rfl trivial (step_r rfl rfl trivial (step_r rfl rfl trivial (step_idxS (k := k0) rfl rfl rfl rfl hk0 (flat_ne (s := 6) (enc := encGActive) (fun _ => rfl) (by decide) hk0) rfl (step_load_row rfl rfl rfl (flat_lt (s := 6) (enc := encGActive) (fun _ => rfl) hk0) (flat_take (s := 6) (enc := encGActive) (fun _ => rfl) hx0) rfl (step_n (o := .row _ _ [_, _, _, _, _, _]) (nx' := 3) rfl rfl rfl (by decide) ?_))))))
    refine step_appendC (m := 1) (new := [_, _, _, _, _, _]) (cs' := (stay0 ++ [x0]).flatMap encGActive) (n' := (stay0 ++ [x0]).length) (H' := [(2, .row _ _ _), (0, .row _ _ _), (1, .row _ _ _)]) rfl rfl rfl (rfl) rfl rfl rfl rfl rfl rfl (flat_len (s := 6) (enc := encGActive) (fun _ => rfl) stay0) (rfl) (by first | decide | (unfold maxGrow; omega) | (unfold maxGrow; simp; omega) | (unfold maxGrow; simp only [List.length_append, List.length_take, List.length_drop, List.length_cons, List.length_nil, IntKind.wrap_i64] at *; omega)) (len_snoc stay0 _) (((flat_snoc (enc := encGActive) (l := stay0) x0)).symm) (.inl rfl) rfl rfl (.keep rfl (.keep rfl (.keep rfl .nil))) (.keep rfl (.keep rfl (.keep rfl (.keep rfl (.keep rfl (.lose (v' := .undef) rfl (.keep rfl (.keep rfl (.keep rfl (.keep rfl (.keep rfl (.keep rfl (.keep rfl (.keep rfl (.keep rfl (.keep rfl (.keep rfl (.keep rfl (.keep rfl (.lose (v' := .undef) rfl (.keep rfl (.keep rfl .nil)))))))))))))))))))))) ?_
    refine step_r rfl rfl trivial (step_nil (blkK_n (seqK_n (sem_region rfl (step_r rfl rfl trivial (step_bin rfl rfl rfl rfl rfl trivial (step_r rfl rfl trivial (step_nil ?_))))))))
    have e7 : expireR_L0 now (l.drop k0) k0 stay0 gone0 = expireR_L0 now (l.drop (k0 + 1)) (k0 + 1) (stay0 ++ [x0]) gone0 := by
     rewrite [drop_cons hx0]
     rewrite [expireR_L0]
     try dsimp only
     rewrite [if_pos g5]
     all_goals rfl
    exact lup_againT (k0 + 1, (stay0 ++ [x0]), gone0) ⟨e7.symm.trans hI0, hk0, by first | omega | assumption | (simp only [List.length_append, List.length_cons, List.length_nil, List.length_set]; omega) | (simp; omega) | grind⟩ (by show l.length - (k0 + 1) < l.length - k0; omega) (Trans.ren [] (by decide +kernel) (by decide +kernel) rfl ⟨⟨rfl, rfl⟩, ⟨rfl, rfl⟩, ⟨rfl, rfl⟩, ⟨rfl, rfl⟩, ⟨congrArg (fun n => some (I n)) (wrapI (k := k0) (by first | omega | (simp; omega))), rfl⟩, trivial⟩ ⟨⟨rfl, rfl, rfl⟩, ⟨rfl, rfl, rfl⟩, trivial⟩ (by decide))
   ·have g5 : ¬ ((x0.Until : Int) > now) := of_decide_eq_false h5
    refine sem_region rfl (step_r rfl rfl trivial (step_r rfl rfl trivial (step_r rfl rfl trivial (step_idxS (k := k0) rfl rfl rfl rfl hk0 (flat_ne (s := 6) (enc := encGActive) (fun _ => rfl) (by decide) hk0) rfl (step_load_row rfl rfl rfl (flat_lt (s := 6) (enc := encGActive) (fun _ => rfl) hk0) (flat_take (s := 6) (enc := encGActive) (fun _ => rfl) hx0) rfl (step_n (o := .row _ _ [_, _, _, _, _, _]) (nx' := 3) rfl rfl rfl (by decide) ?_))))))
    refine step_appendC (m := 1) (new := [_, _, _, _, _, _]) (cs' := (gone0 ++ [x0]).flatMap encGActive) (n' := (gone0 ++ [x0]).length) (H' := [(2, .row _ _ _), (0, .row _ _ _), (1, .row _ _ _)]) rfl rfl rfl (rfl) rfl rfl rfl rfl rfl rfl (flat_len (s := 6) (enc := encGActive) (fun _ => rfl) gone0) (rfl) (by first | decide | (unfold maxGrow; omega) | (unfold maxGrow; simp; omega) | (unfold maxGrow; simp only [List.length_append, List.length_take, List.length_drop, List.length_cons, List.length_nil, IntKind.wrap_i64] at *; omega)) (len_snoc gone0 _) (((flat_snoc (enc := encGActive) (l := gone0) x0)).symm) (.inl rfl) rfl rfl (.keep rfl (.keep rfl (.keep rfl .nil))) (.keep rfl (.keep rfl (.keep rfl (.keep rfl (.keep rfl (.lose (v' := .undef) rfl (.keep rfl (.keep rfl (.keep rfl (.keep rfl (.keep rfl (.keep rfl (.keep rfl (.keep rfl (.keep rfl (.keep rfl (.keep rfl (.keep rfl (.keep rfl (.keep rfl (.lose (v' := .undef) rfl (.keep rfl .nil)))))))))))))))))))))) ?_
    refine step_r rfl rfl trivial (step_nil (blkK_n (seqK_n (sem_region rfl (step_r rfl rfl trivial (step_bin rfl rfl rfl rfl rfl trivial (step_r rfl rfl trivial (step_nil ?_))))))))
    have e9 : expireR_L0 now (l.drop k0) k0 stay0 gone0 = expireR_L0 now (l.drop (k0 + 1)) (k0 + 1) stay0 (gone0 ++ [x0]) := by
     rewrite [drop_cons hx0]
     rewrite [expireR_L0]
     try dsimp only
     rewrite [if_neg g5]
     all_goals rfl
    exact lup_againT (k0 + 1, stay0, (gone0 ++ [x0])) ⟨e9.symm.trans hI0, hk0, by first | omega | assumption | (simp only [List.length_append, List.length_cons, List.length_nil, List.length_set]; omega) | (simp; omega) | grind⟩ (by show l.length - (k0 + 1) < l.length - k0; omega) (Trans.ren [] (by decide +kernel) (by decide +kernel) rfl ⟨⟨rfl, rfl⟩, ⟨rfl, rfl⟩, ⟨rfl, rfl⟩, ⟨rfl, rfl⟩, ⟨congrArg (fun n => some (I n)) (wrapI (k := k0) (by first | omega | (simp; omega))), rfl⟩, trivial⟩ ⟨⟨rfl, rfl, rfl⟩, ⟨rfl, rfl, rfl⟩, trivial⟩ (by decide))
  ·have g3 : ¬ ((k0 : Int) < l.length) := of_decide_eq_false h3
   have hk0 : k0 = l.length := by omega
   refine sem_exit (seqK_e (lupK_e (blkK_t rfl ?_)))
   have e10 : expireR_L0 now l 0 ([]) ([]) = (stay0, gone0) := by
    rewrite [← hI0, hk0, List.drop_length]
    rewrite [expireR_L0]
    try dsimp only
    all_goals rfl
   exact cutW_n (stay0, gone0) e10 (Trans.ren [] (by decide +kernel) (by decide +kernel) rfl ⟨⟨rfl, rfl⟩, ⟨rfl, rfl⟩, trivial⟩ ⟨⟨rfl, rfl, rfl⟩, ⟨rfl, rfl, rfl⟩, trivial⟩ (by decide))
 ·rintro ⟨stay_0, gone_0⟩ (hJ1 : expireR_L0 now l 0 ([]) ([]) = (stay_0, gone_0))
  show seqK _ _ _ .normal (⟨[(6, .ref 0 6 0 stay_0.length), (7, .ref 1 6 0 gone_0.length)], [(0, .row 42 6 (stay_0.flatMap encGActive)), (1, .row 42 6 (gone_0.flatMap encGActive))], 2, [], 38, 0⟩ : St)
  refine seqK_n (sem_seq (sem_region rfl (step_r rfl rfl trivial (step_r rfl rfl trivial (step_r rfl rfl trivial (step_r rfl rfl trivial (step_nil (seqK_n (sem_ret ?_)))))))))
  have e11 : expireR l now = (stay_0, gone_0) := by
   unfold expireR
   try dsimp only
   rewrite [hJ1]
   try dsimp only
   all_goals rfl
  rw [e11]
  exact answersGR [] [0, 1] rfl ⟨trivial, trivial, trivial⟩ rfl (by (repeat' apply And.intro) <;> first | trivial | rfl | exact flat_len (fun _ => rfl) _ | exact encI_len _ | assumption) (rfl) rfl rfl rfl (by decide) rfl rfl ⟨⟨rfl, rfl⟩, ⟨rfl, rfl⟩, trivial⟩

def tickR_L0 (c : GContent) (now : Int) : Nat → Nat → (List GActive) → (List GActive) → (List GActive) × (List GActive)
  | 0, k0, out0, due0 => (out0, due0)
  | n_ + 1, k0, out0, due0 => if (getUR c ((out0.getD k0 default).Aura)).2 = true then (if (((getUR c ((out0.getD k0 default).Aura)).1).Every : Int) > 0 then (if ((out0.getD k0 default).Next : Int) ≤ now then tickR_L0 c now n_ (k0 + 1) (out0.set k0 { (out0.getD k0 default) with Next := (addR ((out0.getD k0 default).Next) (((getUR c ((out0.getD k0 default).Aura)).1).Every)) }) (due0 ++ [(out0.getD k0 default)]) else tickR_L0 c now n_ (k0 + 1) out0 due0) else tickR_L0 c now n_ (k0 + 1) out0 due0) else tickR_L0 c now n_ (k0 + 1) out0 due0
def tickR (c : GContent) (l : List GActive) (now : Int) : (List GActive) × (List GActive) :=
  (match tickR_L0 c now (l.length - 0) 0 (copiedR l) ([]) with
    | (out_0, due_0) => (out_0, due_0))
theorem tickR_ok (c : GContent) (l : List GActive) (l_f : Bool) (now : Int) (hl : l.length ≤ 16777215) : Ok Try.prog 15 [aGContent c, .pv (.slc l.length l_f (l.flatMap encGActive)), I now] [] (.tup [.ref 0 6 0 (tickR c l now).1.length, .ref 1 6 0 (tickR c l now).2.length]) [.row 42 6 ((tickR c l now).1.flatMap encGActive), .row 42 6 ((tickR c l now).2.flatMap encGActive)] [] := by
 refine Ok.len fun hlen => ?_
 have hl_c_Abilities : c.Abilities.length ≤ maxLen := hlen _ (by simp [lensL, lens, lensP])
 have hl_c_Auras : c.Auras.length ≤ maxLen := hlen _ (by simp [lensL, lens, lensP])
 have hl_c_Foes : c.Foes.length ≤ maxLen := hlen _ (by simp [lensL, lens, lensP])
 have hl_c_Map_Wall : c.Map.Wall.length ≤ maxLen := hlen _ (by simp [lensL, lens, lensP])
 have hl_l : l.length ≤ maxLen := hlen _ (by simp [lensL, lens, lensP])
 unfold maxLen at hl_c_Abilities hl_c_Auras hl_c_Foes hl_c_Map_Wall hl_l
 refine ok_of_sem Try.func15 rfl ?_
 show Walks Try.prog _ _ ⟨[(0, aGContent c), (1, .pv (.slc l.length l_f (l.flatMap encGActive))), (2, I now)], [], 0, [], 67, 0⟩
 refine sem_seq (sem_region rfl (step_n (o := .box [_, _, _, _, _, _, _, _, _, _]) (nx' := 1) rfl rfl rfl trivial (step_n (nx' := 2) rfl rfl rfl trivial (step_n (nx' := 3) rfl rfl rfl trivial (step_nil (seqK_n (sem_seq (sem_region rfl (step_r rfl rfl trivial ?_)))))))))
 refine step_callN (out' := .ref 3 _ _ _) (H' := [(3, .row _ _ _), (2, .row _ _ _), (1, .row _ _ _), (0, .box [_, _, _, _, _, _, _, _, _, _])]) (nx' := 4) rfl rfl rfl rfl rfl rfl rfl (by (repeat' apply And.intro) <;> first | trivial | rfl | exact flat_len (fun _ => rfl) _ | exact encI_len _ | exact Nat.le_of_ble_eq_true rfl | assumption) (copiedR_ok l false (by first | assumption | omega | (simp only [List.length_nil, List.length_cons, List.length_append] at *; omega) | (simp; done) | (simp; omega))) rfl rfl rfl rfl ?_
 have p1 := copiedR_len l
 refine step_r rfl rfl trivial (step_nil (seqK_n (sem_seq (sem_region rfl (step_n (nx' := 5) rfl rfl rfl trivial (step_nil (seqK_n (sem_seq (sem_seq (sem_region rfl (step_r rfl rfl trivial ?_)))))))))))
 refine step_nil (seqK_n ?_)
 refine sem_cutW (fun w_ : (List GActive) × (List GActive) => match w_ with | (out_0, due_0) => (⟨[(8, .ref 0 6 0 out_0.length), (9, .ref 1 6 0 due_0.length)], [(0, .row 42 6 (out_0.flatMap encGActive)), (1, .row 42 6 (due_0.flatMap encGActive))], 2, [], 67, 0⟩ : St)) (fun w_ => tickR_L0 c now (l.length - 0) 0 (copiedR l) ([]) = w_) ?_ ?_
 ·refine sem_block ?_
  refine sem_loopT (fun w_ : Nat × (List GActive) × (List GActive) => match w_ with | (k0, out0, due0) => (⟨[(2, I now), (3, .ptr 0 0), (8, .ref 1 6 0 out0.length), (9, .ref 2 6 0 due0.length), (10, I k0)], [(0, .box [.pv (.slc c.Abilities.length false (c.Abilities.flatMap encGAbility)), .pv (.slc c.Auras.length false (c.Auras.flatMap encGAura)), .pv (.slc c.Foes.length false (c.Foes.flatMap encGFoe)), I c.Map.W, I c.Map.H, .pv (.slc c.Map.Wall.length false (encB c.Map.Wall)), I c.Door.X, I c.Door.Y, I c.Lair.X, I c.Lair.Y]), (1, .row 42 6 (out0.flatMap encGActive)), (2, .row 42 6 (due0.flatMap encGActive))], 3, [], 67, 0⟩ : St)) (fun w_ : Nat × (List GActive) × (List GActive) => match w_ with | (k0, out0, due0) => tickR_L0 c now (l.length - k0) k0 out0 due0 = tickR_L0 c now (l.length - 0) 0 (copiedR l) ([]) ∧ k0 ≤ l.length ∧ out0.length = l.length ∧ due0.length ≤ k0) (fun w_ : Nat × (List GActive) × (List GActive) => match w_ with | (k0, out0, due0) => l.length - k0) (0, (copiedR l), []) (⟨rfl, (by first | omega | (simp; omega)), ⟨copiedR_len l, by simp⟩⟩) ?_ (fun w_ hh_ => ?_)
  ·exact (Trans.ren [(1, 3), (2, 4), (3, 1), (4, 2)] (by decide +kernel) (by decide +kernel) rfl ⟨⟨rfl, rfl⟩, ⟨rfl, rfl⟩, ⟨rfl, rfl⟩, ⟨congrArg (fun n => some (AV.ref 4 6 0 n)) (by first | rfl | simp only [List.length_set] | simp | omega | (simp; omega)), rfl⟩, ⟨rfl, rfl⟩, trivial⟩ ⟨⟨rfl, rfl, rfl⟩, ⟨rfl, rfl, rfl⟩, ⟨rfl, rfl, rfl⟩, trivial⟩ (by decide))
  obtain ⟨k0, out0, due0⟩ := w_
  obtain ⟨hI0, hb0, hv0⟩ := hh_
  show Walks Try.prog _ _ (⟨[(2, I now), (3, .ptr 0 0), (8, .ref 1 6 0 out0.length), (9, .ref 2 6 0 due0.length), (10, I k0)], [(0, .box [.pv (.slc c.Abilities.length false (c.Abilities.flatMap encGAbility)), .pv (.slc c.Auras.length false (c.Auras.flatMap encGAura)), .pv (.slc c.Foes.length false (c.Foes.flatMap encGFoe)), I c.Map.W, I c.Map.H, .pv (.slc c.Map.Wall.length false (encB c.Map.Wall)), I c.Door.X, I c.Door.Y, I c.Lair.X, I c.Lair.Y]), (1, .row 42 6 (out0.flatMap encGActive)), (2, .row 42 6 (due0.flatMap encGActive))], 3, [], 67, 0⟩ : St)
  refine sem_seq (sem_seq (sem_region rfl (step_r rfl rfl trivial (step_r rfl rfl trivial (step_r rfl rfl trivial (step_bin rfl rfl rfl rfl rfl trivial (step_nil (seqK_n ?_))))))))
  refine sem_cond rfl (fun h4 => ?_) (fun h4 => ?_)
  ·have g4 : (k0 : Int) < out0.length := of_decide_eq_true h4
   have hm0 : l.length - k0 = (l.length - (k0 + 1)) + 1 := by omega
   refine sem_skip (seqK_n (sem_seq (sem_block (sem_seq ?_))))
   refine sem_drawnE [(11, 9)] rfl (by decide +kernel) (by decide +kernel) rfl ?_
   refine step_r (v := (.agg [_, _, _, _, _, _, _, _, _, _])) rfl rfl (Nat.le_of_ble_eq_true rfl) (step_r rfl rfl trivial (step_r rfl rfl trivial ?_))
   have jk5 : k0 < out0.length := by first | assumption | omega | (simp only [List.length_set, List.length_append]; omega) | (simp only [IntKind.wrap_i64] at *; omega) | (simp; omega) | simp_all
   refine step_idxR (k := k0) rfl rfl rfl rfl jk5 rfl (step_r rfl rfl (by decide) ?_)
   refine step_load_oneR rfl rfl rfl rfl (flat_get (s := 6) (enc := encGActive) (fun _ => rfl) (get_getD jk5) (o := 0) rfl (by decide)) rfl ?_
   refine step_call rfl rfl rfl rfl (getUR_ok c ((out0.getD k0 default).Aura)) rfl rfl rfl (step_r rfl rfl trivial (step_r rfl rfl trivial (step_r rfl rfl trivial (step_n (o := .box [_, _, _, _, _, _, _]) (nx' := 4) rfl rfl rfl trivial (step_store (H' := [(3, .box [_, _, _, _, _, _, _]), (0, .box [_, _, _, _, _, _, _, _, _, _]), (1, .row _ _ _), (2, .row _ _ _)]) rfl rfl rfl rfl rfl rfl (Nat.le_of_ble_eq_true rfl) (.inr (by decide +kernel)) rfl (step_r rfl rfl trivial (step_nil (seqK_n (sem_seq (sem_region rfl (step_r rfl rfl trivial ?_)))))))))))
   refine step_r rfl rfl trivial ?_
   refine step_gs rfl (fun h7 => ?_) (fun h7 => ?_)
   ·have g7 : (getUR c ((out0.getD k0 default).Aura)).2 = true := h7
    refine step_g1 rfl h7 (step_r rfl rfl (by decide) (step_g1 rfl h7 (step_r rfl rfl trivial (step_g1 rfl h7 (step_bin rfl rfl rfl rfl rfl trivial (step_pickT rfl h7 rfl rfl (step_r rfl rfl trivial ?_)))))))
    refine step_gs rfl (fun h9 => ?_) (fun h9 => ?_)
    ·have g9 : (((getUR c ((out0.getD k0 default).Aura)).1).Every : Int) > 0 := of_decide_eq_true h9
     refine step_g1 rfl h9 (step_r rfl rfl trivial (step_g1 rfl h9 (step_r rfl rfl trivial (step_g1 rfl h9 (step_idxR (k := k0) rfl rfl rfl rfl jk5 rfl (step_g1 rfl h9 (step_r rfl rfl (by decide) (step_g1 rfl h9 ?_))))))))
     refine step_load_oneR rfl rfl rfl rfl (flat_get (s := 6) (enc := encGActive) (fun _ => rfl) (get_getD jk5) (o := 4) rfl (by decide)) rfl ?_
     refine step_g1 rfl h9 (step_r rfl rfl trivial (step_g1 rfl h9 (step_bin rfl rfl rfl rfl rfl trivial (step_pickT rfl h9 rfl rfl (step_nil (seqK_n ?_))))))
     refine sem_cond rfl (fun h12 => ?_) (fun h12 => ?_)
     ·have g12 : ((out0.getD k0 default).Next : Int) ≤ now := of_decide_eq_true h12
      refine sem_seq (sem_region rfl (step_r rfl rfl trivial (step_r rfl rfl trivial (step_r rfl rfl trivial (step_idxR (k := k0) rfl rfl rfl rfl jk5 rfl ?_)))))
      refine step_load_rowR rfl rfl rfl rfl (flat_lt (s := 6) (enc := encGActive) (fun _ => rfl) jk5) (flat_take (s := 6) (enc := encGActive) (fun _ => rfl) (get_getD jk5)) rfl ?_
      refine step_n (o := .row _ _ [_, _, _, _, _, _]) (nx' := 5) rfl rfl rfl (by decide) ?_
      refine step_appendC (m := 1) (new := [_, _, _, _, _, _]) (cs' := (due0 ++ [(out0.getD k0 default)]).flatMap encGActive) (n' := (due0 ++ [(out0.getD k0 default)]).length) (H' := [(4, .row _ _ _), (3, .box [_, _, _, _, _, _, _]), (0, .box [_, _, _, _, _, _, _, _, _, _]), (1, .row _ _ _), (2, .row _ _ _)]) rfl rfl rfl (rfl) rfl rfl rfl rfl rfl rfl (flat_len (s := 6) (enc := encGActive) (fun _ => rfl) due0) (rfl) (by first | decide | (unfold maxGrow; omega) | (unfold maxGrow; simp; omega) | (unfold maxGrow; simp only [List.length_append, List.length_take, List.length_drop, List.length_cons, List.length_nil, IntKind.wrap_i64] at *; omega)) (len_snoc due0 _) (((flat_snoc (enc := encGActive) (l := due0) (out0.getD k0 default))).symm) (.inl rfl) rfl rfl (.keep rfl (.keep rfl (.keep rfl (.keep rfl (.keep rfl .nil))))) (.keep rfl (.keep rfl (.keep rfl (.keep rfl (.keep rfl (.lose (v' := .undef) rfl (.keep rfl (.keep rfl (.keep rfl (.keep rfl (.keep rfl (.keep rfl (.keep rfl (.keep rfl (.keep rfl (.keep rfl (.keep rfl (.keep rfl (.keep rfl (.keep rfl (.keep rfl (.keep rfl (.keep rfl (.keep rfl (.keep rfl (.keep rfl (.keep rfl (.keep rfl (.keep rfl (.keep rfl (.keep rfl (.keep rfl (.keep rfl (.keep rfl (.keep rfl (.keep rfl (.keep rfl (.keep rfl (.keep rfl (.keep rfl (.lose (v' := .undef) rfl (.keep rfl .nil)))))))))))))))))))))))))))))))))))))))))) ?_
      refine step_r rfl rfl trivial (step_nil (seqK_n ?_))
      refine sem_drawn rfl (by decide +kernel) rfl ?_
      refine step_r rfl rfl trivial (step_r rfl rfl trivial (step_r rfl rfl trivial (step_r rfl rfl trivial (step_idxR (k := k0) rfl rfl rfl rfl jk5 rfl (step_r rfl rfl (by decide) ?_)))))
      refine step_load_oneR rfl rfl rfl rfl (flat_get (s := 6) (enc := encGActive) (fun _ => rfl) (get_getD jk5) (o := 4) rfl (by decide)) rfl ?_
      refine step_r rfl rfl (by decide) (step_r rfl rfl trivial (step_call rfl rfl rfl rfl (addR_ok ((out0.getD k0 default).Next) (((getUR c ((out0.getD k0 default).Aura)).1).Every)) rfl rfl rfl (step_idxR (k := k0) rfl rfl rfl rfl jk5 rfl (step_r rfl rfl (by decide) ?_))))
      refine step_storeR rfl rfl rfl rfl (by first | decide | (have := flat_lt (s := 6) (enc := encGActive) (fun _ => rfl) jk5; show k0 * 6 + 4 < _; omega)) (flat_set (enc := encGActive) (s := 6) (y := { (out0.getD k0 default) with Next := (addR ((out0.getD k0 default).Next) (((getUR c ((out0.getD k0 default).Aura)).1).Every)) }) (fun _ => rfl) (get_getD jk5) (by decide) rfl) (.inr (by decide +kernel)) rfl ?_
      refine step_nil (blkK_n (seqK_n (sem_region rfl (step_r rfl rfl trivial (step_bin rfl rfl rfl rfl rfl trivial (step_r rfl rfl trivial (step_nil ?_)))))))
      have e14 : tickR_L0 c now (l.length - k0) k0 out0 due0 = tickR_L0 c now (l.length - (k0 + 1)) (k0 + 1) (out0.set k0 { (out0.getD k0 default) with Next := (addR ((out0.getD k0 default).Next) (((getUR c ((out0.getD k0 default).Aura)).1).Every)) }) (due0 ++ [(out0.getD k0 default)]) := by
       rewrite [hm0]
       rewrite [tickR_L0]
       try dsimp only
       rewrite [if_pos g7, if_pos g9, if_pos g12]
       all_goals rfl
      exact lup_againT (k0 + 1, (out0.set k0 { (out0.getD k0 default) with Next := (addR ((out0.getD k0 default).Next) (((getUR c ((out0.getD k0 default).Aura)).1).Every)) }), (due0 ++ [(out0.getD k0 default)])) ⟨e14.symm.trans hI0, (by omega), by first | omega | assumption | (simp only [List.length_append, List.length_cons, List.length_nil, List.length_set]; omega) | (simp; omega) | grind⟩ (by show l.length - (k0 + 1) < l.length - k0; omega) (Trans.ren [] (by decide +kernel) (by decide +kernel) rfl ⟨⟨rfl, rfl⟩, ⟨rfl, rfl⟩, ⟨congrArg (fun n => some (AV.ref 1 6 0 n)) (by first | rfl | simp only [List.length_set] | simp | omega | (simp; omega)), rfl⟩, ⟨rfl, rfl⟩, ⟨congrArg (fun n => some (I n)) (wrapI (k := k0) (by first | omega | (simp; omega))), rfl⟩, trivial⟩ ⟨⟨rfl, rfl, rfl⟩, ⟨rfl, rfl, rfl⟩, ⟨rfl, rfl, rfl⟩, trivial⟩ (by decide))
     ·have g12 : ¬ (((out0.getD k0 default).Next : Int) ≤ now) := of_decide_eq_false h12
      refine sem_skip (blkK_n (seqK_n (sem_region rfl (step_r rfl rfl trivial (step_bin rfl rfl rfl rfl rfl trivial (step_r rfl rfl trivial (step_nil ?_)))))))
      have e16 : tickR_L0 c now (l.length - k0) k0 out0 due0 = tickR_L0 c now (l.length - (k0 + 1)) (k0 + 1) out0 due0 := by
       rewrite [hm0]
       rewrite [tickR_L0]
       try dsimp only
       rewrite [if_pos g7, if_pos g9, if_neg g12]
       all_goals rfl
      exact lup_againT (k0 + 1, out0, due0) ⟨e16.symm.trans hI0, (by omega), by first | omega | assumption | (simp only [List.length_append, List.length_cons, List.length_nil, List.length_set]; omega) | (simp; omega) | grind⟩ (by show l.length - (k0 + 1) < l.length - k0; omega) (Trans.ren [] (by decide +kernel) (by decide +kernel) rfl ⟨⟨rfl, rfl⟩, ⟨rfl, rfl⟩, ⟨rfl, rfl⟩, ⟨rfl, rfl⟩, ⟨congrArg (fun n => some (I n)) (wrapI (k := k0) (by first | omega | (simp; omega))), rfl⟩, trivial⟩ ⟨⟨rfl, rfl, rfl⟩, ⟨rfl, rfl, rfl⟩, ⟨rfl, rfl, rfl⟩, trivial⟩ (by decide))
    ·have g9 : ¬ ((((getUR c ((out0.getD k0 default).Aura)).1).Every : Int) > 0) := of_decide_eq_false h9
     refine step_g0 rfl h9 rfl (step_g0 rfl h9 rfl (step_g0 rfl h9 rfl (step_g0 rfl h9 rfl (step_g0 rfl h9 rfl (step_g0 rfl h9 rfl (step_g0 rfl h9 rfl (step_pickF rfl h9 rfl rfl (step_nil (seqK_n (sem_condF rfl (sem_skip ?_)))))))))))
     refine blkK_n (seqK_n (sem_region rfl (step_r rfl rfl trivial (step_bin rfl rfl rfl rfl rfl trivial (step_r rfl rfl trivial (step_nil ?_))))))
     have e18 : tickR_L0 c now (l.length - k0) k0 out0 due0 = tickR_L0 c now (l.length - (k0 + 1)) (k0 + 1) out0 due0 := by
      rewrite [hm0]
      rewrite [tickR_L0]
      try dsimp only
      rewrite [if_pos g7, if_neg g9]
      all_goals rfl
     exact lup_againT (k0 + 1, out0, due0) ⟨e18.symm.trans hI0, (by omega), by first | omega | assumption | (simp only [List.length_append, List.length_cons, List.length_nil, List.length_set]; omega) | (simp; omega) | grind⟩ (by show l.length - (k0 + 1) < l.length - k0; omega) (Trans.ren [] (by decide +kernel) (by decide +kernel) rfl ⟨⟨rfl, rfl⟩, ⟨rfl, rfl⟩, ⟨rfl, rfl⟩, ⟨rfl, rfl⟩, ⟨congrArg (fun n => some (I n)) (wrapI (k := k0) (by first | omega | (simp; omega))), rfl⟩, trivial⟩ ⟨⟨rfl, rfl, rfl⟩, ⟨rfl, rfl, rfl⟩, ⟨rfl, rfl, rfl⟩, trivial⟩ (by decide))
   ·have g7 : ¬ ((getUR c ((out0.getD k0 default).Aura)).2 = true) := boo_f h7
    refine step_g0 rfl h7 rfl (step_g0 rfl h7 rfl (step_g0 rfl h7 rfl (step_pickF rfl h7 rfl rfl (step_r rfl rfl trivial (step_gf rfl rfl (step_gf rfl rfl (step_gf rfl rfl (step_gf rfl rfl (step_gf rfl rfl (step_gf rfl rfl (step_gf rfl rfl ?_)))))))))))
    refine step_r rfl rfl trivial (step_nil (seqK_n (sem_condF rfl (sem_skip (blkK_n (seqK_n (sem_region rfl (step_r rfl rfl trivial (step_bin rfl rfl rfl rfl rfl trivial (step_r rfl rfl trivial (step_nil ?_)))))))))))
    have e20 : tickR_L0 c now (l.length - k0) k0 out0 due0 = tickR_L0 c now (l.length - (k0 + 1)) (k0 + 1) out0 due0 := by
     rewrite [hm0]
     rewrite [tickR_L0]
     try dsimp only
     rewrite [if_neg g7]
     all_goals rfl
    exact lup_againT (k0 + 1, out0, due0) ⟨e20.symm.trans hI0, (by omega), by first | omega | assumption | (simp only [List.length_append, List.length_cons, List.length_nil, List.length_set]; omega) | (simp; omega) | grind⟩ (by show l.length - (k0 + 1) < l.length - k0; omega) (Trans.ren [] (by decide +kernel) (by decide +kernel) rfl ⟨⟨rfl, rfl⟩, ⟨rfl, rfl⟩, ⟨rfl, rfl⟩, ⟨rfl, rfl⟩, ⟨congrArg (fun n => some (I n)) (wrapI (k := k0) (by first | omega | (simp; omega))), rfl⟩, trivial⟩ ⟨⟨rfl, rfl, rfl⟩, ⟨rfl, rfl, rfl⟩, ⟨rfl, rfl, rfl⟩, trivial⟩ (by decide))
  ·have g4 : ¬ ((k0 : Int) < out0.length) := of_decide_eq_false h4
   have hm0 : l.length - k0 = 0 := by omega
   refine sem_exit (seqK_e (lupK_e (blkK_t rfl ?_)))
   have e21 : tickR_L0 c now (l.length - 0) 0 (copiedR l) ([]) = (out0, due0) := by
    rewrite [← hI0, hm0]
    rewrite [tickR_L0]
    try dsimp only
    all_goals rfl
   exact cutW_n (out0, due0) e21 (Trans.ren [(0, 1), (1, 2), (2, 0)] (by decide +kernel) (by decide +kernel) rfl ⟨⟨rfl, rfl⟩, ⟨rfl, rfl⟩, trivial⟩ ⟨⟨rfl, rfl, rfl⟩, ⟨rfl, rfl, rfl⟩, trivial⟩ (by decide))
 ·rintro ⟨out_0, due_0⟩ (hJ2 : tickR_L0 c now (l.length - 0) 0 (copiedR l) ([]) = (out_0, due_0))
  show seqK _ _ _ .normal (⟨[(8, .ref 0 6 0 out_0.length), (9, .ref 1 6 0 due_0.length)], [(0, .row 42 6 (out_0.flatMap encGActive)), (1, .row 42 6 (due_0.flatMap encGActive))], 2, [], 67, 0⟩ : St)
  refine seqK_n (sem_seq (sem_region rfl (step_r rfl rfl trivial (step_r rfl rfl trivial (step_r rfl rfl trivial (step_r rfl rfl trivial (step_nil (seqK_n (sem_ret ?_)))))))))
  have e22 : tickR c l now = (out_0, due_0) := by
   unfold tickR
   try dsimp only
   rewrite [hJ2]
   try dsimp only
   all_goals rfl
  rw [e22]
  exact answersGR [] [0, 1] rfl ⟨trivial, trivial, trivial⟩ rfl (by (repeat' apply And.intro) <;> first | trivial | rfl | exact flat_len (fun _ => rfl) _ | exact encI_len _ | assumption) (rfl) rfl rfl rfl (by decide) rfl rfl ⟨⟨rfl, rfl⟩, ⟨rfl, rfl⟩, trivial⟩

def dispelR_L0 (c : GContent) (n : Int) : List GActive → Nat → (List GActive) → (List GActive) → (List GActive) × (List GActive)
  | [], k0, stay0, gone0 => (stay0, gone0)
  | x0 :: l_, k0, stay0, gone0 => if (getUR c x0.Aura).2 = true then (if ((getUR c x0.Aura).1).Harm = true then (if (gone0.length : Int) < n then dispelR_L0 c n l_ (k0 + 1) stay0 (gone0 ++ [x0]) else dispelR_L0 c n l_ (k0 + 1) (stay0 ++ [x0]) gone0) else dispelR_L0 c n l_ (k0 + 1) (stay0 ++ [x0]) gone0) else dispelR_L0 c n l_ (k0 + 1) (stay0 ++ [x0]) gone0
def dispelR (c : GContent) (l : List GActive) (n : Int) : (List GActive) × (List GActive) :=
  (match dispelR_L0 c n l 0 ([]) ([]) with
    | (stay_0, gone_0) => (stay_0, gone_0))
theorem dispelR_ok (c : GContent) (l : List GActive) (l_f : Bool) (n : Int) (hl : l.length ≤ 16777215) : Ok Try.prog 17 [aGContent c, .pv (.slc l.length l_f (l.flatMap encGActive)), I n] [] (.tup [.ref 0 6 0 (dispelR c l n).1.length, .ref 1 6 0 (dispelR c l n).2.length]) [.row 42 6 ((dispelR c l n).1.flatMap encGActive), .row 42 6 ((dispelR c l n).2.flatMap encGActive)] [] := by
 refine Ok.len fun hlen => ?_
 have hl_c_Abilities : c.Abilities.length ≤ maxLen := hlen _ (by simp [lensL, lens, lensP])
 have hl_c_Auras : c.Auras.length ≤ maxLen := hlen _ (by simp [lensL, lens, lensP])
 have hl_c_Foes : c.Foes.length ≤ maxLen := hlen _ (by simp [lensL, lens, lensP])
 have hl_c_Map_Wall : c.Map.Wall.length ≤ maxLen := hlen _ (by simp [lensL, lens, lensP])
 have hl_l : l.length ≤ maxLen := hlen _ (by simp [lensL, lens, lensP])
 unfold maxLen at hl_c_Abilities hl_c_Auras hl_c_Foes hl_c_Map_Wall hl_l
 refine ok_of_sem Try.func17 rfl ?_
 show Walks Try.prog _ _ ⟨[(0, aGContent c), (1, .pv (.slc l.length l_f (l.flatMap encGActive))), (2, I n)], [], 0, [], 56, 0⟩
 refine sem_seq (sem_region rfl (step_n (o := .box [_, _, _, _, _, _, _, _, _, _]) (nx' := 1) rfl rfl rfl trivial (step_n (nx' := 2) rfl rfl rfl trivial (step_n (nx' := 3) rfl rfl rfl trivial (step_nil (seqK_n (sem_seq (sem_region rfl (step_n (nx' := 4) rfl rfl rfl trivial (step_nil (seqK_n ?_)))))))))))
 refine sem_seq (sem_region rfl (step_n (nx' := 5) rfl rfl rfl trivial (step_nil (seqK_n (sem_seq (sem_seq (sem_region rfl (step_r rfl rfl trivial (step_nil (seqK_n ?_))))))))))
 refine sem_cutW (fun w_ : (List GActive) × (List GActive) => match w_ with | (stay_0, gone_0) => (⟨[(8, .ref 0 6 0 stay_0.length), (9, .ref 1 6 0 gone_0.length)], [(0, .row 42 6 (stay_0.flatMap encGActive)), (1, .row 42 6 (gone_0.flatMap encGActive))], 2, [], 56, 0⟩ : St)) (fun w_ => dispelR_L0 c n l 0 ([]) ([]) = w_) ?_ ?_
 ·refine sem_block ?_
  refine sem_loopT (fun w_ : Nat × (List GActive) × (List GActive) => match w_ with | (k0, stay0, gone0) => (⟨[(1, .pv (.slc l.length l_f (l.flatMap encGActive))), (2, I n), (3, .ptr 0 0), (8, .ref 1 6 0 stay0.length), (9, .ref 2 6 0 gone0.length), (10, I k0)], [(0, .box [.pv (.slc c.Abilities.length false (c.Abilities.flatMap encGAbility)), .pv (.slc c.Auras.length false (c.Auras.flatMap encGAura)), .pv (.slc c.Foes.length false (c.Foes.flatMap encGFoe)), I c.Map.W, I c.Map.H, .pv (.slc c.Map.Wall.length false (encB c.Map.Wall)), I c.Door.X, I c.Door.Y, I c.Lair.X, I c.Lair.Y]), (1, .row 42 6 (stay0.flatMap encGActive)), (2, .row 42 6 (gone0.flatMap encGActive))], 3, [], 56, 0⟩ : St)) (fun w_ : Nat × (List GActive) × (List GActive) => match w_ with | (k0, stay0, gone0) => dispelR_L0 c n (l.drop k0) k0 stay0 gone0 = dispelR_L0 c n l 0 ([]) ([]) ∧ k0 ≤ l.length ∧ stay0.length ≤ k0 ∧ gone0.length ≤ k0) (fun w_ : Nat × (List GActive) × (List GActive) => match w_ with | (k0, stay0, gone0) => l.length - k0) (0, [], []) (⟨rfl, Nat.zero_le _, by first | omega | simp | (simp; omega)⟩) ?_ (fun w_ hh_ => ?_)
  ·exact (Trans.ren [(1, 3), (2, 4), (3, 1), (4, 2)] (by decide +kernel) (by decide +kernel) rfl ⟨⟨rfl, rfl⟩, ⟨rfl, rfl⟩, ⟨rfl, rfl⟩, ⟨congrArg (fun n => some (AV.ref 3 6 0 n)) (by first | rfl | simp only [List.length_set] | simp | omega | (simp; omega)), rfl⟩, ⟨congrArg (fun n => some (AV.ref 4 6 0 n)) (by first | rfl | simp only [List.length_set] | simp | omega | (simp; omega)), rfl⟩, ⟨rfl, rfl⟩, trivial⟩ ⟨⟨rfl, rfl, rfl⟩, ⟨rfl, rfl, rfl⟩, ⟨rfl, rfl, rfl⟩, trivial⟩ (by decide))
  obtain ⟨k0, stay0, gone0⟩ := w_
  obtain ⟨hI0, hb0, hv0⟩ := hh_
  show Walks Try.prog _ _ (⟨[(1, .pv (.slc l.length l_f (l.flatMap encGActive))), (2, I n), (3, .ptr 0 0), (8, .ref 1 6 0 stay0.length), (9, .ref 2 6 0 gone0.length), (10, I k0)], [(0, .box [.pv (.slc c.Abilities.length false (c.Abilities.flatMap encGAbility)), .pv (.slc c.Auras.length false (c.Auras.flatMap encGAura)), .pv (.slc c.Foes.length false (c.Foes.flatMap encGFoe)), I c.Map.W, I c.Map.H, .pv (.slc c.Map.Wall.length false (encB c.Map.Wall)), I c.Door.X, I c.Door.Y, I c.Lair.X, I c.Lair.Y]), (1, .row 42 6 (stay0.flatMap encGActive)), (2, .row 42 6 (gone0.flatMap encGActive))], 3, [], 56, 0⟩ : St)
  refine sem_seq (sem_seq (sem_region rfl (step_r rfl rfl trivial (step_r rfl rfl trivial (step_r rfl rfl trivial (step_bin rfl rfl rfl rfl rfl trivial (step_nil (seqK_n ?_))))))))
  refine sem_cond rfl (fun h3 => ?_) (fun h3 => ?_)
  ·have g3 : (k0 : Int) < l.length := of_decide_eq_true h3
   have hk0 : k0 < l.length := by omega
   obtain ⟨x0, hx0⟩ : ∃ z_, l[k0]? = some z_ := ⟨_, List.getElem?_eq_getElem hk0⟩
   refine sem_skip (seqK_n (sem_seq (sem_block (sem_seq ?_))))
   refine sem_drawnE [(11, 9)] rfl (by decide +kernel) (by decide +kernel) rfl ?_
   refine step_r (v := (.agg [_, _, _, _, _, _, _, _, _, _])) rfl rfl (Nat.le_of_ble_eq_true rfl) (step_r rfl rfl trivial (step_r rfl rfl trivial (step_idxS (k := k0) rfl rfl rfl rfl hk0 (flat_ne (s := 6) (enc := encGActive) (fun _ => rfl) (by decide) hk0) rfl (step_r rfl rfl (by decide) (step_load_one rfl rfl rfl (flat_get (s := 6) (enc := encGActive) (fun _ => rfl) hx0 (o := 0) rfl (by decide)) rfl (step_call rfl rfl rfl rfl (getUR_ok c x0.Aura) rfl rfl rfl (step_r rfl rfl trivial (step_r rfl rfl trivial (step_r rfl rfl trivial (step_n (o := .box [_, _, _, _, _, _, _]) (nx' := 4) rfl rfl rfl trivial (step_store (H' := [(3, .box [_, _, _, _, _, _, _]), (0, .box [_, _, _, _, _, _, _, _, _, _]), (1, .row _ _ _), (2, .row _ _ _)]) rfl rfl rfl rfl rfl rfl (Nat.le_of_ble_eq_true rfl) (.inr (by decide +kernel)) rfl ?_)))))))))))
   refine step_r rfl rfl trivial (step_nil (seqK_n (sem_seq (sem_region rfl (step_r rfl rfl trivial (step_r rfl rfl trivial ?_))))))
   refine step_gs rfl (fun h5 => ?_) (fun h5 => ?_)
   ·have g5 : (getUR c x0.Aura).2 = true := h5
    refine step_g1 rfl h5 (step_r rfl rfl (by decide) (step_g1 rfl h5 (step_r rfl rfl trivial (step_pickT rfl h5 rfl rfl (step_r rfl rfl trivial ?_)))))
    refine step_gs rfl (fun h7 => ?_) (fun h7 => ?_)
    ·have g7 : ((getUR c x0.Aura).1).Harm = true := h7
     refine step_g1 rfl h7 (step_r rfl rfl trivial (step_g1 rfl h7 (step_r rfl rfl trivial (step_g1 rfl h7 (step_r rfl rfl trivial (step_g1 rfl h7 (step_bin rfl rfl rfl rfl rfl trivial (step_pickT rfl h7 rfl rfl (step_nil (seqK_n ?_))))))))))
     refine sem_cond rfl (fun h10 => ?_) (fun h10 => ?_)
     ·have g10 : (gone0.length : Int) < n := of_decide_eq_true h10
      refine sem_region rfl (step_r rfl rfl trivial (step_r rfl rfl trivial (step_r rfl rfl trivial (step_idxS (k := k0) rfl rfl rfl rfl hk0 (flat_ne (s := 6) (enc := encGActive) (fun _ => rfl) (by decide) hk0) rfl (step_load_row rfl rfl rfl (flat_lt (s := 6) (enc := encGActive) (fun _ => rfl) hk0) (flat_take (s := 6) (enc := encGActive) (fun _ => rfl) hx0) rfl (step_n (o := .row _ _ [_, _, _, _, _, _]) (nx' := 5) rfl rfl rfl (by decide) ?_))))))
      refine step_appendC (m := 1) (new := [_, _, _, _, _, _]) (cs' := (gone0 ++ [x0]).flatMap encGActive) (n' := (gone0 ++ [x0]).length) (H' := [(4, .row _ _ _), (3, .box [_, _, _, _, _, _, _]), (0, .box [_, _, _, _, _, _, _, _, _, _]), (1, .row _ _ _), (2, .row _ _ _)]) rfl rfl rfl (rfl) rfl rfl rfl rfl rfl rfl (flat_len (s := 6) (enc := encGActive) (fun _ => rfl) gone0) (rfl) (by first | decide | (unfold maxGrow; omega) | (unfold maxGrow; simp; omega) | (unfold maxGrow; simp only [List.length_append, List.length_take, List.length_drop, List.length_cons, List.length_nil, IntKind.wrap_i64] at *; omega)) (len_snoc gone0 _) (((flat_snoc (enc := encGActive) (l := gone0) x0)).symm) (.inl rfl) rfl rfl (.keep rfl (.keep rfl (.keep rfl (.keep rfl (.keep rfl .nil))))) (.keep rfl (.keep rfl (.keep rfl (.keep rfl (.keep rfl (.lose (v' := .undef) rfl (.keep rfl (.keep rfl (.keep rfl (.keep rfl (.lose (v' := .undef) rfl (.keep rfl (.keep rfl (.keep rfl (.keep rfl (.keep rfl (.keep rfl (.keep rfl (.keep rfl (.keep rfl (.keep rfl (.keep rfl (.keep rfl (.keep rfl (.keep rfl (.keep rfl (.keep rfl (.keep rfl (.keep rfl (.keep rfl (.keep rfl (.keep rfl (.keep rfl (.keep rfl (.keep rfl (.keep rfl (.keep rfl (.lose (v' := .undef) rfl (.keep rfl .nil))))))))))))))))))))))))))))))))))))))) ?_
      refine step_r rfl rfl trivial (step_nil (blkK_n (seqK_n (sem_region rfl (step_r rfl rfl trivial (step_bin rfl rfl rfl rfl rfl trivial (step_r rfl rfl trivial (step_nil ?_))))))))
      have e12 : dispelR_L0 c n (l.drop k0) k0 stay0 gone0 = dispelR_L0 c n (l.drop (k0 + 1)) (k0 + 1) stay0 (gone0 ++ [x0]) := by
       rewrite [drop_cons hx0]
       rewrite [dispelR_L0]
       try dsimp only
       rewrite [if_pos g5, if_pos g7, if_pos g10]
       all_goals rfl
      exact lup_againT (k0 + 1, stay0, (gone0 ++ [x0])) ⟨e12.symm.trans hI0, hk0, by first | omega | assumption | (simp only [List.length_append, List.length_cons, List.length_nil, List.length_set]; omega) | (simp; omega) | grind⟩ (by show l.length - (k0 + 1) < l.length - k0; omega) (Trans.ren [] (by decide +kernel) (by decide +kernel) rfl ⟨⟨rfl, rfl⟩, ⟨rfl, rfl⟩, ⟨rfl, rfl⟩, ⟨rfl, rfl⟩, ⟨rfl, rfl⟩, ⟨congrArg (fun n => some (I n)) (wrapI (k := k0) (by first | omega | (simp; omega))), rfl⟩, trivial⟩ ⟨⟨rfl, rfl, rfl⟩, ⟨rfl, rfl, rfl⟩, ⟨rfl, rfl, rfl⟩, trivial⟩ (by decide))
     ·have g10 : ¬ ((gone0.length : Int) < n) := of_decide_eq_false h10
      refine sem_region rfl (step_r rfl rfl trivial (step_r rfl rfl trivial (step_r rfl rfl trivial (step_idxS (k := k0) rfl rfl rfl rfl hk0 (flat_ne (s := 6) (enc := encGActive) (fun _ => rfl) (by decide) hk0) rfl (step_load_row rfl rfl rfl (flat_lt (s := 6) (enc := encGActive) (fun _ => rfl) hk0) (flat_take (s := 6) (enc := encGActive) (fun _ => rfl) hx0) rfl (step_n (o := .row _ _ [_, _, _, _, _, _]) (nx' := 5) rfl rfl rfl (by decide) ?_))))))
      refine step_appendC (m := 1) (new := [_, _, _, _, _, _]) (cs' := (stay0 ++ [x0]).flatMap encGActive) (n' := (stay0 ++ [x0]).length) (H' := [(4, .row _ _ _), (3, .box [_, _, _, _, _, _, _]), (0, .box [_, _, _, _, _, _, _, _, _, _]), (1, .row _ _ _), (2, .row _ _ _)]) rfl rfl rfl (rfl) rfl rfl rfl rfl rfl rfl (flat_len (s := 6) (enc := encGActive) (fun _ => rfl) stay0) (rfl) (by first | decide | (unfold maxGrow; omega) | (unfold maxGrow; simp; omega) | (unfold maxGrow; simp only [List.length_append, List.length_take, List.length_drop, List.length_cons, List.length_nil, IntKind.wrap_i64] at *; omega)) (len_snoc stay0 _) (((flat_snoc (enc := encGActive) (l := stay0) x0)).symm) (.inl rfl) rfl rfl (.keep rfl (.keep rfl (.keep rfl (.keep rfl (.keep rfl .nil))))) (.keep rfl (.keep rfl (.keep rfl (.keep rfl (.keep rfl (.lose (v' := .undef) rfl (.keep rfl (.keep rfl (.keep rfl (.keep rfl (.keep rfl (.keep rfl (.keep rfl (.keep rfl (.keep rfl (.keep rfl (.keep rfl (.keep rfl (.keep rfl (.keep rfl (.keep rfl (.keep rfl (.keep rfl (.keep rfl (.keep rfl (.keep rfl (.keep rfl (.keep rfl (.keep rfl (.keep rfl (.keep rfl (.keep rfl (.keep rfl (.keep rfl (.keep rfl (.keep rfl (.lose (v' := .undef) rfl (.keep rfl (.keep rfl .nil))))))))))))))))))))))))))))))))))))))) ?_
      refine step_r rfl rfl trivial (step_nil (blkK_n (seqK_n (sem_region rfl (step_r rfl rfl trivial (step_bin rfl rfl rfl rfl rfl trivial (step_r rfl rfl trivial (step_nil ?_))))))))
      have e14 : dispelR_L0 c n (l.drop k0) k0 stay0 gone0 = dispelR_L0 c n (l.drop (k0 + 1)) (k0 + 1) (stay0 ++ [x0]) gone0 := by
       rewrite [drop_cons hx0]
       rewrite [dispelR_L0]
       try dsimp only
       rewrite [if_pos g5, if_pos g7, if_neg g10]
       all_goals rfl
      exact lup_againT (k0 + 1, (stay0 ++ [x0]), gone0) ⟨e14.symm.trans hI0, hk0, by first | omega | assumption | (simp only [List.length_append, List.length_cons, List.length_nil, List.length_set]; omega) | (simp; omega) | grind⟩ (by show l.length - (k0 + 1) < l.length - k0; omega) (Trans.ren [] (by decide +kernel) (by decide +kernel) rfl ⟨⟨rfl, rfl⟩, ⟨rfl, rfl⟩, ⟨rfl, rfl⟩, ⟨rfl, rfl⟩, ⟨rfl, rfl⟩, ⟨congrArg (fun n => some (I n)) (wrapI (k := k0) (by first | omega | (simp; omega))), rfl⟩, trivial⟩ ⟨⟨rfl, rfl, rfl⟩, ⟨rfl, rfl, rfl⟩, ⟨rfl, rfl, rfl⟩, trivial⟩ (by decide))
    ·have g7 : ¬ (((getUR c x0.Aura).1).Harm = true) := boo_f h7
     refine step_g0 rfl h7 rfl (step_g0 rfl h7 rfl (step_g0 rfl h7 rfl (step_g0 rfl h7 rfl (step_pickF rfl h7 rfl rfl (step_nil (seqK_n (sem_condF rfl (sem_region rfl (step_r rfl rfl trivial (step_r rfl rfl trivial (step_r rfl rfl trivial ?_)))))))))))
     refine step_idxS (k := k0) rfl rfl rfl rfl hk0 (flat_ne (s := 6) (enc := encGActive) (fun _ => rfl) (by decide) hk0) rfl (step_load_row rfl rfl rfl (flat_lt (s := 6) (enc := encGActive) (fun _ => rfl) hk0) (flat_take (s := 6) (enc := encGActive) (fun _ => rfl) hx0) rfl (step_n (o := .row _ _ [_, _, _, _, _, _]) (nx' := 5) rfl rfl rfl (by decide) ?_))
     refine step_appendC (m := 1) (new := [_, _, _, _, _, _]) (cs' := (stay0 ++ [x0]).flatMap encGActive) (n' := (stay0 ++ [x0]).length) (H' := [(4, .row _ _ _), (3, .box [_, _, _, _, _, _, _]), (0, .box [_, _, _, _, _, _, _, _, _, _]), (1, .row _ _ _), (2, .row _ _ _)]) rfl rfl rfl (rfl) rfl rfl rfl rfl rfl rfl (flat_len (s := 6) (enc := encGActive) (fun _ => rfl) stay0) (rfl) (by first | decide | (unfold maxGrow; omega) | (unfold maxGrow; simp; omega) | (unfold maxGrow; simp only [List.length_append, List.length_take, List.length_drop, List.length_cons, List.length_nil, IntKind.wrap_i64] at *; omega)) (len_snoc stay0 _) (((flat_snoc (enc := encGActive) (l := stay0) x0)).symm) (.inl rfl) rfl rfl (.keep rfl (.keep rfl (.keep rfl (.keep rfl (.keep rfl .nil))))) (.keep rfl (.keep rfl (.keep rfl (.keep rfl (.keep rfl (.lose (v' := .undef) rfl (.keep rfl (.keep rfl (.keep rfl (.keep rfl (.keep rfl (.keep rfl (.keep rfl (.keep rfl (.keep rfl (.keep rfl (.keep rfl (.keep rfl (.keep rfl (.keep rfl (.keep rfl (.keep rfl (.keep rfl (.keep rfl (.keep rfl (.keep rfl (.keep rfl (.keep rfl (.keep rfl (.keep rfl (.keep rfl (.keep rfl (.keep rfl (.keep rfl (.keep rfl (.keep rfl (.lose (v' := .undef) rfl (.keep rfl (.keep rfl .nil))))))))))))))))))))))))))))))))))))))) ?_
     refine step_r rfl rfl trivial (step_nil (blkK_n (seqK_n (sem_region rfl (step_r rfl rfl trivial (step_bin rfl rfl rfl rfl rfl trivial (step_r rfl rfl trivial (step_nil ?_))))))))
     have e16 : dispelR_L0 c n (l.drop k0) k0 stay0 gone0 = dispelR_L0 c n (l.drop (k0 + 1)) (k0 + 1) (stay0 ++ [x0]) gone0 := by
      rewrite [drop_cons hx0]
      rewrite [dispelR_L0]
      try dsimp only
      rewrite [if_pos g5, if_neg g7]
      all_goals rfl
     exact lup_againT (k0 + 1, (stay0 ++ [x0]), gone0) ⟨e16.symm.trans hI0, hk0, by first | omega | assumption | (simp only [List.length_append, List.length_cons, List.length_nil, List.length_set]; omega) | (simp; omega) | grind⟩ (by show l.length - (k0 + 1) < l.length - k0; omega) (Trans.ren [] (by decide +kernel) (by decide +kernel) rfl ⟨⟨rfl, rfl⟩, ⟨rfl, rfl⟩, ⟨rfl, rfl⟩, ⟨rfl, rfl⟩, ⟨rfl, rfl⟩, ⟨congrArg (fun n => some (I n)) (wrapI (k := k0) (by first | omega | (simp; omega))), rfl⟩, trivial⟩ ⟨⟨rfl, rfl, rfl⟩, ⟨rfl, rfl, rfl⟩, ⟨rfl, rfl, rfl⟩, trivial⟩ (by decide))
   ·have g5 : ¬ ((getUR c x0.Aura).2 = true) := boo_f h5
    refine step_g0 rfl h5 rfl (step_g0 rfl h5 rfl (step_pickF rfl h5 rfl rfl (step_r rfl rfl trivial (step_gf rfl rfl (step_gf rfl rfl (step_gf rfl rfl (step_gf rfl rfl (step_r rfl rfl trivial (step_nil (seqK_n (sem_condF rfl ?_)))))))))))
    refine sem_region rfl (step_r rfl rfl trivial (step_r rfl rfl trivial (step_r rfl rfl trivial (step_idxS (k := k0) rfl rfl rfl rfl hk0 (flat_ne (s := 6) (enc := encGActive) (fun _ => rfl) (by decide) hk0) rfl (step_load_row rfl rfl rfl (flat_lt (s := 6) (enc := encGActive) (fun _ => rfl) hk0) (flat_take (s := 6) (enc := encGActive) (fun _ => rfl) hx0) rfl (step_n (o := .row _ _ [_, _, _, _, _, _]) (nx' := 5) rfl rfl rfl (by decide) ?_))))))
    refine step_appendC (m := 1) (new := [_, _, _, _, _, _]) (cs' := (stay0 ++ [x0]).flatMap encGActive) (n' := (stay0 ++ [x0]).length) (H' := [(4, .row _ _ _), (3, .box [_, _, _, _, _, _, _]), (0, .box [_, _, _, _, _, _, _, _, _, _]), (1, .row _ _ _), (2, .row _ _ _)]) rfl rfl rfl (rfl) rfl rfl rfl rfl rfl rfl (flat_len (s := 6) (enc := encGActive) (fun _ => rfl) stay0) (rfl) (by first | decide | (unfold maxGrow; omega) | (unfold maxGrow; simp; omega) | (unfold maxGrow; simp only [List.length_append, List.length_take, List.length_drop, List.length_cons, List.length_nil, IntKind.wrap_i64] at *; omega)) (len_snoc stay0 _) (((flat_snoc (enc := encGActive) (l := stay0) x0)).symm) (.inl rfl) rfl rfl (.keep rfl (.keep rfl (.keep rfl (.keep rfl (.keep rfl .nil))))) (.keep rfl (.keep rfl (.keep rfl (.keep rfl (.keep rfl (.lose (v' := .undef) rfl (.keep rfl (.keep rfl (.keep rfl (.keep rfl (.keep rfl (.keep rfl (.keep rfl (.keep rfl (.keep rfl (.keep rfl (.keep rfl (.keep rfl (.keep rfl (.keep rfl (.keep rfl (.keep rfl (.keep rfl (.keep rfl (.keep rfl (.keep rfl (.keep rfl (.keep rfl (.keep rfl (.keep rfl (.keep rfl (.keep rfl (.keep rfl (.keep rfl (.keep rfl (.keep rfl (.lose (v' := .undef) rfl (.keep rfl (.keep rfl .nil))))))))))))))))))))))))))))))))))))))) ?_
    refine step_r rfl rfl trivial (step_nil (blkK_n (seqK_n (sem_region rfl (step_r rfl rfl trivial (step_bin rfl rfl rfl rfl rfl trivial (step_r rfl rfl trivial (step_nil ?_))))))))
    have e18 : dispelR_L0 c n (l.drop k0) k0 stay0 gone0 = dispelR_L0 c n (l.drop (k0 + 1)) (k0 + 1) (stay0 ++ [x0]) gone0 := by
     rewrite [drop_cons hx0]
     rewrite [dispelR_L0]
     try dsimp only
     rewrite [if_neg g5]
     all_goals rfl
    exact lup_againT (k0 + 1, (stay0 ++ [x0]), gone0) ⟨e18.symm.trans hI0, hk0, by first | omega | assumption | (simp only [List.length_append, List.length_cons, List.length_nil, List.length_set]; omega) | (simp; omega) | grind⟩ (by show l.length - (k0 + 1) < l.length - k0; omega) (Trans.ren [] (by decide +kernel) (by decide +kernel) rfl ⟨⟨rfl, rfl⟩, ⟨rfl, rfl⟩, ⟨rfl, rfl⟩, ⟨rfl, rfl⟩, ⟨rfl, rfl⟩, ⟨congrArg (fun n => some (I n)) (wrapI (k := k0) (by first | omega | (simp; omega))), rfl⟩, trivial⟩ ⟨⟨rfl, rfl, rfl⟩, ⟨rfl, rfl, rfl⟩, ⟨rfl, rfl, rfl⟩, trivial⟩ (by decide))
  ·have g3 : ¬ ((k0 : Int) < l.length) := of_decide_eq_false h3
   have hk0 : k0 = l.length := by omega
   refine sem_exit (seqK_e (lupK_e (blkK_t rfl ?_)))
   have e19 : dispelR_L0 c n l 0 ([]) ([]) = (stay0, gone0) := by
    rewrite [← hI0, hk0, List.drop_length]
    rewrite [dispelR_L0]
    try dsimp only
    all_goals rfl
   exact cutW_n (stay0, gone0) e19 (Trans.ren [(0, 1), (1, 2), (2, 0)] (by decide +kernel) (by decide +kernel) rfl ⟨⟨rfl, rfl⟩, ⟨rfl, rfl⟩, trivial⟩ ⟨⟨rfl, rfl, rfl⟩, ⟨rfl, rfl, rfl⟩, trivial⟩ (by decide))
 ·rintro ⟨stay_0, gone_0⟩ (hJ1 : dispelR_L0 c n l 0 ([]) ([]) = (stay_0, gone_0))
  show seqK _ _ _ .normal (⟨[(8, .ref 0 6 0 stay_0.length), (9, .ref 1 6 0 gone_0.length)], [(0, .row 42 6 (stay_0.flatMap encGActive)), (1, .row 42 6 (gone_0.flatMap encGActive))], 2, [], 56, 0⟩ : St)
  refine seqK_n (sem_seq (sem_region rfl (step_r rfl rfl trivial (step_r rfl rfl trivial (step_r rfl rfl trivial (step_r rfl rfl trivial (step_nil (seqK_n (sem_ret ?_)))))))))
  have e20 : dispelR c l n = (stay_0, gone_0) := by
   unfold dispelR
   try dsimp only
   rewrite [hJ1]
   try dsimp only
   all_goals rfl
  rw [e20]
  exact answersGR [] [0, 1] rfl ⟨trivial, trivial, trivial⟩ rfl (by (repeat' apply And.intro) <;> first | trivial | rfl | exact flat_len (fun _ => rfl) _ | exact encI_len _ | assumption) (rfl) rfl rfl rfl (by decide) rfl rfl ⟨⟨rfl, rfl⟩, ⟨rfl, rfl⟩, trivial⟩

def rightR15_L1 (l : List GActive) (x0 : GActive) : Nat → Nat → Sum Bool Unit
  | 0, k1 => .inr ()
  | n_ + 1, k1 => if ((l.getD k1 default).Aura : Int) = x0.Aura then (if ((l.getD k1 default).Source : Int) = x0.Source then .inl false else rightR15_L1 l x0 n_ (k1 + 1)) else rightR15_L1 l x0 n_ (k1 + 1)
def rightR15_L0 (c : GContent) (l : List GActive) : List GActive → Nat → Sum Bool Unit
  | [], k0 => .inr ()
  | x0 :: l_, k0 => if (getUR c x0.Aura).2 = true then (if (x0.Stacks : Int) < 1 then .inl false else if (x0.Stacks : Int) > (((getUR c x0.Aura).1).Stacks) then .inl false else if (x0.Left : Int) < 0 then .inl false else (match rightR15_L1 l x0 (k0 - 0) 0 with
    | .inl r_ => .inl r_
    | .inr () => rightR15_L0 c l l_ (k0 + 1))) else .inl false
def rightR15 (c : GContent) (l : List GActive) : Bool :=
  if rightR9 c = true then (if (l.length : Int) > 16 then false else (match rightR15_L0 c l l 0 with
    | .inl r_ => r_
    | .inr () => true)) else false
theorem rightR15_ok (c : GContent) (l : List GActive) (l_f : Bool) (hF : Few9 c) : Ok Try.prog 19 [aGContent c, .pv (.slc l.length l_f (l.flatMap encGActive))] [] (B (rightR15 c l)) [] [] := by
 refine Ok.len fun hlen => ?_
 have hl_c_Abilities : c.Abilities.length ≤ maxLen := hlen _ (by simp [lensL, lens, lensP])
 have hl_c_Auras : c.Auras.length ≤ maxLen := hlen _ (by simp [lensL, lens, lensP])
 have hl_c_Foes : c.Foes.length ≤ maxLen := hlen _ (by simp [lensL, lens, lensP])
 have hl_c_Map_Wall : c.Map.Wall.length ≤ maxLen := hlen _ (by simp [lensL, lens, lensP])
 have hl_l : l.length ≤ maxLen := hlen _ (by simp [lensL, lens, lensP])
 unfold maxLen at hl_c_Abilities hl_c_Auras hl_c_Foes hl_c_Map_Wall hl_l
 refine ok_of_sem Try.func19 rfl ?_
 show Walks Try.prog _ _ ⟨[(0, aGContent c), (1, .pv (.slc l.length l_f (l.flatMap encGActive)))], [], 0, [], 92, 0⟩
 refine sem_seq (sem_region rfl (step_n (o := .box [_, _, _, _, _, _, _, _, _, _]) (nx' := 1) rfl rfl rfl trivial (step_r rfl rfl trivial (step_nil (seqK_n (sem_seq (sem_region rfl (step_r (v := (.agg [_, _, _, _, _, _, _, _, _, _])) rfl rfl (Nat.le_of_ble_eq_true rfl) (step_call rfl rfl rfl rfl (rightR9_ok c (by first | assumption | exact few_small (by decide +kernel) | grind)) rfl rfl rfl (step_r rfl rfl trivial (step_nil ?_)))))))))))
 refine seqK_n (sem_seq (sem_seq (sem_region rfl (step_r rfl rfl trivial (step_r rfl rfl trivial (step_r rfl rfl trivial ?_))))))
 refine step_gs rfl (fun h3 => ?_) (fun h3 => ?_)
 ·have g3 : ¬ (rightR9 c = true) := boo_f (not_t h3)
  refine step_g0 rfl h3 rfl (step_g0 rfl h3 rfl (step_g0 rfl h3 rfl (step_pickT rfl h3 rfl rfl (step_nil (seqK_n (sem_condT rfl (sem_seq (sem_region rfl (step_r rfl rfl trivial (step_nil (seqK_n ?_)))))))))))
  refine sem_ret (seqK_r ?_)
  have e4 : rightR15 c l = false := by
   unfold rightR15
   try dsimp only
   rewrite [if_neg g3]
   all_goals rfl
  rw [e4]
  exact answersR rfl ⟨trivial, trivial⟩ (rfl) rfl
 ·have g3 : rightR9 c = true := (not_f h3)
  refine step_g1 rfl h3 (step_r rfl rfl trivial (step_g1 rfl h3 (step_r rfl rfl trivial (step_g1 rfl h3 (step_bin rfl rfl rfl rfl rfl trivial (step_pickF rfl h3 rfl rfl (step_nil (seqK_n ?_))))))))
  refine sem_cond rfl (fun h6 => ?_) (fun h6 => ?_)
  ·have g6 : (l.length : Int) > 16 := of_decide_eq_true h6
   refine sem_seq (sem_region rfl (step_r rfl rfl trivial (step_nil (seqK_n (sem_ret (seqK_r ?_))))))
   have e7 : rightR15 c l = false := by
    unfold rightR15
    try dsimp only
    rewrite [if_pos g3, if_pos g6]
    all_goals rfl
   rw [e7]
   exact answersR rfl ⟨trivial, trivial⟩ (rfl) rfl
  ·have g6 : ¬ ((l.length : Int) > 16) := of_decide_eq_false h6
   refine sem_skip (seqK_n (sem_seq (sem_seq (sem_region rfl (step_r rfl rfl trivial (step_nil (seqK_n ?_)))))))
   refine sem_cutW (fun w_ : Unit => match w_ with | () => (⟨[], [], 0, [], 92, 0⟩ : St)) (fun w_ => rightR15_L0 c l l 0 = .inr w_) ?_ ?_
   ·refine sem_block ?_
    refine sem_loopT (fun k0 : Nat => (⟨[(1, .pv (.slc l.length l_f (l.flatMap encGActive))), (2, .ptr 0 0), (6, I k0)], [(0, .box [.pv (.slc c.Abilities.length false (c.Abilities.flatMap encGAbility)), .pv (.slc c.Auras.length false (c.Auras.flatMap encGAura)), .pv (.slc c.Foes.length false (c.Foes.flatMap encGFoe)), I c.Map.W, I c.Map.H, .pv (.slc c.Map.Wall.length false (encB c.Map.Wall)), I c.Door.X, I c.Door.Y, I c.Lair.X, I c.Lair.Y])], 1, [], 92, 0⟩ : St)) (fun k0 : Nat => rightR15_L0 c l (l.drop k0) k0 = rightR15_L0 c l l 0 ∧ k0 ≤ l.length) (fun k0 : Nat => l.length - k0) 0 (⟨rfl, Nat.zero_le _⟩) ?_ (fun k0 hh_ => ?_)
    ·exact (Trans.ren [] (by decide +kernel) (by decide +kernel) rfl ⟨⟨rfl, rfl⟩, ⟨rfl, rfl⟩, ⟨rfl, rfl⟩, trivial⟩ ⟨⟨rfl, rfl, rfl⟩, trivial⟩ (by decide))
    obtain ⟨hI0, hb0⟩ := hh_
    show Walks Try.prog _ _ (⟨[(1, .pv (.slc l.length l_f (l.flatMap encGActive))), (2, .ptr 0 0), (6, I k0)], [(0, .box [.pv (.slc c.Abilities.length false (c.Abilities.flatMap encGAbility)), .pv (.slc c.Auras.length false (c.Auras.flatMap encGAura)), .pv (.slc c.Foes.length false (c.Foes.flatMap encGFoe)), I c.Map.W, I c.Map.H, .pv (.slc c.Map.Wall.length false (encB c.Map.Wall)), I c.Door.X, I c.Door.Y, I c.Lair.X, I c.Lair.Y])], 1, [], 92, 0⟩ : St)
    refine sem_seq (sem_seq (sem_region rfl (step_r rfl rfl trivial (step_r rfl rfl trivial (step_r rfl rfl trivial (step_bin rfl rfl rfl rfl rfl trivial (step_nil (seqK_n ?_))))))))
    refine sem_cond rfl (fun h10 => ?_) (fun h10 => ?_)
    ·have g10 : (k0 : Int) < l.length := of_decide_eq_true h10
     have hk0 : k0 < l.length := by omega
     obtain ⟨x0, hx0⟩ : ∃ z_, l[k0]? = some z_ := ⟨_, List.getElem?_eq_getElem hk0⟩
     refine sem_skip (seqK_n (sem_seq (sem_block (sem_seq ?_))))
     refine sem_drawnE [(11, 9)] rfl (by decide +kernel) (by decide +kernel) rfl ?_
     refine step_r (v := (.agg [_, _, _, _, _, _, _, _, _, _])) rfl rfl (Nat.le_of_ble_eq_true rfl) (step_r rfl rfl trivial (step_r rfl rfl trivial (step_idxS (k := k0) rfl rfl rfl rfl hk0 (flat_ne (s := 6) (enc := encGActive) (fun _ => rfl) (by decide) hk0) rfl (step_r rfl rfl (by decide) (step_load_one rfl rfl rfl (flat_get (s := 6) (enc := encGActive) (fun _ => rfl) hx0 (o := 0) rfl (by decide)) rfl (step_call rfl rfl rfl rfl (getUR_ok c x0.Aura) rfl rfl rfl (step_r rfl rfl trivial (step_r rfl rfl trivial (step_r rfl rfl trivial (step_n (o := .box [_, _, _, _, _, _, _]) (nx' := 2) rfl rfl rfl trivial (step_store (H' := [(1, .box [_, _, _, _, _, _, _]), (0, .box [_, _, _, _, _, _, _, _, _, _])]) rfl rfl rfl rfl rfl rfl (Nat.le_of_ble_eq_true rfl) (.inr (by decide +kernel)) rfl ?_)))))))))))
     refine step_r rfl rfl trivial (step_nil (seqK_n (sem_seq (sem_seq ?_))))
     refine sem_drawn rfl (by decide +kernel) rfl ?_
     refine step_r rfl rfl trivial (step_r rfl rfl trivial (step_r rfl rfl trivial ?_))
     refine step_gs rfl (fun h13 => ?_) (fun h13 => ?_)
     ·have g13 : ¬ ((getUR c x0.Aura).2 = true) := boo_f (not_t h13)
      refine step_g0 rfl h13 rfl (step_g0 rfl h13 rfl (step_g0 rfl h13 rfl (step_g0 rfl h13 rfl (step_g0 rfl h13 rfl (step_g0 rfl h13 rfl (step_pickT rfl h13 rfl rfl (step_r rfl rfl trivial (step_gf rfl rfl (step_gf rfl rfl (step_gf rfl rfl (step_gf rfl rfl ?_)))))))))))
      refine step_gf rfl rfl (step_gf rfl rfl (step_gf rfl rfl (step_gf rfl rfl (step_r rfl rfl trivial (step_r rfl rfl trivial (step_gf rfl rfl (step_gf rfl rfl (step_gf rfl rfl (step_gf rfl rfl (step_gf rfl rfl (step_gf rfl rfl ?_)))))))))))
      refine step_r rfl rfl trivial (step_nil (seqK_n (sem_condT rfl (sem_seq (sem_region rfl (step_r rfl rfl trivial (step_nil (seqK_n (sem_ret (seqK_r (blkK_r ?_)))))))))))
      refine seqK_r (lupK_r (blkK_r (cutW_r (seqK_r ?_))))
      have e14 : rightR15_L0 c l l 0 = .inl false := by
       rewrite [← hI0, drop_cons hx0]
       rewrite [rightR15_L0]
       try dsimp only
       rewrite [if_neg g13]
       all_goals rfl
      have e15 : rightR15 c l = false := by
       unfold rightR15
       try dsimp only
       rewrite [if_pos g3, if_neg g6, e14]
       try dsimp only
       all_goals rfl
      rw [e15]
      exact answersR rfl ⟨trivial, trivial⟩ (rfl) rfl
     ·have g13 : (getUR c x0.Aura).2 = true := (not_f h13)
      refine step_g1 rfl h13 (step_r rfl rfl trivial (step_g1 rfl h13 (step_r rfl rfl trivial (step_g1 rfl h13 (step_idxS (k := k0) rfl rfl rfl rfl hk0 (flat_ne (s := 6) (enc := encGActive) (fun _ => rfl) (by decide) hk0) rfl (step_g1 rfl h13 (step_r rfl rfl (by decide) (step_g1 rfl h13 (step_load_one rfl rfl rfl (flat_get (s := 6) (enc := encGActive) (fun _ => rfl) hx0 (o := 2) rfl (by decide)) rfl (step_g1 rfl h13 (step_bin rfl rfl rfl rfl rfl trivial ?_)))))))))))
      refine step_pickF rfl h13 rfl rfl (step_r rfl rfl trivial ?_)
      refine step_gs rfl (fun h17 => ?_) (fun h17 => ?_)
      ·have g17 : (x0.Stacks : Int) < 1 := of_decide_eq_true h17
       refine step_g0 rfl h17 rfl (step_g0 rfl h17 rfl (step_g0 rfl h17 rfl (step_g0 rfl h17 rfl (step_g0 rfl h17 rfl (step_g0 rfl h17 rfl (step_g0 rfl h17 rfl (step_g0 rfl h17 rfl (step_pickT rfl h17 rfl rfl (step_r rfl rfl trivial (step_gf rfl rfl (step_gf rfl rfl ?_)))))))))))
       refine step_gf rfl rfl (step_gf rfl rfl (step_gf rfl rfl (step_gf rfl rfl (step_r rfl rfl trivial (step_nil (seqK_n (sem_condT rfl (sem_seq (sem_region rfl (step_r rfl rfl trivial (step_nil ?_)))))))))))
       refine seqK_n (sem_ret (seqK_r (blkK_r (seqK_r (lupK_r (blkK_r (cutW_r (seqK_r ?_))))))))
       have e18 : rightR15_L0 c l l 0 = .inl false := by
        rewrite [← hI0, drop_cons hx0]
        rewrite [rightR15_L0]
        try dsimp only
        rewrite [if_pos g13, if_pos g17]
        all_goals rfl
       have e19 : rightR15 c l = false := by
        unfold rightR15
        try dsimp only
        rewrite [if_pos g3, if_neg g6, e18]
        try dsimp only
        all_goals rfl
       rw [e19]
       exact answersR rfl ⟨trivial, trivial⟩ (rfl) rfl
      ·have g17 : ¬ ((x0.Stacks : Int) < 1) := of_decide_eq_false h17
       refine step_g1 rfl h17 (step_r rfl rfl trivial (step_g1 rfl h17 (step_r rfl rfl trivial (step_g1 rfl h17 (step_idxS (k := k0) rfl rfl rfl rfl hk0 (flat_ne (s := 6) (enc := encGActive) (fun _ => rfl) (by decide) hk0) rfl (step_g1 rfl h17 (step_r rfl rfl (by decide) (step_g1 rfl h17 (step_load_one rfl rfl rfl (flat_get (s := 6) (enc := encGActive) (fun _ => rfl) hx0 (o := 2) rfl (by decide)) rfl (step_g1 rfl h17 (step_r rfl rfl (by decide) ?_)))))))))))
       refine step_g1 rfl h17 (step_r rfl rfl trivial (step_g1 rfl h17 (step_bin rfl rfl rfl rfl rfl trivial (step_pickF rfl h17 rfl rfl (step_r rfl rfl trivial ?_)))))
       refine step_gs rfl (fun h21 => ?_) (fun h21 => ?_)
       ·have g21 : (x0.Stacks : Int) > (((getUR c x0.Aura).1).Stacks) := of_decide_eq_true h21
        refine step_g0 rfl h21 rfl (step_g0 rfl h21 rfl (step_g0 rfl h21 rfl (step_g0 rfl h21 rfl (step_g0 rfl h21 rfl (step_g0 rfl h21 rfl (step_pickT rfl h21 rfl rfl (step_nil (seqK_n (sem_condT rfl (sem_seq (sem_region rfl ?_)))))))))))
        refine step_r rfl rfl trivial (step_nil (seqK_n (sem_ret (seqK_r (blkK_r (seqK_r (lupK_r (blkK_r (cutW_r (seqK_r ?_))))))))))
        have e22 : rightR15_L0 c l l 0 = .inl false := by
         rewrite [← hI0, drop_cons hx0]
         rewrite [rightR15_L0]
         try dsimp only
         rewrite [if_pos g13, if_neg g17, if_pos g21]
         all_goals rfl
        have e23 : rightR15 c l = false := by
         unfold rightR15
         try dsimp only
         rewrite [if_pos g3, if_neg g6, e22]
         try dsimp only
         all_goals rfl
        rw [e23]
        exact answersR rfl ⟨trivial, trivial⟩ (rfl) rfl
       ·have g21 : ¬ ((x0.Stacks : Int) > (((getUR c x0.Aura).1).Stacks)) := of_decide_eq_false h21
        refine step_g1 rfl h21 (step_r rfl rfl trivial (step_g1 rfl h21 (step_r rfl rfl trivial (step_g1 rfl h21 (step_idxS (k := k0) rfl rfl rfl rfl hk0 (flat_ne (s := 6) (enc := encGActive) (fun _ => rfl) (by decide) hk0) rfl (step_g1 rfl h21 (step_r rfl rfl (by decide) (step_g1 rfl h21 (step_load_one rfl rfl rfl (flat_get (s := 6) (enc := encGActive) (fun _ => rfl) hx0 (o := 5) rfl (by decide)) rfl (step_g1 rfl h21 (step_bin rfl rfl rfl rfl rfl trivial ?_)))))))))))
        refine step_pickF rfl h21 rfl rfl (step_nil (seqK_n ?_))
        refine sem_cond rfl (fun h25 => ?_) (fun h25 => ?_)
        ·have g25 : (x0.Left : Int) < 0 := of_decide_eq_true h25
         refine sem_seq (sem_region rfl (step_r rfl rfl trivial (step_nil (seqK_n (sem_ret (seqK_r (blkK_r (seqK_r (lupK_r (blkK_r (cutW_r ?_)))))))))))
         refine seqK_r ?_
         have e26 : rightR15_L0 c l l 0 = .inl false := by
          rewrite [← hI0, drop_cons hx0]
          rewrite [rightR15_L0]
          try dsimp only
          rewrite [if_pos g13, if_neg g17, if_neg g21, if_pos g25]
          all_goals rfl
         have e27 : rightR15 c l = false := by
          unfold rightR15
          try dsimp only
          rewrite [if_pos g3, if_neg g6, e26]
          try dsimp only
          all_goals rfl
         rw [e27]
         exact answersR rfl ⟨trivial, trivial⟩ (rfl) rfl
        ·have g25 : ¬ ((x0.Left : Int) < 0) := of_decide_eq_false h25
         refine sem_skip (seqK_n (sem_seq (sem_region rfl (step_r rfl rfl trivial (step_nil (seqK_n ?_))))))
         refine sem_cutW (fun w_ : Unit => match w_ with | () => (⟨[(1, .pv (.slc l.length l_f (l.flatMap encGActive))), (2, .ptr 0 0), (6, I k0)], [(0, .box [.pv (.slc c.Abilities.length false (c.Abilities.flatMap encGAbility)), .pv (.slc c.Auras.length false (c.Auras.flatMap encGAura)), .pv (.slc c.Foes.length false (c.Foes.flatMap encGFoe)), I c.Map.W, I c.Map.H, .pv (.slc c.Map.Wall.length false (encB c.Map.Wall)), I c.Door.X, I c.Door.Y, I c.Lair.X, I c.Lair.Y])], 1, [], 92, 0⟩ : St)) (fun w_ => rightR15_L1 l x0 (k0 - 0) 0 = .inr w_) ?_ ?_
         ·refine sem_block ?_
          refine sem_loopT (fun k1 : Nat => (⟨[(1, .pv (.slc l.length l_f (l.flatMap encGActive))), (2, .ptr 0 0), (6, I k0), (9, I k1)], [(0, .box [.pv (.slc c.Abilities.length false (c.Abilities.flatMap encGAbility)), .pv (.slc c.Auras.length false (c.Auras.flatMap encGAura)), .pv (.slc c.Foes.length false (c.Foes.flatMap encGFoe)), I c.Map.W, I c.Map.H, .pv (.slc c.Map.Wall.length false (encB c.Map.Wall)), I c.Door.X, I c.Door.Y, I c.Lair.X, I c.Lair.Y])], 1, [], 92, 0⟩ : St)) (fun k1 : Nat => rightR15_L1 l x0 (k0 - k1) k1 = rightR15_L1 l x0 (k0 - 0) 0 ∧ k1 ≤ k0) (fun k1 : Nat => k0 - k1) 0 (⟨rfl, (by first | omega | (simp; omega))⟩) ?_ (fun k1 hh_ => ?_)
          ·exact (Trans.ren [] (by decide +kernel) (by decide +kernel) rfl ⟨⟨rfl, rfl⟩, ⟨rfl, rfl⟩, ⟨rfl, rfl⟩, ⟨rfl, rfl⟩, trivial⟩ ⟨⟨rfl, rfl, rfl⟩, trivial⟩ (by decide))
          obtain ⟨hI1, hb1⟩ := hh_
          show Walks Try.prog _ _ (⟨[(1, .pv (.slc l.length l_f (l.flatMap encGActive))), (2, .ptr 0 0), (6, I k0), (9, I k1)], [(0, .box [.pv (.slc c.Abilities.length false (c.Abilities.flatMap encGAbility)), .pv (.slc c.Auras.length false (c.Auras.flatMap encGAura)), .pv (.slc c.Foes.length false (c.Foes.flatMap encGFoe)), I c.Map.W, I c.Map.H, .pv (.slc c.Map.Wall.length false (encB c.Map.Wall)), I c.Door.X, I c.Door.Y, I c.Lair.X, I c.Lair.Y])], 1, [], 92, 0⟩ : St)
          refine sem_seq (sem_seq (sem_region rfl (step_r rfl rfl trivial (step_r rfl rfl trivial (step_bin rfl rfl rfl rfl rfl trivial (step_nil (seqK_n ?_)))))))
          refine sem_cond rfl (fun h31 => ?_) (fun h31 => ?_)
          ·have g31 : (k1 : Int) < k0 := of_decide_eq_true h31
           have hm1 : k0 - k1 = (k0 - (k1 + 1)) + 1 := by omega
           refine sem_skip (seqK_n (sem_seq (sem_block (sem_seq ?_))))
           refine sem_drawn rfl (by decide +kernel) rfl ?_
           refine step_r rfl rfl trivial (step_r rfl rfl trivial ?_)
           have jk32 : k1 < l.length := by first | assumption | omega | (simp only [List.length_set, List.length_append]; omega) | (simp only [IntKind.wrap_i64] at *; omega) | (simp; omega) | simp_all
           refine step_idxS (k := k1) rfl rfl rfl rfl jk32 (flat_ne (s := 6) (enc := encGActive) (fun _ => rfl) (by decide) jk32) rfl (step_r rfl rfl (by decide) (step_load_one rfl rfl rfl (flat_get (s := 6) (enc := encGActive) (fun _ => rfl) (get_getD jk32) (o := 0) rfl (by decide)) rfl (step_r rfl rfl trivial (step_r rfl rfl trivial (step_idxS (k := k0) rfl rfl rfl rfl hk0 (flat_ne (s := 6) (enc := encGActive) (fun _ => rfl) (by decide) hk0) rfl (step_r rfl rfl (by decide) (step_load_one rfl rfl rfl (flat_get (s := 6) (enc := encGActive) (fun _ => rfl) hx0 (o := 0) rfl (by decide)) rfl (step_bin rfl rfl rfl rfl rfl trivial (step_r rfl rfl trivial ?_)))))))))
           refine step_gs rfl (fun h34 => ?_) (fun h34 => ?_)
           ·have g34 : ((l.getD k1 default).Aura : Int) = x0.Aura := beq_t h34
            refine step_g1 rfl h34 (step_r rfl rfl trivial (step_g1 rfl h34 (step_r rfl rfl trivial (step_g1 rfl h34 (step_idxS (k := k1) rfl rfl rfl rfl jk32 (flat_ne (s := 6) (enc := encGActive) (fun _ => rfl) (by decide) jk32) rfl (step_g1 rfl h34 (step_r rfl rfl (by decide) (step_g1 rfl h34 (step_load_one rfl rfl rfl (flat_get (s := 6) (enc := encGActive) (fun _ => rfl) (get_getD jk32) (o := 1) rfl (by decide)) rfl (step_g1 rfl h34 (step_r rfl rfl trivial ?_)))))))))))
            refine step_g1 rfl h34 (step_r rfl rfl trivial (step_g1 rfl h34 (step_idxS (k := k0) rfl rfl rfl rfl hk0 (flat_ne (s := 6) (enc := encGActive) (fun _ => rfl) (by decide) hk0) rfl (step_g1 rfl h34 (step_r rfl rfl (by decide) (step_g1 rfl h34 (step_load_one rfl rfl rfl (flat_get (s := 6) (enc := encGActive) (fun _ => rfl) hx0 (o := 1) rfl (by decide)) rfl (step_g1 rfl h34 (step_bin rfl rfl rfl rfl rfl trivial (step_pickT rfl h34 rfl rfl (step_nil ?_)))))))))))
            refine seqK_n ?_
            refine sem_cond rfl (fun h36 => ?_) (fun h36 => ?_)
            ·have g36 : ((l.getD k1 default).Source : Int) = x0.Source := beq_t h36
             refine sem_seq (sem_region rfl (step_r rfl rfl trivial (step_nil (seqK_n (sem_ret (blkK_r (seqK_r (lupK_r (blkK_r (cutW_r (blkK_r ?_)))))))))))
             refine seqK_r (lupK_r (blkK_r (cutW_r (seqK_r ?_))))
             have e37 : rightR15_L1 l x0 (k0 - 0) 0 = .inl false := by
              rewrite [← hI1, hm1]
              rewrite [rightR15_L1]
              try dsimp only
              rewrite [if_pos g34, if_pos g36]
              all_goals rfl
             have e38 : rightR15_L0 c l l 0 = .inl false := by
              rewrite [← hI0, drop_cons hx0]
              rewrite [rightR15_L0]
              try dsimp only
              rewrite [if_pos g13, if_neg g17, if_neg g21, if_neg g25, e37]
              try dsimp only
              all_goals rfl
             have e39 : rightR15 c l = false := by
              unfold rightR15
              try dsimp only
              rewrite [if_pos g3, if_neg g6, e38]
              try dsimp only
              all_goals rfl
             rw [e39]
             exact answersR rfl ⟨trivial, trivial⟩ (rfl) rfl
            ·have g36 : ¬ (((l.getD k1 default).Source : Int) = x0.Source) := beq_f h36
             refine sem_skip (blkK_n (seqK_n (sem_region rfl (step_r rfl rfl trivial (step_bin rfl rfl rfl rfl rfl trivial (step_r rfl rfl trivial (step_nil ?_)))))))
             have e41 : rightR15_L1 l x0 (k0 - k1) k1 = rightR15_L1 l x0 (k0 - (k1 + 1)) (k1 + 1) := by
              rewrite [hm1]
              rewrite [rightR15_L1]
              try dsimp only
              rewrite [if_pos g34, if_neg g36]
              all_goals rfl
             exact lup_againT (k1 + 1) ⟨e41.symm.trans hI1, (by omega)⟩ (by show k0 - (k1 + 1) < k0 - k1; omega) (Trans.ren [] (by decide +kernel) (by decide +kernel) rfl ⟨⟨rfl, rfl⟩, ⟨rfl, rfl⟩, ⟨rfl, rfl⟩, ⟨congrArg (fun n => some (I n)) (wrapI (k := k1) (by first | omega | (simp; omega))), rfl⟩, trivial⟩ ⟨⟨rfl, rfl, rfl⟩, trivial⟩ (by decide))
           ·have g34 : ¬ (((l.getD k1 default).Aura : Int) = x0.Aura) := beq_f h34
            refine step_g0 rfl h34 rfl (step_g0 rfl h34 rfl (step_g0 rfl h34 rfl (step_g0 rfl h34 rfl (step_g0 rfl h34 rfl (step_g0 rfl h34 rfl (step_g0 rfl h34 rfl (step_g0 rfl h34 rfl (step_g0 rfl h34 rfl (step_g0 rfl h34 rfl (step_g0 rfl h34 rfl (step_pickF rfl h34 rfl rfl ?_)))))))))))
            refine step_nil (seqK_n (sem_condF rfl (sem_skip (blkK_n (seqK_n (sem_region rfl (step_r rfl rfl trivial (step_bin rfl rfl rfl rfl rfl trivial (step_r rfl rfl trivial (step_nil ?_))))))))))
            have e43 : rightR15_L1 l x0 (k0 - k1) k1 = rightR15_L1 l x0 (k0 - (k1 + 1)) (k1 + 1) := by
             rewrite [hm1]
             rewrite [rightR15_L1]
             try dsimp only
             rewrite [if_neg g34]
             all_goals rfl
            exact lup_againT (k1 + 1) ⟨e43.symm.trans hI1, (by omega)⟩ (by show k0 - (k1 + 1) < k0 - k1; omega) (Trans.ren [] (by decide +kernel) (by decide +kernel) rfl ⟨⟨rfl, rfl⟩, ⟨rfl, rfl⟩, ⟨rfl, rfl⟩, ⟨congrArg (fun n => some (I n)) (wrapI (k := k1) (by first | omega | (simp; omega))), rfl⟩, trivial⟩ ⟨⟨rfl, rfl, rfl⟩, trivial⟩ (by decide))
          ·have g31 : ¬ ((k1 : Int) < k0) := of_decide_eq_false h31
           have hm1 : k0 - k1 = 0 := by omega
           refine sem_exit (seqK_e (lupK_e (blkK_t rfl ?_)))
           have e44 : rightR15_L1 l x0 (k0 - 0) 0 = .inr () := by
            rewrite [← hI1, hm1]
            rewrite [rightR15_L1]
            try dsimp only
            all_goals rfl
           exact cutW_n () e44 (Trans.ren [] (by decide +kernel) (by decide +kernel) rfl ⟨⟨rfl, rfl⟩, ⟨rfl, rfl⟩, ⟨rfl, rfl⟩, trivial⟩ ⟨⟨rfl, rfl, rfl⟩, trivial⟩ (by decide))
         ·rintro ⟨⟩ (hJ28 : rightR15_L1 l x0 (k0 - 0) 0 = .inr ())
          show blkK _ _ .normal (⟨[(1, .pv (.slc l.length l_f (l.flatMap encGActive))), (2, .ptr 0 0), (6, I k0)], [(0, .box [.pv (.slc c.Abilities.length false (c.Abilities.flatMap encGAbility)), .pv (.slc c.Auras.length false (c.Auras.flatMap encGAura)), .pv (.slc c.Foes.length false (c.Foes.flatMap encGFoe)), I c.Map.W, I c.Map.H, .pv (.slc c.Map.Wall.length false (encB c.Map.Wall)), I c.Door.X, I c.Door.Y, I c.Lair.X, I c.Lair.Y])], 1, [], 92, 0⟩ : St)
          refine blkK_n (seqK_n (sem_region rfl (step_r rfl rfl trivial (step_bin rfl rfl rfl rfl rfl trivial (step_r rfl rfl trivial (step_nil ?_))))))
          have e47 : rightR15_L0 c l (l.drop k0) k0 = rightR15_L0 c l (l.drop (k0 + 1)) (k0 + 1) := by
           rewrite [drop_cons hx0]
           rewrite [rightR15_L0]
           try dsimp only
           rewrite [if_pos g13, if_neg g17, if_neg g21, if_neg g25, hJ28]
           try dsimp only
           all_goals rfl
          exact lup_againT (k0 + 1) ⟨e47.symm.trans hI0, hk0⟩ (by show l.length - (k0 + 1) < l.length - k0; omega) (Trans.ren [] (by decide +kernel) (by decide +kernel) rfl ⟨⟨rfl, rfl⟩, ⟨rfl, rfl⟩, ⟨congrArg (fun n => some (I n)) (wrapI (k := k0) (by first | omega | (simp; omega))), rfl⟩, trivial⟩ ⟨⟨rfl, rfl, rfl⟩, trivial⟩ (by decide))
    ·have g10 : ¬ ((k0 : Int) < l.length) := of_decide_eq_false h10
     have hk0 : k0 = l.length := by omega
     refine sem_exit (seqK_e (lupK_e (blkK_t rfl ?_)))
     have e48 : rightR15_L0 c l l 0 = .inr () := by
      rewrite [← hI0, hk0, List.drop_length]
      rewrite [rightR15_L0]
      try dsimp only
      all_goals rfl
     exact cutW_n () e48 (Trans.ren [] (by decide +kernel) (by decide +kernel) rfl trivial trivial (by decide))
   ·rintro ⟨⟩ (hJ8 : rightR15_L0 c l l 0 = .inr ())
    show seqK _ _ _ .normal (⟨[], [], 0, [], 92, 0⟩ : St)
    refine seqK_n (sem_seq (sem_region rfl (step_r rfl rfl trivial (step_nil (seqK_n (sem_ret ?_))))))
    have e49 : rightR15 c l = true := by
     unfold rightR15
     try dsimp only
     rewrite [if_pos g3, if_neg g6, hJ8]
     try dsimp only
     all_goals rfl
    rw [e49]
    exact answersR rfl ⟨trivial, trivial⟩ (rfl) rfl
end Go.Proofs.Ytcbdecknbfabaaa

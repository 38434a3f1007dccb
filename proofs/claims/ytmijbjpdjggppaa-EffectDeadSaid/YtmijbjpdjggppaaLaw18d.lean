import Derived.Test.YtmijbjpdjggppaaLaw18
namespace Go.Proofs.Ytmijbjpdjggppaa
open Go Go.RowKit Go.Proofs.YtmijbjpdjggppaaVm
attribute [local irreducible] opsWp AnswersE OpsS
set_option maxHeartbeats 400000
set_option maxRecDepth 100000
set_option linter.all false
def dead18_J20 (c : GContent) (from_ : GActor) (to : GActor) : Bool :=
  if few9 c = true then (if few18 from_ = true then (few18 to) else false) else false
def dead18 (c : GContent) (from_ : GActor) (to : GActor) (e : GEffect) (now : Int) : Bool :=
  (let ok_20 := dead18_J20 c from_ to; if ok_20 = true then (if small18 = true then (if sameX ((doX c from_ (⟨(⟨to.Unit.Id, to.Unit.Kind, to.Unit.Group, 0, to.Unit.MaxHealth, to.Unit.Power, to.Unit.MaxPower, to.Unit.At, to.Unit.Casting⟩ : GUnit), to.Name, to.Auras, to.Cools, to.Casting⟩ : GActor) e now).1) (⟨(⟨to.Unit.Id, to.Unit.Kind, to.Unit.Group, 0, to.Unit.MaxHealth, to.Unit.Power, to.Unit.MaxPower, to.Unit.At, to.Unit.Casting⟩ : GUnit), to.Name, to.Auras, to.Cools, to.Casting⟩ : GActor) = true then (if (((((doX c from_ (⟨(⟨to.Unit.Id, to.Unit.Kind, to.Unit.Group, 0, to.Unit.MaxHealth, to.Unit.Power, to.Unit.MaxPower, to.Unit.At, to.Unit.Casting⟩ : GUnit), to.Name, to.Auras, to.Cools, to.Casting⟩ : GActor) e now).2).Kind) == e.Kind) && (((((doX c from_ (⟨(⟨to.Unit.Id, to.Unit.Kind, to.Unit.Group, 0, to.Unit.MaxHealth, to.Unit.Power, to.Unit.MaxPower, to.Unit.At, to.Unit.Casting⟩ : GUnit), to.Name, to.Auras, to.Cools, to.Casting⟩ : GActor) e now).2).Aura) == 0) && (((((doX c from_ (⟨(⟨to.Unit.Id, to.Unit.Kind, to.Unit.Group, 0, to.Unit.MaxHealth, to.Unit.Power, to.Unit.MaxPower, to.Unit.At, to.Unit.Casting⟩ : GUnit), to.Name, to.Auras, to.Cools, to.Casting⟩ : GActor) e now).2).Amount) == 0) && (((((doX c from_ (⟨(⟨to.Unit.Id, to.Unit.Kind, to.Unit.Group, 0, to.Unit.MaxHealth, to.Unit.Power, to.Unit.MaxPower, to.Unit.At, to.Unit.Casting⟩ : GUnit), to.Name, to.Auras, to.Cools, to.Casting⟩ : GActor) e now).2).Kept) == 0) && (((((doX c from_ (⟨(⟨to.Unit.Id, to.Unit.Kind, to.Unit.Group, 0, to.Unit.MaxHealth, to.Unit.Power, to.Unit.MaxPower, to.Unit.At, to.Unit.Casting⟩ : GUnit), to.Name, to.Auras, to.Cools, to.Casting⟩ : GActor) e now).2).Done) == 0) && true))))) = true then (if sameX ((tickE c (⟨(⟨to.Unit.Id, to.Unit.Kind, to.Unit.Group, 0, to.Unit.MaxHealth, to.Unit.Power, to.Unit.MaxPower, to.Unit.At, to.Unit.Casting⟩ : GUnit), to.Name, to.Auras, to.Cools, to.Casting⟩ : GActor) now).1) (⟨(⟨to.Unit.Id, to.Unit.Kind, to.Unit.Group, 0, to.Unit.MaxHealth, to.Unit.Power, to.Unit.MaxPower, to.Unit.At, to.Unit.Casting⟩ : GUnit), to.Name, to.Auras, to.Cools, to.Casting⟩ : GActor) = true then (if ((tickE c (⟨(⟨to.Unit.Id, to.Unit.Kind, to.Unit.Group, 0, to.Unit.MaxHealth, to.Unit.Power, to.Unit.MaxPower, to.Unit.At, to.Unit.Casting⟩ : GUnit), to.Name, to.Auras, to.Cools, to.Casting⟩ : GActor) now).2.length : Int) = 0 then (if sameX ((strikeX c from_ (⟨(⟨to.Unit.Id, to.Unit.Kind, to.Unit.Group, 0, to.Unit.MaxHealth, to.Unit.Power, to.Unit.MaxPower, to.Unit.At, to.Unit.Casting⟩ : GUnit), to.Name, to.Auras, to.Cools, to.Casting⟩ : GActor) e.Amount).1) (⟨(⟨to.Unit.Id, to.Unit.Kind, to.Unit.Group, 0, to.Unit.MaxHealth, to.Unit.Power, to.Unit.MaxPower, to.Unit.At, to.Unit.Casting⟩ : GUnit), to.Name, to.Auras, to.Cools, to.Casting⟩ : GActor) = true then (((((strikeX c from_ (⟨(⟨to.Unit.Id, to.Unit.Kind, to.Unit.Group, 0, to.Unit.MaxHealth, to.Unit.Power, to.Unit.MaxPower, to.Unit.At, to.Unit.Casting⟩ : GUnit), to.Name, to.Auras, to.Cools, to.Casting⟩ : GActor) e.Amount).2).Kind) == 1) && (((((strikeX c from_ (⟨(⟨to.Unit.Id, to.Unit.Kind, to.Unit.Group, 0, to.Unit.MaxHealth, to.Unit.Power, to.Unit.MaxPower, to.Unit.At, to.Unit.Casting⟩ : GUnit), to.Name, to.Auras, to.Cools, to.Casting⟩ : GActor) e.Amount).2).Aura) == 0) && (((((strikeX c from_ (⟨(⟨to.Unit.Id, to.Unit.Kind, to.Unit.Group, 0, to.Unit.MaxHealth, to.Unit.Power, to.Unit.MaxPower, to.Unit.At, to.Unit.Casting⟩ : GUnit), to.Name, to.Auras, to.Cools, to.Casting⟩ : GActor) e.Amount).2).Amount) == 0) && (((((strikeX c from_ (⟨(⟨to.Unit.Id, to.Unit.Kind, to.Unit.Group, 0, to.Unit.MaxHealth, to.Unit.Power, to.Unit.MaxPower, to.Unit.At, to.Unit.Casting⟩ : GUnit), to.Name, to.Auras, to.Cools, to.Casting⟩ : GActor) e.Amount).2).Kept) == 0) && (((((strikeX c from_ (⟨(⟨to.Unit.Id, to.Unit.Kind, to.Unit.Group, 0, to.Unit.MaxHealth, to.Unit.Power, to.Unit.MaxPower, to.Unit.At, to.Unit.Casting⟩ : GUnit), to.Name, to.Auras, to.Cools, to.Casting⟩ : GActor) e.Amount).2).Done) == 0) && true))))) else false) else false) else false) else false) else false) else false) else (small18))
theorem dead18_ok (c : GContent) (from_ : GActor) (to : GActor) (e : GEffect) (now : Int) : Ok Try.prog 3 [aGContent c, aGActor from_, aGActor to, aGEffect e, I now] [] (B (dead18 c from_ to e now)) [] [] := by
 refine Ok.len fun hlen => ?_
 have hl_c_Abilities : c.Abilities.length ≤ maxLen := hlen _ (by simp [lensL, lens, lensP])
 have hl_c_Auras : c.Auras.length ≤ maxLen := hlen _ (by simp [lensL, lens, lensP])
 have hl_c_Foes : c.Foes.length ≤ maxLen := hlen _ (by simp [lensL, lens, lensP])
 have hl_c_Map_Wall : c.Map.Wall.length ≤ maxLen := hlen _ (by simp [lensL, lens, lensP])
 have hl_from__Auras : from_.Auras.length ≤ maxLen := hlen _ (by simp [lensL, lens, lensP])
 have hl_from__Cools : from_.Cools.length ≤ maxLen := hlen _ (by simp [lensL, lens, lensP])
 have hl_to_Auras : to.Auras.length ≤ maxLen := hlen _ (by simp [lensL, lens, lensP])
 have hl_to_Cools : to.Cools.length ≤ maxLen := hlen _ (by simp [lensL, lens, lensP])
 unfold maxLen at hl_c_Abilities hl_c_Auras hl_c_Foes hl_c_Map_Wall hl_from__Auras hl_from__Cools hl_to_Auras hl_to_Cools
 refine ok_of_sem Try.func3 rfl ?_
 show Walks Try.prog _ _ ⟨[(0, aGContent c), (1, aGActor from_), (2, aGActor to), (3, aGEffect e), (4, I now)], [], 0, [], 93, 0⟩
 refine sem_seq (sem_region rfl (step_n (o := .box [_, _, _, _, _, _, _, _, _, _]) (nx' := 1) rfl rfl rfl trivial (step_n (o := .box [_, _, _, _, _, _, _, _, _, _, _, _, _, _, _, _, _, _, _, _, _, _]) (nx' := 2) rfl rfl rfl trivial (step_n (o := .box [_, _, _, _, _, _, _, _, _, _, _, _, _, _, _, _, _, _, _, _, _, _]) (nx' := 3) rfl rfl rfl trivial (step_n (o := .box [_, _, _]) (nx' := 4) rfl rfl rfl trivial (step_r rfl rfl trivial (step_nil (seqK_n (sem_seq (sem_region rfl (step_call rfl rfl rfl rfl (small18_ok ) rfl rfl rfl ?_)))))))))))
 refine step_r rfl rfl trivial (step_nil (seqK_n (sem_seq ?_)))
 refine sem_cutW (fun ok_20 : Bool => (⟨[(4, I now), (5, .ptr 0 0), (6, .ptr 1 0), (7, .ptr 2 0), (8, .ptr 3 0), (11, B (small18)), (12, B ok_20)], [(0, .box [.pv (.slc c.Abilities.length false (c.Abilities.flatMap encGAbility)), .pv (.slc c.Auras.length false (c.Auras.flatMap encGAura)), .pv (.slc c.Foes.length false (c.Foes.flatMap encGFoe)), I c.Map.W, I c.Map.H, .pv (.slc c.Map.Wall.length false (encB c.Map.Wall)), I c.Door.X, I c.Door.Y, I c.Lair.X, I c.Lair.Y]), (1, .box [I from_.Unit.Id, I from_.Unit.Kind, I from_.Unit.Group, I from_.Unit.Health, I from_.Unit.MaxHealth, I from_.Unit.Power, I from_.Unit.MaxPower, I from_.Unit.At.X, I from_.Unit.At.Y, I from_.Unit.Casting, .pv (.str from_.Name), .pv (.slc from_.Auras.length false (from_.Auras.flatMap encGActive)), .pv (.slc from_.Cools.length false (from_.Cools.flatMap encGCool)), I from_.Casting.Now.Ability, I from_.Casting.Now.Target, I from_.Casting.Now.Since, I from_.Casting.Now.Until, I from_.Casting.Next.Ability, I from_.Casting.Next.Target, I from_.Casting.Next.Since, I from_.Casting.Next.Until, I from_.Casting.Wait]), (2, .box [I to.Unit.Id, I to.Unit.Kind, I to.Unit.Group, I to.Unit.Health, I to.Unit.MaxHealth, I to.Unit.Power, I to.Unit.MaxPower, I to.Unit.At.X, I to.Unit.At.Y, I to.Unit.Casting, .pv (.str to.Name), .pv (.slc to.Auras.length false (to.Auras.flatMap encGActive)), .pv (.slc to.Cools.length false (to.Cools.flatMap encGCool)), I to.Casting.Now.Ability, I to.Casting.Now.Target, I to.Casting.Now.Since, I to.Casting.Now.Until, I to.Casting.Next.Ability, I to.Casting.Next.Target, I to.Casting.Next.Since, I to.Casting.Next.Until, I to.Casting.Wait]), (3, .box [I e.Kind, I e.Amount, I e.Aura])], 4, [], 93, 0⟩ : St)) (fun ok_20 : Bool => dead18_J20 c from_ to = ok_20 ∧ (ok_20 = true → (Few9 c ∧ FewX from_ ∧ FewX to))) ?_ ?_
 ·refine sem_region rfl (step_r (v := (.agg [_, _, _, _, _, _, _, _, _, _])) rfl rfl (Nat.le_of_ble_eq_true rfl) (step_call rfl rfl rfl rfl (few9_ok c) rfl rfl rfl (step_r rfl rfl trivial ?_)))
  refine step_gs rfl (fun h4 => ?_) (fun h4 => ?_)
  ·have g4 : few9 c = true := h4
   have qg4 := few_of g4
   refine step_g1 rfl h4 (step_r (v := (.agg [_, _, _, _, _, _, _, _, _, _, _, _, _, _, _, _, _, _, _, _, _, _])) rfl rfl (Nat.le_of_ble_eq_true rfl) (step_g1 rfl h4 (step_call rfl rfl rfl rfl (few18_ok from_) rfl rfl rfl (step_pickT rfl h4 rfl rfl (step_r rfl rfl trivial ?_)))))
   refine step_gs rfl (fun h6 => ?_) (fun h6 => ?_)
   ·have g6 : few18 from_ = true := h6
    have qg6 := few18_of g6
    refine step_g1 rfl h6 (step_r (v := (.agg [_, _, _, _, _, _, _, _, _, _, _, _, _, _, _, _, _, _, _, _, _, _])) rfl rfl (Nat.le_of_ble_eq_true rfl) (step_g1 rfl h6 (step_call rfl rfl rfl rfl (few18_ok to) rfl rfl rfl (step_pickT rfl h6 rfl rfl (step_r rfl rfl trivial (step_nil ?_))))))
    have e8 : dead18_J20 c from_ to = (few18 to) := by
     unfold dead18_J20
     try dsimp only
     rewrite [if_pos g4, if_pos g6]
     all_goals rfl
    exact cutW_n (few18 to) ⟨e8, by first | assumption | (intro hj; first | exact ⟨by assumption, by assumption, few18_of hj⟩ | simp at hj) | omega | (simp; omega) | simp_all | grind⟩ (Trans.ren [] (by decide +kernel) (by decide +kernel) rfl ⟨⟨rfl, rfl⟩, ⟨rfl, rfl⟩, ⟨rfl, rfl⟩, ⟨rfl, rfl⟩, ⟨rfl, rfl⟩, ⟨rfl, rfl⟩, ⟨rfl, rfl⟩, trivial⟩ ⟨⟨rfl, rfl, rfl⟩, ⟨rfl, rfl, rfl⟩, ⟨rfl, rfl, rfl⟩, ⟨rfl, rfl, rfl⟩, trivial⟩ (by decide))
   ·have g6 : ¬ (few18 from_ = true) := boo_f h6
    refine step_g0 rfl h6 rfl (step_g0 rfl h6 rfl (step_pickF rfl h6 rfl rfl (step_r rfl rfl trivial (step_nil ?_))))
    have e9 : dead18_J20 c from_ to = false := by
     unfold dead18_J20
     try dsimp only
     rewrite [if_pos g4, if_neg g6]
     all_goals rfl
    exact cutW_n false ⟨e9, by first | assumption | (intro hj; first | exact ⟨by assumption, by assumption, few18_of hj⟩ | simp at hj) | omega | (simp; omega) | simp_all | grind⟩ (Trans.ren [] (by decide +kernel) (by decide +kernel) rfl ⟨⟨rfl, rfl⟩, ⟨rfl, rfl⟩, ⟨rfl, rfl⟩, ⟨rfl, rfl⟩, ⟨rfl, rfl⟩, ⟨rfl, rfl⟩, ⟨rfl, rfl⟩, trivial⟩ ⟨⟨rfl, rfl, rfl⟩, ⟨rfl, rfl, rfl⟩, ⟨rfl, rfl, rfl⟩, ⟨rfl, rfl, rfl⟩, trivial⟩ (by decide))
  ·have g4 : ¬ (few9 c = true) := boo_f h4
   refine step_g0 rfl h4 rfl (step_g0 rfl h4 rfl (step_pickF rfl h4 rfl rfl (step_r rfl rfl trivial (step_gf rfl rfl (step_gf rfl rfl (step_r rfl rfl trivial (step_r rfl rfl trivial (step_nil ?_))))))))
   have e10 : dead18_J20 c from_ to = false := by
    unfold dead18_J20
    try dsimp only
    rewrite [if_neg g4]
    all_goals rfl
   exact cutW_n false ⟨e10, by first | assumption | (intro hj; first | exact ⟨by assumption, by assumption, few18_of hj⟩ | simp at hj) | omega | (simp; omega) | simp_all | grind⟩ (Trans.ren [] (by decide +kernel) (by decide +kernel) rfl ⟨⟨rfl, rfl⟩, ⟨rfl, rfl⟩, ⟨rfl, rfl⟩, ⟨rfl, rfl⟩, ⟨rfl, rfl⟩, ⟨rfl, rfl⟩, ⟨rfl, rfl⟩, trivial⟩ ⟨⟨rfl, rfl, rfl⟩, ⟨rfl, rfl, rfl⟩, ⟨rfl, rfl, rfl⟩, ⟨rfl, rfl, rfl⟩, trivial⟩ (by decide))
 ·rintro ok_20 ⟨(hJ2 : dead18_J20 c from_ to = ok_20), hK20⟩
  show seqK _ _ _ .normal (⟨[(4, I now), (5, .ptr 0 0), (6, .ptr 1 0), (7, .ptr 2 0), (8, .ptr 3 0), (11, B (small18)), (12, B ok_20)], [(0, .box [.pv (.slc c.Abilities.length false (c.Abilities.flatMap encGAbility)), .pv (.slc c.Auras.length false (c.Auras.flatMap encGAura)), .pv (.slc c.Foes.length false (c.Foes.flatMap encGFoe)), I c.Map.W, I c.Map.H, .pv (.slc c.Map.Wall.length false (encB c.Map.Wall)), I c.Door.X, I c.Door.Y, I c.Lair.X, I c.Lair.Y]), (1, .box [I from_.Unit.Id, I from_.Unit.Kind, I from_.Unit.Group, I from_.Unit.Health, I from_.Unit.MaxHealth, I from_.Unit.Power, I from_.Unit.MaxPower, I from_.Unit.At.X, I from_.Unit.At.Y, I from_.Unit.Casting, .pv (.str from_.Name), .pv (.slc from_.Auras.length false (from_.Auras.flatMap encGActive)), .pv (.slc from_.Cools.length false (from_.Cools.flatMap encGCool)), I from_.Casting.Now.Ability, I from_.Casting.Now.Target, I from_.Casting.Now.Since, I from_.Casting.Now.Until, I from_.Casting.Next.Ability, I from_.Casting.Next.Target, I from_.Casting.Next.Since, I from_.Casting.Next.Until, I from_.Casting.Wait]), (2, .box [I to.Unit.Id, I to.Unit.Kind, I to.Unit.Group, I to.Unit.Health, I to.Unit.MaxHealth, I to.Unit.Power, I to.Unit.MaxPower, I to.Unit.At.X, I to.Unit.At.Y, I to.Unit.Casting, .pv (.str to.Name), .pv (.slc to.Auras.length false (to.Auras.flatMap encGActive)), .pv (.slc to.Cools.length false (to.Cools.flatMap encGCool)), I to.Casting.Now.Ability, I to.Casting.Now.Target, I to.Casting.Now.Since, I to.Casting.Now.Until, I to.Casting.Next.Ability, I to.Casting.Next.Target, I to.Casting.Next.Since, I to.Casting.Next.Until, I to.Casting.Wait]), (3, .box [I e.Kind, I e.Amount, I e.Aura])], 4, [], 93, 0⟩ : St)
  refine seqK_n (sem_seq (sem_seq (sem_region rfl (step_r rfl rfl trivial (step_r rfl rfl trivial (step_nil (seqK_n ?_)))))))
  refine sem_cond rfl (fun h12 => ?_) (fun h12 => ?_)
  ·have g12 : ¬ (ok_20 = true) := boo_f (not_t h12)
   refine sem_seq (sem_region rfl (step_r rfl rfl trivial (step_r rfl rfl trivial (step_nil (seqK_n (sem_ret (seqK_r ?_)))))))
   have e14 : dead18 c from_ to e now = (small18) := by
    unfold dead18
    try dsimp only
    rewrite [hJ2]
    try dsimp only
    rewrite [if_neg g12]
    all_goals rfl
   rw [e14]
   exact answersR rfl ⟨trivial, trivial⟩ (rfl) rfl
  ·have g12 : ok_20 = true := (not_f h12)
   have hFF := (by assumption : ok_20 = true → (Few9 c ∧ FewX from_ ∧ FewX to)) g12
   have hF1 := hFF.1
   have hF2 := hFF.2.1
   have hF3 := hFF.2.2
   refine sem_skip (seqK_n (sem_seq (sem_region rfl (step_r rfl rfl (by decide) (step_r rfl rfl (by decide) ?_)))))
   refine step_storeB (H' := [(0, _), (1, _), (2, .box [_, _, _, _, _, _, _, _, _, _, _, _, _, _, _, _, _, _, _, _, _, _]), (3, _)]) rfl rfl rfl rfl rfl rfl (.inl rfl) rfl ?_
   refine step_nil (seqK_n (sem_seq (sem_region rfl (step_r (v := (.agg [_, _, _, _, _, _, _, _, _, _])) rfl rfl (Nat.le_of_ble_eq_true rfl) (step_r (v := (.agg [_, _, _, _, _, _, _, _, _, _, _, _, _, _, _, _, _, _, _, _, _, _])) rfl rfl (Nat.le_of_ble_eq_true rfl) (step_r (v := (.agg [_, _, _, _, _, _, _, _, _, _, _, _, _, _, _, _, _, _, _, _, _, _])) rfl rfl (Nat.le_of_ble_eq_true rfl) (step_r (v := (.agg [_, _, _])) rfl rfl (Nat.le_of_ble_eq_true rfl) (step_r rfl rfl trivial (step_call rfl rfl rfl rfl (doX_ok c from_ (⟨(⟨to.Unit.Id, to.Unit.Kind, to.Unit.Group, 0, to.Unit.MaxHealth, to.Unit.Power, to.Unit.MaxPower, to.Unit.At, to.Unit.Casting⟩ : GUnit), to.Name, to.Auras, to.Cools, to.Casting⟩ : GActor) e now (by first | assumption | exact few_lit (Nat.le_of_ble_eq_true rfl) rfl | exact FewX.keep (x := to) (by assumption) rfl (Nat.le_max_left _ _))) rfl rfl rfl ?_)))))))))
   have p16 := doX_few (c := c) (from_ := from_) (to := (⟨(⟨to.Unit.Id, to.Unit.Kind, to.Unit.Group, 0, to.Unit.MaxHealth, to.Unit.Power, to.Unit.MaxPower, to.Unit.At, to.Unit.Casting⟩ : GUnit), to.Name, to.Auras, to.Cools, to.Casting⟩ : GActor)) (e := e) (now := now) (by first | assumption | exact few_lit (Nat.le_of_ble_eq_true rfl) rfl | exact FewX.keep (x := to) (by assumption) rfl (Nat.le_max_left _ _))
   refine step_r rfl rfl trivial (step_r rfl rfl trivial (step_r rfl rfl trivial (step_n (o := .box [_, _, _, _, _, _, _, _, _, _, _, _, _, _, _, _, _, _, _, _, _, _]) (nx' := 5) rfl rfl rfl trivial (step_n (o := .box [_, _, _, _, _]) (nx' := 6) rfl rfl rfl trivial ?_))))
   refine step_storeB (H' := [(5, _), (4, .box [_, _, _, _, _, _, _, _, _, _, _, _, _, _, _, _, _, _, _, _, _, _]), (0, _), (1, _), (2, _), (3, _)]) rfl rfl rfl rfl rfl rfl (.inl rfl) rfl ?_
   refine step_storeB (H' := [(5, .box [_, _, _, _, _]), (4, _), (0, _), (1, _), (2, _), (3, _)]) rfl rfl rfl rfl rfl rfl (.inl rfl) rfl ?_
   refine step_nil (seqK_n (sem_seq (sem_region rfl (step_r (v := (.agg [_, _, _, _, _, _, _, _, _, _])) rfl rfl (Nat.le_of_ble_eq_true rfl) (step_r (v := (.agg [_, _, _, _, _, _, _, _, _, _, _, _, _, _, _, _, _, _, _, _, _, _])) rfl rfl (Nat.le_of_ble_eq_true rfl) (step_r rfl rfl trivial ?_))))))
   refine step_callN (out' := .tup [(.agg [_, _, _, _, _, _, _, _, _, _, _, _, _, _, _, _, _, _, _, _, _, _]), .ref 6 _ _ _]) (H' := [(6, .row _ _ _), (5, _), (4, _), (0, _), (1, _), (2, _), (3, _)]) (nx' := 7) rfl rfl rfl rfl rfl rfl rfl (by (repeat' apply And.intro) <;> first | trivial | rfl | exact flat_len (fun _ => rfl) _ | exact encI_len _ | exact Nat.le_of_ble_eq_true rfl | assumption) (tickE_ok c (⟨(⟨to.Unit.Id, to.Unit.Kind, to.Unit.Group, 0, to.Unit.MaxHealth, to.Unit.Power, to.Unit.MaxPower, to.Unit.At, to.Unit.Casting⟩ : GUnit), to.Name, to.Auras, to.Cools, to.Casting⟩ : GActor) now (by first | assumption | exact few_lit (Nat.le_of_ble_eq_true rfl) rfl | exact FewX.keep (x := to) (by assumption) rfl (Nat.le_max_left _ _))) rfl rfl rfl rfl ?_
   have p17 := tickE_few (c := c) (to := (⟨(⟨to.Unit.Id, to.Unit.Kind, to.Unit.Group, 0, to.Unit.MaxHealth, to.Unit.Power, to.Unit.MaxPower, to.Unit.At, to.Unit.Casting⟩ : GUnit), to.Name, to.Auras, to.Cools, to.Casting⟩ : GActor)) (now := now) (by first | assumption | exact few_lit (Nat.le_of_ble_eq_true rfl) rfl | exact FewX.keep (x := to) (by assumption) rfl (Nat.le_max_left _ _))
   refine step_r rfl rfl trivial (step_r rfl rfl trivial (step_r rfl rfl trivial (step_n (o := .box [_, _, _, _, _, _, _, _, _, _, _, _, _, _, _, _, _, _, _, _, _, _]) (nx' := 8) rfl rfl rfl trivial ?_)))
   refine step_storeB (H' := [(7, .box [_, _, _, _, _, _, _, _, _, _, _, _, _, _, _, _, _, _, _, _, _, _]), (6, _), (5, _), (4, _), (0, _), (1, _), (2, _), (3, _)]) rfl rfl rfl rfl rfl rfl (.inl rfl) rfl ?_
   refine step_r rfl rfl trivial (step_nil (seqK_n (sem_seq (sem_region rfl (step_r (v := (.agg [_, _, _, _, _, _, _, _, _, _])) rfl rfl (Nat.le_of_ble_eq_true rfl) (step_r (v := (.agg [_, _, _, _, _, _, _, _, _, _, _, _, _, _, _, _, _, _, _, _, _, _])) rfl rfl (Nat.le_of_ble_eq_true rfl) (step_r (v := (.agg [_, _, _, _, _, _, _, _, _, _, _, _, _, _, _, _, _, _, _, _, _, _])) rfl rfl (Nat.le_of_ble_eq_true rfl) (step_r rfl rfl (by decide) (step_r rfl rfl trivial (step_call rfl rfl rfl rfl (strikeX_ok c from_ (⟨(⟨to.Unit.Id, to.Unit.Kind, to.Unit.Group, 0, to.Unit.MaxHealth, to.Unit.Power, to.Unit.MaxPower, to.Unit.At, to.Unit.Casting⟩ : GUnit), to.Name, to.Auras, to.Cools, to.Casting⟩ : GActor) e.Amount (by first | assumption | exact few_lit (Nat.le_of_ble_eq_true rfl) rfl | exact FewX.keep (x := to) (by assumption) rfl (Nat.le_max_left _ _))) rfl rfl rfl (step_r rfl rfl trivial ?_)))))))))))
   refine step_r rfl rfl trivial (step_r rfl rfl trivial (step_n (o := .box [_, _, _, _, _, _, _, _, _, _, _, _, _, _, _, _, _, _, _, _, _, _]) (nx' := 9) rfl rfl rfl trivial (step_n (o := .box [_, _, _, _, _]) (nx' := 10) rfl rfl rfl trivial ?_)))
   refine step_storeB (H' := [(9, _), (8, .box [_, _, _, _, _, _, _, _, _, _, _, _, _, _, _, _, _, _, _, _, _, _]), (7, _), (6, _), (5, _), (4, _), (0, _), (1, _), (2, _), (3, _)]) rfl rfl rfl rfl rfl rfl (.inl rfl) rfl ?_
   refine step_storeB (H' := [(9, .box [_, _, _, _, _]), (8, _), (7, _), (6, _), (5, _), (4, _), (0, _), (1, _), (2, _), (3, _)]) rfl rfl rfl rfl rfl rfl (.inl rfl) rfl ?_
   refine step_nil (seqK_n (sem_seq (sem_region rfl (step_r rfl rfl trivial (step_r rfl rfl trivial ?_)))))
   refine step_gs rfl (fun h19 => ?_) (fun h19 => ?_)
   ·have g19 : small18 = true := h19
    refine step_g1 rfl h19 (step_r (v := (.agg [_, _, _, _, _, _, _, _, _, _, _, _, _, _, _, _, _, _, _, _, _, _])) rfl rfl (Nat.le_of_ble_eq_true rfl) (step_g1 rfl h19 (step_r (v := (.agg [_, _, _, _, _, _, _, _, _, _, _, _, _, _, _, _, _, _, _, _, _, _])) rfl rfl (Nat.le_of_ble_eq_true rfl) (step_g1 rfl h19 (step_call rfl rfl rfl rfl (sameX_ok ((doX c from_ (⟨(⟨to.Unit.Id, to.Unit.Kind, to.Unit.Group, 0, to.Unit.MaxHealth, to.Unit.Power, to.Unit.MaxPower, to.Unit.At, to.Unit.Casting⟩ : GUnit), to.Name, to.Auras, to.Cools, to.Casting⟩ : GActor) e now).1) (⟨(⟨to.Unit.Id, to.Unit.Kind, to.Unit.Group, 0, to.Unit.MaxHealth, to.Unit.Power, to.Unit.MaxPower, to.Unit.At, to.Unit.Casting⟩ : GUnit), to.Name, to.Auras, to.Cools, to.Casting⟩ : GActor)) rfl rfl rfl (step_pickT rfl h19 rfl rfl (step_r rfl rfl trivial ?_)))))))
    refine step_gs rfl (fun h21 => ?_) (fun h21 => ?_)
    ·have g21 : sameX ((doX c from_ (⟨(⟨to.Unit.Id, to.Unit.Kind, to.Unit.Group, 0, to.Unit.MaxHealth, to.Unit.Power, to.Unit.MaxPower, to.Unit.At, to.Unit.Casting⟩ : GUnit), to.Name, to.Auras, to.Cools, to.Casting⟩ : GActor) e now).1) (⟨(⟨to.Unit.Id, to.Unit.Kind, to.Unit.Group, 0, to.Unit.MaxHealth, to.Unit.Power, to.Unit.MaxPower, to.Unit.At, to.Unit.Casting⟩ : GUnit), to.Name, to.Auras, to.Cools, to.Casting⟩ : GActor) = true := h21
     refine step_g1 rfl h21 (step_r (v := (.agg [_, _, _, _, _])) rfl rfl (Nat.le_of_ble_eq_true rfl) (step_g1 rfl h21 (step_r rfl rfl (by decide) (step_g1 rfl h21 (step_r rfl rfl trivial (step_g1 rfl h21 (step_r (v := (.agg [_, _, _, _, _])) rfl rfl trivial (step_g1 rfl h21 ?_))))))))
     refine step_eqlA rfl rfl rfl (by kernel_rfl) rfl rfl rfl rfl rfl ?_
     refine step_pickT rfl h21 rfl rfl (step_r rfl rfl trivial ?_)
     refine step_gs rfl (fun h23 => ?_) (fun h23 => ?_)
     ·have g23 : (((((doX c from_ (⟨(⟨to.Unit.Id, to.Unit.Kind, to.Unit.Group, 0, to.Unit.MaxHealth, to.Unit.Power, to.Unit.MaxPower, to.Unit.At, to.Unit.Casting⟩ : GUnit), to.Name, to.Auras, to.Cools, to.Casting⟩ : GActor) e now).2).Kind) == e.Kind) && (((((doX c from_ (⟨(⟨to.Unit.Id, to.Unit.Kind, to.Unit.Group, 0, to.Unit.MaxHealth, to.Unit.Power, to.Unit.MaxPower, to.Unit.At, to.Unit.Casting⟩ : GUnit), to.Name, to.Auras, to.Cools, to.Casting⟩ : GActor) e now).2).Aura) == 0) && (((((doX c from_ (⟨(⟨to.Unit.Id, to.Unit.Kind, to.Unit.Group, 0, to.Unit.MaxHealth, to.Unit.Power, to.Unit.MaxPower, to.Unit.At, to.Unit.Casting⟩ : GUnit), to.Name, to.Auras, to.Cools, to.Casting⟩ : GActor) e now).2).Amount) == 0) && (((((doX c from_ (⟨(⟨to.Unit.Id, to.Unit.Kind, to.Unit.Group, 0, to.Unit.MaxHealth, to.Unit.Power, to.Unit.MaxPower, to.Unit.At, to.Unit.Casting⟩ : GUnit), to.Name, to.Auras, to.Cools, to.Casting⟩ : GActor) e now).2).Kept) == 0) && (((((doX c from_ (⟨(⟨to.Unit.Id, to.Unit.Kind, to.Unit.Group, 0, to.Unit.MaxHealth, to.Unit.Power, to.Unit.MaxPower, to.Unit.At, to.Unit.Casting⟩ : GUnit), to.Name, to.Auras, to.Cools, to.Casting⟩ : GActor) e now).2).Done) == 0) && true))))) = true := h23
      refine step_g1 rfl h23 (step_r (v := (.agg [_, _, _, _, _, _, _, _, _, _, _, _, _, _, _, _, _, _, _, _, _, _])) rfl rfl (Nat.le_of_ble_eq_true rfl) (step_g1 rfl h23 (step_r (v := (.agg [_, _, _, _, _, _, _, _, _, _, _, _, _, _, _, _, _, _, _, _, _, _])) rfl rfl (Nat.le_of_ble_eq_true rfl) (step_g1 rfl h23 (step_call rfl rfl rfl rfl (sameX_ok ((tickE c (⟨(⟨to.Unit.Id, to.Unit.Kind, to.Unit.Group, 0, to.Unit.MaxHealth, to.Unit.Power, to.Unit.MaxPower, to.Unit.At, to.Unit.Casting⟩ : GUnit), to.Name, to.Auras, to.Cools, to.Casting⟩ : GActor) now).1) (⟨(⟨to.Unit.Id, to.Unit.Kind, to.Unit.Group, 0, to.Unit.MaxHealth, to.Unit.Power, to.Unit.MaxPower, to.Unit.At, to.Unit.Casting⟩ : GUnit), to.Name, to.Auras, to.Cools, to.Casting⟩ : GActor)) rfl rfl rfl (step_pickT rfl h23 rfl rfl (step_r rfl rfl trivial ?_)))))))
      refine step_gs rfl (fun h25 => ?_) (fun h25 => ?_)
      ·have g25 : sameX ((tickE c (⟨(⟨to.Unit.Id, to.Unit.Kind, to.Unit.Group, 0, to.Unit.MaxHealth, to.Unit.Power, to.Unit.MaxPower, to.Unit.At, to.Unit.Casting⟩ : GUnit), to.Name, to.Auras, to.Cools, to.Casting⟩ : GActor) now).1) (⟨(⟨to.Unit.Id, to.Unit.Kind, to.Unit.Group, 0, to.Unit.MaxHealth, to.Unit.Power, to.Unit.MaxPower, to.Unit.At, to.Unit.Casting⟩ : GUnit), to.Name, to.Auras, to.Cools, to.Casting⟩ : GActor) = true := h25
       refine step_g1 rfl h25 (step_r rfl rfl trivial (step_g1 rfl h25 (step_r rfl rfl trivial (step_g1 rfl h25 (step_bin rfl rfl rfl rfl rfl trivial (step_pickT rfl h25 rfl rfl (step_r rfl rfl trivial ?_)))))))
       refine step_gs rfl (fun h27 => ?_) (fun h27 => ?_)
       ·have g27 : ((tickE c (⟨(⟨to.Unit.Id, to.Unit.Kind, to.Unit.Group, 0, to.Unit.MaxHealth, to.Unit.Power, to.Unit.MaxPower, to.Unit.At, to.Unit.Casting⟩ : GUnit), to.Name, to.Auras, to.Cools, to.Casting⟩ : GActor) now).2.length : Int) = 0 := beq_t h27
        refine step_g1 rfl h27 (step_r (v := (.agg [_, _, _, _, _, _, _, _, _, _, _, _, _, _, _, _, _, _, _, _, _, _])) rfl rfl (Nat.le_of_ble_eq_true rfl) (step_g1 rfl h27 (step_r (v := (.agg [_, _, _, _, _, _, _, _, _, _, _, _, _, _, _, _, _, _, _, _, _, _])) rfl rfl (Nat.le_of_ble_eq_true rfl) (step_g1 rfl h27 (step_call rfl rfl rfl rfl (sameX_ok ((strikeX c from_ (⟨(⟨to.Unit.Id, to.Unit.Kind, to.Unit.Group, 0, to.Unit.MaxHealth, to.Unit.Power, to.Unit.MaxPower, to.Unit.At, to.Unit.Casting⟩ : GUnit), to.Name, to.Auras, to.Cools, to.Casting⟩ : GActor) e.Amount).1) (⟨(⟨to.Unit.Id, to.Unit.Kind, to.Unit.Group, 0, to.Unit.MaxHealth, to.Unit.Power, to.Unit.MaxPower, to.Unit.At, to.Unit.Casting⟩ : GUnit), to.Name, to.Auras, to.Cools, to.Casting⟩ : GActor)) rfl rfl rfl (step_pickT rfl h27 rfl rfl (step_r rfl rfl trivial ?_)))))))
        refine step_gs rfl (fun h29 => ?_) (fun h29 => ?_)
        ·have g29 : sameX ((strikeX c from_ (⟨(⟨to.Unit.Id, to.Unit.Kind, to.Unit.Group, 0, to.Unit.MaxHealth, to.Unit.Power, to.Unit.MaxPower, to.Unit.At, to.Unit.Casting⟩ : GUnit), to.Name, to.Auras, to.Cools, to.Casting⟩ : GActor) e.Amount).1) (⟨(⟨to.Unit.Id, to.Unit.Kind, to.Unit.Group, 0, to.Unit.MaxHealth, to.Unit.Power, to.Unit.MaxPower, to.Unit.At, to.Unit.Casting⟩ : GUnit), to.Name, to.Auras, to.Cools, to.Casting⟩ : GActor) = true := h29
         refine step_g1 rfl h29 (step_r (v := (.agg [_, _, _, _, _])) rfl rfl (Nat.le_of_ble_eq_true rfl) (step_g1 rfl h29 (step_r (v := (.agg [_, _, _, _, _])) rfl rfl trivial (step_g1 rfl h29 ?_))))
         refine step_eqlA rfl rfl rfl (by kernel_rfl) rfl rfl rfl rfl rfl ?_
         refine step_pickT rfl h29 rfl rfl (step_r rfl rfl trivial (step_nil (seqK_n (sem_ret ?_))))
         have e31 : dead18 c from_ to e now = (((((strikeX c from_ (⟨(⟨to.Unit.Id, to.Unit.Kind, to.Unit.Group, 0, to.Unit.MaxHealth, to.Unit.Power, to.Unit.MaxPower, to.Unit.At, to.Unit.Casting⟩ : GUnit), to.Name, to.Auras, to.Cools, to.Casting⟩ : GActor) e.Amount).2).Kind) == 1) && (((((strikeX c from_ (⟨(⟨to.Unit.Id, to.Unit.Kind, to.Unit.Group, 0, to.Unit.MaxHealth, to.Unit.Power, to.Unit.MaxPower, to.Unit.At, to.Unit.Casting⟩ : GUnit), to.Name, to.Auras, to.Cools, to.Casting⟩ : GActor) e.Amount).2).Aura) == 0) && (((((strikeX c from_ (⟨(⟨to.Unit.Id, to.Unit.Kind, to.Unit.Group, 0, to.Unit.MaxHealth, to.Unit.Power, to.Unit.MaxPower, to.Unit.At, to.Unit.Casting⟩ : GUnit), to.Name, to.Auras, to.Cools, to.Casting⟩ : GActor) e.Amount).2).Amount) == 0) && (((((strikeX c from_ (⟨(⟨to.Unit.Id, to.Unit.Kind, to.Unit.Group, 0, to.Unit.MaxHealth, to.Unit.Power, to.Unit.MaxPower, to.Unit.At, to.Unit.Casting⟩ : GUnit), to.Name, to.Auras, to.Cools, to.Casting⟩ : GActor) e.Amount).2).Kept) == 0) && (((((strikeX c from_ (⟨(⟨to.Unit.Id, to.Unit.Kind, to.Unit.Group, 0, to.Unit.MaxHealth, to.Unit.Power, to.Unit.MaxPower, to.Unit.At, to.Unit.Casting⟩ : GUnit), to.Name, to.Auras, to.Cools, to.Casting⟩ : GActor) e.Amount).2).Done) == 0) && true))))) := by
          unfold dead18
          try dsimp only
          rewrite [hJ2]
          try dsimp only
          rewrite [if_pos g12, if_pos g19, if_pos g21, if_pos g23, if_pos g25, if_pos g27, if_pos g29]
          all_goals rfl
         rw [e31]
         exact answersR rfl ⟨trivial, trivial⟩ (rfl) rfl
        ·have g29 : ¬ (sameX ((strikeX c from_ (⟨(⟨to.Unit.Id, to.Unit.Kind, to.Unit.Group, 0, to.Unit.MaxHealth, to.Unit.Power, to.Unit.MaxPower, to.Unit.At, to.Unit.Casting⟩ : GUnit), to.Name, to.Auras, to.Cools, to.Casting⟩ : GActor) e.Amount).1) (⟨(⟨to.Unit.Id, to.Unit.Kind, to.Unit.Group, 0, to.Unit.MaxHealth, to.Unit.Power, to.Unit.MaxPower, to.Unit.At, to.Unit.Casting⟩ : GUnit), to.Name, to.Auras, to.Cools, to.Casting⟩ : GActor) = true) := boo_f h29
         refine step_g0 rfl h29 rfl (step_g0 rfl h29 rfl (step_g0 rfl h29 rfl (step_pickF rfl h29 rfl rfl (step_r rfl rfl trivial (step_nil (seqK_n (sem_ret ?_)))))))
         have e32 : dead18 c from_ to e now = false := by
          unfold dead18
          try dsimp only
          rewrite [hJ2]
          try dsimp only
          rewrite [if_pos g12, if_pos g19, if_pos g21, if_pos g23, if_pos g25, if_pos g27, if_neg g29]
          all_goals rfl
         rw [e32]
         exact answersR rfl ⟨trivial, trivial⟩ (rfl) rfl
       ·have g27 : ¬ (((tickE c (⟨(⟨to.Unit.Id, to.Unit.Kind, to.Unit.Group, 0, to.Unit.MaxHealth, to.Unit.Power, to.Unit.MaxPower, to.Unit.At, to.Unit.Casting⟩ : GUnit), to.Name, to.Auras, to.Cools, to.Casting⟩ : GActor) now).2.length : Int) = 0) := beq_f h27
        refine step_g0 rfl h27 rfl (step_g0 rfl h27 rfl (step_g0 rfl h27 rfl (step_pickF rfl h27 rfl rfl (step_r rfl rfl trivial (step_gf rfl rfl (step_gf rfl rfl (step_gf rfl rfl (step_r rfl rfl trivial (step_r rfl rfl trivial (step_nil (seqK_n ?_)))))))))))
        refine sem_ret ?_
        have e33 : dead18 c from_ to e now = false := by
         unfold dead18
         try dsimp only
         rewrite [hJ2]
         try dsimp only
         rewrite [if_pos g12, if_pos g19, if_pos g21, if_pos g23, if_pos g25, if_neg g27]
         all_goals rfl
        rw [e33]
        exact answersR rfl ⟨trivial, trivial⟩ (rfl) rfl
      ·have g25 : ¬ (sameX ((tickE c (⟨(⟨to.Unit.Id, to.Unit.Kind, to.Unit.Group, 0, to.Unit.MaxHealth, to.Unit.Power, to.Unit.MaxPower, to.Unit.At, to.Unit.Casting⟩ : GUnit), to.Name, to.Auras, to.Cools, to.Casting⟩ : GActor) now).1) (⟨(⟨to.Unit.Id, to.Unit.Kind, to.Unit.Group, 0, to.Unit.MaxHealth, to.Unit.Power, to.Unit.MaxPower, to.Unit.At, to.Unit.Casting⟩ : GUnit), to.Name, to.Auras, to.Cools, to.Casting⟩ : GActor) = true) := boo_f h25
       refine step_g0 rfl h25 rfl (step_g0 rfl h25 rfl (step_g0 rfl h25 rfl (step_pickF rfl h25 rfl rfl (step_r rfl rfl trivial (step_gf rfl rfl (step_gf rfl rfl (step_gf rfl rfl (step_r rfl rfl trivial (step_r rfl rfl trivial (step_gf rfl rfl (step_gf rfl rfl ?_)))))))))))
       refine step_gf rfl rfl (step_r rfl rfl trivial (step_r rfl rfl trivial (step_nil (seqK_n (sem_ret ?_)))))
       have e34 : dead18 c from_ to e now = false := by
        unfold dead18
        try dsimp only
        rewrite [hJ2]
        try dsimp only
        rewrite [if_pos g12, if_pos g19, if_pos g21, if_pos g23, if_neg g25]
        all_goals rfl
       rw [e34]
       exact answersR rfl ⟨trivial, trivial⟩ (rfl) rfl
     ·have g23 : ¬ ((((((doX c from_ (⟨(⟨to.Unit.Id, to.Unit.Kind, to.Unit.Group, 0, to.Unit.MaxHealth, to.Unit.Power, to.Unit.MaxPower, to.Unit.At, to.Unit.Casting⟩ : GUnit), to.Name, to.Auras, to.Cools, to.Casting⟩ : GActor) e now).2).Kind) == e.Kind) && (((((doX c from_ (⟨(⟨to.Unit.Id, to.Unit.Kind, to.Unit.Group, 0, to.Unit.MaxHealth, to.Unit.Power, to.Unit.MaxPower, to.Unit.At, to.Unit.Casting⟩ : GUnit), to.Name, to.Auras, to.Cools, to.Casting⟩ : GActor) e now).2).Aura) == 0) && (((((doX c from_ (⟨(⟨to.Unit.Id, to.Unit.Kind, to.Unit.Group, 0, to.Unit.MaxHealth, to.Unit.Power, to.Unit.MaxPower, to.Unit.At, to.Unit.Casting⟩ : GUnit), to.Name, to.Auras, to.Cools, to.Casting⟩ : GActor) e now).2).Amount) == 0) && (((((doX c from_ (⟨(⟨to.Unit.Id, to.Unit.Kind, to.Unit.Group, 0, to.Unit.MaxHealth, to.Unit.Power, to.Unit.MaxPower, to.Unit.At, to.Unit.Casting⟩ : GUnit), to.Name, to.Auras, to.Cools, to.Casting⟩ : GActor) e now).2).Kept) == 0) && (((((doX c from_ (⟨(⟨to.Unit.Id, to.Unit.Kind, to.Unit.Group, 0, to.Unit.MaxHealth, to.Unit.Power, to.Unit.MaxPower, to.Unit.At, to.Unit.Casting⟩ : GUnit), to.Name, to.Auras, to.Cools, to.Casting⟩ : GActor) e now).2).Done) == 0) && true))))) = true) := boo_f h23
      refine step_g0 rfl h23 rfl (step_g0 rfl h23 rfl (step_g0 rfl h23 rfl (step_pickF rfl h23 rfl rfl (step_r rfl rfl trivial (step_gf rfl rfl (step_gf rfl rfl (step_gf rfl rfl (step_r rfl rfl trivial (step_r rfl rfl trivial (step_gf rfl rfl (step_gf rfl rfl ?_)))))))))))
      refine step_gf rfl rfl (step_r rfl rfl trivial (step_r rfl rfl trivial (step_gf rfl rfl (step_gf rfl rfl (step_gf rfl rfl (step_r rfl rfl trivial (step_r rfl rfl trivial (step_nil (seqK_n (sem_ret ?_))))))))))
      have e35 : dead18 c from_ to e now = false := by
       unfold dead18
       try dsimp only
       rewrite [hJ2]
       try dsimp only
       rewrite [if_pos g12, if_pos g19, if_pos g21, if_neg g23]
       all_goals rfl
      rw [e35]
      exact answersR rfl ⟨trivial, trivial⟩ (rfl) rfl
    ·have g21 : ¬ (sameX ((doX c from_ (⟨(⟨to.Unit.Id, to.Unit.Kind, to.Unit.Group, 0, to.Unit.MaxHealth, to.Unit.Power, to.Unit.MaxPower, to.Unit.At, to.Unit.Casting⟩ : GUnit), to.Name, to.Auras, to.Cools, to.Casting⟩ : GActor) e now).1) (⟨(⟨to.Unit.Id, to.Unit.Kind, to.Unit.Group, 0, to.Unit.MaxHealth, to.Unit.Power, to.Unit.MaxPower, to.Unit.At, to.Unit.Casting⟩ : GUnit), to.Name, to.Auras, to.Cools, to.Casting⟩ : GActor) = true) := boo_f h21
     refine step_g0 rfl h21 rfl (step_g0 rfl h21 rfl (step_g0 rfl h21 rfl (step_g0 rfl h21 rfl (step_g0 rfl h21 rfl (step_pickF rfl h21 rfl rfl (step_r rfl rfl trivial (step_gf rfl rfl (step_gf rfl rfl (step_gf rfl rfl (step_r rfl rfl trivial (step_r rfl rfl trivial ?_)))))))))))
     refine step_gf rfl rfl (step_gf rfl rfl (step_gf rfl rfl (step_r rfl rfl trivial (step_r rfl rfl trivial (step_gf rfl rfl (step_gf rfl rfl (step_gf rfl rfl (step_r rfl rfl trivial (step_r rfl rfl trivial (step_gf rfl rfl (step_gf rfl rfl ?_)))))))))))
     refine step_gf rfl rfl (step_r rfl rfl trivial (step_r rfl rfl trivial (step_nil (seqK_n (sem_ret ?_)))))
     have e36 : dead18 c from_ to e now = false := by
      unfold dead18
      try dsimp only
      rewrite [hJ2]
      try dsimp only
      rewrite [if_pos g12, if_pos g19, if_neg g21]
      all_goals rfl
     rw [e36]
     exact answersR rfl ⟨trivial, trivial⟩ (rfl) rfl
   ·have g19 : ¬ (small18 = true) := boo_f h19
    refine step_g0 rfl h19 rfl (step_g0 rfl h19 rfl (step_g0 rfl h19 rfl (step_pickF rfl h19 rfl rfl (step_r rfl rfl trivial (step_gf rfl rfl (step_gf rfl rfl (step_gf rfl rfl (step_gf rfl rfl (step_gf rfl rfl (step_r rfl rfl trivial (step_r rfl rfl trivial ?_)))))))))))
    refine step_gf rfl rfl (step_gf rfl rfl (step_gf rfl rfl (step_r rfl rfl trivial (step_r rfl rfl trivial (step_gf rfl rfl (step_gf rfl rfl (step_gf rfl rfl (step_r rfl rfl trivial (step_r rfl rfl trivial (step_gf rfl rfl (step_gf rfl rfl ?_)))))))))))
    refine step_gf rfl rfl (step_r rfl rfl trivial (step_r rfl rfl trivial (step_gf rfl rfl (step_gf rfl rfl (step_gf rfl rfl (step_r rfl rfl trivial (step_r rfl rfl trivial (step_nil (seqK_n (sem_ret ?_))))))))))
    have e37 : dead18 c from_ to e now = false := by
     unfold dead18
     try dsimp only
     rewrite [hJ2]
     try dsimp only
     rewrite [if_pos g12, if_neg g19]
     all_goals rfl
    rw [e37]
    exact answersR rfl ⟨trivial, trivial⟩ (rfl) rfl
end Go.Proofs.Ytmijbjpdjggppaa

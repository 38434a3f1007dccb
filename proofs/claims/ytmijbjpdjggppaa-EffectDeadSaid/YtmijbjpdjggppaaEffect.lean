import Derived.Test.YtmijbjpdjggppaaTake15
namespace Go.Proofs.Ytmijbjpdjggppaa
open Go Go.RowKit Go.Proofs.YtmijbjpdjggppaaVm
attribute [local irreducible] opsWp AnswersE OpsS
set_option maxHeartbeats 400000
set_option maxRecDepth 100000
set_option linter.all false
structure GCast where
  (Ability : Int)
  (Target : Int)
  (Since : Int)
  (Until : Int)
  deriving DecidableEq, Inhabited
def encGCast (x : GCast) : List PV := [i64 x.Ability, i64 x.Target, i64 x.Since, i64 x.Until]
abbrev aGCast (x : GCast) : AV := .agg [I x.Ability, I x.Target, I x.Since, I x.Until]
def wfGCast (x : GCast) : Prop := (InR x.Ability) ∧ (InR x.Target) ∧ (InR x.Since) ∧ (InR x.Until)
theorem encGCast_solid {l : List GCast} : ∀ p ∈ l.flatMap encGCast, solidP p = true := flat_solid (fun x p h => by simp only [encGCast, List.mem_cons, List.mem_nil_iff, or_false] at h; rcases h with rfl | rfl | rfl | rfl <;> rfl)

structure GCasting where
  (Now : GCast)
  (Next : GCast)
  (Wait : Int)
  deriving DecidableEq, Inhabited
def encGCasting (x : GCasting) : List PV := [i64 x.Now.Ability, i64 x.Now.Target, i64 x.Now.Since, i64 x.Now.Until, i64 x.Next.Ability, i64 x.Next.Target, i64 x.Next.Since, i64 x.Next.Until, i64 x.Wait]
abbrev aGCasting (x : GCasting) : AV := .agg [I x.Now.Ability, I x.Now.Target, I x.Now.Since, I x.Now.Until, I x.Next.Ability, I x.Next.Target, I x.Next.Since, I x.Next.Until, I x.Wait]
def wfGCasting (x : GCasting) : Prop := (wfGCast x.Now) ∧ (wfGCast x.Next) ∧ (InR x.Wait)
theorem encGCasting_solid {l : List GCasting} : ∀ p ∈ l.flatMap encGCasting, solidP p = true := flat_solid (fun x p h => by simp only [encGCasting, List.mem_cons, List.mem_nil_iff, or_false] at h; rcases h with rfl | rfl | rfl | rfl | rfl | rfl | rfl | rfl | rfl <;> rfl)

structure GActor where
  (Unit : GUnit)
  (Name : List UInt8)
  (Auras : List GActive)
  (Cools : List GCool)
  (Casting : GCasting)
  deriving DecidableEq, Inhabited
def encGActor (x : GActor) : List PV := [i64 x.Unit.Id, i64 x.Unit.Kind, i64 x.Unit.Group, i64 x.Unit.Health, i64 x.Unit.MaxHealth, i64 x.Unit.Power, i64 x.Unit.MaxPower, i64 x.Unit.At.X, i64 x.Unit.At.Y, i64 x.Unit.Casting, .str x.Name, .slc x.Auras.length false (x.Auras.flatMap encGActive), .slc x.Cools.length false (x.Cools.flatMap encGCool), i64 x.Casting.Now.Ability, i64 x.Casting.Now.Target, i64 x.Casting.Now.Since, i64 x.Casting.Now.Until, i64 x.Casting.Next.Ability, i64 x.Casting.Next.Target, i64 x.Casting.Next.Since, i64 x.Casting.Next.Until, i64 x.Casting.Wait]
abbrev aGActor (x : GActor) : AV := .agg [I x.Unit.Id, I x.Unit.Kind, I x.Unit.Group, I x.Unit.Health, I x.Unit.MaxHealth, I x.Unit.Power, I x.Unit.MaxPower, I x.Unit.At.X, I x.Unit.At.Y, I x.Unit.Casting, .pv (.str x.Name), .pv (.slc x.Auras.length false (x.Auras.flatMap encGActive)), .pv (.slc x.Cools.length false (x.Cools.flatMap encGCool)), I x.Casting.Now.Ability, I x.Casting.Now.Target, I x.Casting.Now.Since, I x.Casting.Now.Until, I x.Casting.Next.Ability, I x.Casting.Next.Target, I x.Casting.Next.Since, I x.Casting.Next.Until, I x.Casting.Wait]
def wfGActor (x : GActor) : Prop := (wfGUnit x.Unit) ∧ (x.Name.length ≤ maxLen) ∧ ((∀ y ∈ x.Auras, wfGActive y) ∧ x.Auras.length ≤ 140737488355328) ∧ ((∀ y ∈ x.Cools, wfGCool y) ∧ x.Cools.length ≤ 140737488355328) ∧ (wfGCasting x.Casting)

structure Gactor where
  (Actor : GActor)
  (content : GContent)
  deriving DecidableEq, Inhabited
def encGactor (x : Gactor) : List PV := [i64 x.Actor.Unit.Id, i64 x.Actor.Unit.Kind, i64 x.Actor.Unit.Group, i64 x.Actor.Unit.Health, i64 x.Actor.Unit.MaxHealth, i64 x.Actor.Unit.Power, i64 x.Actor.Unit.MaxPower, i64 x.Actor.Unit.At.X, i64 x.Actor.Unit.At.Y, i64 x.Actor.Unit.Casting, .str x.Actor.Name, .slc x.Actor.Auras.length false (x.Actor.Auras.flatMap encGActive), .slc x.Actor.Cools.length false (x.Actor.Cools.flatMap encGCool), i64 x.Actor.Casting.Now.Ability, i64 x.Actor.Casting.Now.Target, i64 x.Actor.Casting.Now.Since, i64 x.Actor.Casting.Now.Until, i64 x.Actor.Casting.Next.Ability, i64 x.Actor.Casting.Next.Target, i64 x.Actor.Casting.Next.Since, i64 x.Actor.Casting.Next.Until, i64 x.Actor.Casting.Wait, .slc x.content.Abilities.length false (x.content.Abilities.flatMap encGAbility), .slc x.content.Auras.length false (x.content.Auras.flatMap encGAura), .slc x.content.Foes.length false (x.content.Foes.flatMap encGFoe), i64 x.content.Map.W, i64 x.content.Map.H, .slc x.content.Map.Wall.length false (encB x.content.Map.Wall), i64 x.content.Door.X, i64 x.content.Door.Y, i64 x.content.Lair.X, i64 x.content.Lair.Y]
abbrev aGactor (x : Gactor) : AV := .agg [I x.Actor.Unit.Id, I x.Actor.Unit.Kind, I x.Actor.Unit.Group, I x.Actor.Unit.Health, I x.Actor.Unit.MaxHealth, I x.Actor.Unit.Power, I x.Actor.Unit.MaxPower, I x.Actor.Unit.At.X, I x.Actor.Unit.At.Y, I x.Actor.Unit.Casting, .pv (.str x.Actor.Name), .pv (.slc x.Actor.Auras.length false (x.Actor.Auras.flatMap encGActive)), .pv (.slc x.Actor.Cools.length false (x.Actor.Cools.flatMap encGCool)), I x.Actor.Casting.Now.Ability, I x.Actor.Casting.Now.Target, I x.Actor.Casting.Now.Since, I x.Actor.Casting.Now.Until, I x.Actor.Casting.Next.Ability, I x.Actor.Casting.Next.Target, I x.Actor.Casting.Next.Since, I x.Actor.Casting.Next.Until, I x.Actor.Casting.Wait, .pv (.slc x.content.Abilities.length false (x.content.Abilities.flatMap encGAbility)), .pv (.slc x.content.Auras.length false (x.content.Auras.flatMap encGAura)), .pv (.slc x.content.Foes.length false (x.content.Foes.flatMap encGFoe)), I x.content.Map.W, I x.content.Map.H, .pv (.slc x.content.Map.Wall.length false (encB x.content.Map.Wall)), I x.content.Door.X, I x.content.Door.Y, I x.content.Lair.X, I x.content.Lair.Y]
def wfGactor (x : Gactor) : Prop := (wfGActor x.Actor) ∧ (wfGContent x.content)

def moreS (n : Int) (part : Int) : Int :=
  (max (partM n (addM 100 part) 100) 0)
theorem moreS_ok (n : Int) (part : Int) : Ok Try.prog 59 [I n, I part] [] (I (moreS n part)) [] [] := by
 refine ok_of_sem Try.func59 rfl ?_
 show Walks Try.prog _ _ ⟨[(0, I n), (1, I part)], [], 0, [], 10, 0⟩
 refine sem_seq (sem_region rfl (step_r rfl rfl trivial (step_nil (seqK_n (sem_seq (sem_region rfl (step_r rfl rfl trivial (step_r rfl rfl trivial (step_call rfl rfl rfl rfl (add_ok 100 part) rfl rfl rfl (step_call rfl rfl rfl rfl (part_ok n (addM 100 part) 100) rfl rfl rfl ?_))))))))))
 refine step_max rfl rfl rfl ?_
 refine step_r rfl rfl trivial (step_nil (seqK_n (sem_ret ?_)))
 have e4 : moreS n part = (max (partM n (addM 100 part) 100) 0) := by
  unfold moreS
  try dsimp only
  all_goals rfl
 rw [e4]
 exact answersR rfl ⟨trivial, trivial⟩ (rfl) rfl

def allS_L0 : List Int → Nat → Int → Int
  | [], k0, n0 => n0
  | x0 :: l_, k0, n0 => allS_L0 l_ (k0 + 1) (moreS n0 x0)
def allS (n : Int) (parts : List Int) : Int :=
  (let n_0 := allS_L0 parts 0 n; n_0)
theorem allS_ok (n : Int) (parts : List Int) (parts_f : Bool) : Ok Try.prog 44 [I n, .pv (.slc parts.length parts_f (encI parts))] [] (I (allS n parts)) [] [] := by
 refine Ok.len fun hlen => ?_
 have hl_parts : parts.length ≤ maxLen := hlen _ (by simp [lensL, lens, lensP])
 unfold maxLen at hl_parts
 refine ok_of_sem Try.func44 rfl ?_
 show Walks Try.prog _ _ ⟨[(0, I n), (1, .pv (.slc parts.length parts_f (encI parts)))], [], 0, [], 18, 0⟩
 refine sem_seq (sem_region rfl (step_r rfl rfl trivial (step_nil (seqK_n (sem_seq (sem_seq (sem_region rfl (step_r rfl rfl trivial (step_r rfl rfl trivial (step_r rfl rfl trivial (step_nil ?_)))))))))))
 refine seqK_n ?_
 refine sem_cutW (fun n_0 : Int => (⟨[(0, I n_0)], [], 0, [], 18, 0⟩ : St)) (fun w_ => allS_L0 parts 0 n = w_) ?_ ?_
 ·refine sem_block ?_
  refine sem_loopT (fun w_ : Nat × Int => match w_ with | (k0, n0) => (⟨[(0, I n0), (7, .pv (.slc parts.length parts_f (encI parts))), (8, I parts.length), (9, I k0)], [], 0, [], 18, 0⟩ : St)) (fun w_ : Nat × Int => match w_ with | (k0, n0) => allS_L0 (parts.drop k0) k0 n0 = allS_L0 parts 0 n ∧ k0 ≤ parts.length) (fun w_ : Nat × Int => match w_ with | (k0, n0) => parts.length - k0) (0, n) (⟨rfl, Nat.zero_le _⟩) ?_ (fun w_ hh_ => ?_)
  ·exact (Trans.ren [] (by decide +kernel) (by decide +kernel) rfl ⟨⟨rfl, rfl⟩, ⟨rfl, rfl⟩, ⟨rfl, rfl⟩, ⟨rfl, rfl⟩, trivial⟩ trivial (by decide))
  obtain ⟨k0, n0⟩ := w_
  obtain ⟨hI0, hb0⟩ := hh_
  show Walks Try.prog _ _ (⟨[(0, I n0), (7, .pv (.slc parts.length parts_f (encI parts))), (8, I parts.length), (9, I k0)], [], 0, [], 18, 0⟩ : St)
  refine sem_seq (sem_region rfl (step_bin rfl rfl rfl rfl rfl trivial (step_nil (seqK_n (sem_seq ?_)))))
  refine sem_cond rfl (fun h2 => ?_) (fun h2 => ?_)
  ·have g2 : (k0 : Int) < parts.length := of_decide_eq_true h2
   have hk0 : k0 < parts.length := by omega
   obtain ⟨x0, hx0⟩ : ∃ z_, parts[k0]? = some z_ := ⟨_, List.getElem?_eq_getElem hk0⟩
   refine sem_skip (seqK_n (sem_seq (sem_block (sem_seq (sem_region rfl (step_idxS (k := k0) rfl rfl rfl rfl hk0 (encI_ne hk0) rfl (step_load_one rfl rfl rfl (encI_get hx0) rfl (step_r rfl rfl trivial (step_nil (seqK_n (sem_region rfl ?_)))))))))))
   refine step_r rfl rfl trivial (step_r rfl rfl trivial (step_call rfl rfl rfl rfl (moreS_ok n0 x0) rfl rfl rfl (step_r rfl rfl trivial (step_nil (blkK_n (seqK_n (sem_region rfl (step_bin rfl rfl rfl rfl rfl trivial (step_r rfl rfl trivial (step_nil ?_))))))))))
   have e7 : allS_L0 (parts.drop k0) k0 n0 = allS_L0 (parts.drop (k0 + 1)) (k0 + 1) (moreS n0 x0) := by
    rewrite [drop_cons hx0]
    rewrite [allS_L0]
    try dsimp only
    all_goals rfl
   exact lup_againT (k0 + 1, (moreS n0 x0)) ⟨e7.symm.trans hI0, hk0⟩ (by show parts.length - (k0 + 1) < parts.length - k0; omega) (Trans.ren [] (by decide +kernel) (by decide +kernel) rfl ⟨⟨rfl, rfl⟩, ⟨rfl, rfl⟩, ⟨rfl, rfl⟩, ⟨congrArg (fun n => some (I n)) (wrapI (k := k0) (by first | omega | (simp; omega))), rfl⟩, trivial⟩ trivial (by decide))
  ·have g2 : ¬ ((k0 : Int) < parts.length) := of_decide_eq_false h2
   have hk0 : k0 = parts.length := by omega
   refine sem_exit (seqK_e (lupK_e (blkK_t rfl ?_)))
   have e8 : allS_L0 parts 0 n = n0 := by
    rewrite [← hI0, hk0, List.drop_length]
    rewrite [allS_L0]
    try dsimp only
    all_goals rfl
   exact cutW_n n0 e8 (Trans.ren [] (by decide +kernel) (by decide +kernel) rfl ⟨⟨rfl, rfl⟩, trivial⟩ trivial (by decide))
 ·rintro n_0 (hJ1 : allS_L0 parts 0 n = n_0)
  show seqK _ _ _ .normal (⟨[(0, I n_0)], [], 0, [], 18, 0⟩ : St)
  refine seqK_n (sem_seq (sem_region rfl (step_r rfl rfl trivial (step_r rfl rfl trivial (step_nil (seqK_n (sem_ret ?_)))))))
  have e10 : allS n parts = n_0 := by
   unfold allS
   try dsimp only
   rewrite [hJ1]
   try dsimp only
   all_goals rfl
  rw [e10]
  exact answersR rfl ⟨trivial, trivial⟩ (rfl) rfl

structure FewX (x : GActor) : Prop where
  au : x.Auras.length ≤ 100
  co : x.Cools.length ≤ 100
  ba : ∀ j, (x.Cools.getD j default).Back.length ≤ 200
theorem back_set {l : List GCool} (h : ∀ j, (l.getD j default).Back.length ≤ 200) (k : Nat) {y : GCool} (hy : y.Back.length ≤ 200) : ∀ j, ((l.set k y).getD j default).Back.length ≤ 200 := fun j => by
  have := h j
  simp only [List.getD_eq_getElem?_getD] at this ⊢
  by_cases e : k = j
  · subst e
    by_cases hk : k < l.length
    · rw [List.getElem?_set_self hk]; exact hy
    · rw [List.getElem?_eq_none (by simpa using hk)]; decide
  · rw [List.getElem?_set_ne e]; exact this

def copyX_L0 : Nat → Nat → (List GCool) → List GCool
  | 0, k0, o20 => o20
  | n_ + 1, k0, o20 => copyX_L0 n_ (k0 + 1) (o20.set k0 { (o20.getD k0 default) with Back := ((o20.getD k0 default).Back) })
def copyX (x_ : GActor) : GActor :=
  (let o1_0 := copyX_L0 (x_.Cools.length - 0) 0 x_.Cools; (⟨x_.Unit, x_.Name, x_.Auras, o1_0, x_.Casting⟩ : GActor))
theorem copyX_ok (x_ : GActor) (hX : FewX x_) : Ok Try.prog 12 [aGActor x_] [] (aGActor (copyX x_)) [] [] := by
 refine Ok.len fun hlen => ?_
 have hl_x__Auras : x_.Auras.length ≤ maxLen := hlen _ (by simp [lensL, lens, lensP])
 have hl_x__Cools : x_.Cools.length ≤ maxLen := hlen _ (by simp [lensL, lens, lensP])
 unfold maxLen at hl_x__Auras hl_x__Cools
 have hX1 := hX.au
 have hX2 := hX.co
 refine ok_of_sem Try.func12 rfl ?_
 show Walks Try.prog _ _ ⟨[(0, aGActor x_)], [], 0, [], 31, 0⟩
 refine sem_seq (sem_region rfl (step_n (o := .box [_, _, _, _, _, _, _, _, _, _, _, _, _, _, _, _, _, _, _, _, _, _]) (nx' := 1) rfl rfl rfl trivial (step_n (o := .box [_, _, _, _, _, _, _, _, _, _, _, _, _, _, _, _, _, _, _, _, _, _]) (nx' := 2) rfl rfl rfl trivial (step_nil (seqK_n (sem_seq ?_))))))
 refine sem_drawn rfl (by decide +kernel) rfl ?_
 refine step_r rfl rfl (by decide) (step_r rfl rfl trivial ?_)
 refine step_callN (H' := [(1, _), (0, _)]) (nx' := 2) rfl rfl rfl rfl rfl rfl rfl (by (repeat' apply And.intro) <;> first | trivial | rfl | exact flat_len (fun _ => rfl) _ | exact encI_len _ | exact Nat.le_of_ble_eq_true rfl | assumption) (Ok.frz (clone_GActive x_.Auras false (by first | assumption | omega | (simp; omega) | simp_all)) rfl rfl (by (repeat' apply And.intro) <;> first | trivial | rfl | exact flat_len (s := 6) (enc := encGActive) (fun _ => rfl) _ | exact flat_len (fun _ => rfl) _ | exact encI_len _ | exact Nat.le_of_ble_eq_true rfl | assumption)) rfl rfl rfl rfl ?_
 refine step_r rfl rfl (by decide) (step_r rfl rfl trivial ?_)
 refine step_callN (out' := .ref 2 _ _ _) (H' := [(2, .row _ _ _), (1, _), (0, _)]) (nx' := 3) rfl rfl rfl rfl rfl rfl rfl (by (repeat' apply And.intro) <;> first | trivial | rfl | exact flat_len (fun _ => rfl) _ | exact encI_len _ | exact Nat.le_of_ble_eq_true rfl | assumption) (clone_GCool x_.Cools false (by first | assumption | omega | (simp; omega) | simp_all)) rfl rfl rfl rfl ?_
 refine step_r rfl rfl (by decide) ?_
 refine step_storeB (H' := [(2, _), (1, _), (0, .box [_, _, _, _, _, _, _, _, _, _, _, _, _, _, _, _, _, _, _, _, _, _])]) rfl rfl rfl rfl rfl rfl (.inr (by decide +kernel)) rfl ?_
 refine step_r rfl rfl (by decide) ?_
 refine step_storeB (H' := [(2, _), (1, _), (0, .box [_, _, _, _, _, _, _, _, _, _, _, _, _, _, _, _, _, _, _, _, _, _])]) rfl rfl rfl rfl rfl rfl (.inr (by decide +kernel)) rfl ?_
 refine step_nil (seqK_n (sem_seq (sem_seq (sem_region rfl (step_r rfl rfl (by decide) (step_r rfl rfl trivial (step_r rfl rfl trivial (step_r rfl rfl trivial (step_nil (seqK_n ?_))))))))))
 refine sem_cutW (fun o1_0 : List GCool => (⟨[(1, .ptr 0 0), (2, .ptr 2 0)], [(0, .box [I x_.Unit.Id, I x_.Unit.Kind, I x_.Unit.Group, I x_.Unit.Health, I x_.Unit.MaxHealth, I x_.Unit.Power, I x_.Unit.MaxPower, I x_.Unit.At.X, I x_.Unit.At.Y, I x_.Unit.Casting, .pv (.str x_.Name), .pv (.slc x_.Auras.length false (x_.Auras.flatMap encGActive)), .ref 1 2 0 o1_0.length, I x_.Casting.Now.Ability, I x_.Casting.Now.Target, I x_.Casting.Now.Since, I x_.Casting.Now.Until, I x_.Casting.Next.Ability, I x_.Casting.Next.Target, I x_.Casting.Next.Since, I x_.Casting.Next.Until, I x_.Casting.Wait]), (1, .row 72 2 (o1_0.flatMap encGCool)), (2, .box [I 0, I 0, I 0, I 0, I 0, I 0, I 0, I 0, I 0, I 0, .pv (.str []), .pv (.slc 0 true []), .pv (.slc 0 true []), I 0, I 0, I 0, I 0, I 0, I 0, I 0, I 0, I 0])], 3, [], 31, 0⟩ : St)) (fun w_ => copyX_L0 (x_.Cools.length - 0) 0 x_.Cools = w_) ?_ ?_
 ·refine sem_block ?_
  refine sem_loopT (fun w_ : Nat × (List GCool) => match w_ with | (k0, o20) => (⟨[(1, .ptr 0 0), (2, .ptr 2 0), (14, .ref 1 2 0 o20.length), (15, I x_.Cools.length), (16, I k0)], [(0, .box [I x_.Unit.Id, I x_.Unit.Kind, I x_.Unit.Group, I x_.Unit.Health, I x_.Unit.MaxHealth, I x_.Unit.Power, I x_.Unit.MaxPower, I x_.Unit.At.X, I x_.Unit.At.Y, I x_.Unit.Casting, .pv (.str x_.Name), .pv (.slc x_.Auras.length false (x_.Auras.flatMap encGActive)), .ref 1 2 0 o20.length, I x_.Casting.Now.Ability, I x_.Casting.Now.Target, I x_.Casting.Now.Since, I x_.Casting.Now.Until, I x_.Casting.Next.Ability, I x_.Casting.Next.Target, I x_.Casting.Next.Since, I x_.Casting.Next.Until, I x_.Casting.Wait]), (1, .row 72 2 (o20.flatMap encGCool)), (2, .box [I 0, I 0, I 0, I 0, I 0, I 0, I 0, I 0, I 0, I 0, .pv (.str []), .pv (.slc 0 true []), .pv (.slc 0 true []), I 0, I 0, I 0, I 0, I 0, I 0, I 0, I 0, I 0])], 3, [], 31, 0⟩ : St)) (fun w_ : Nat × (List GCool) => match w_ with | (k0, o20) => copyX_L0 (x_.Cools.length - k0) k0 o20 = copyX_L0 (x_.Cools.length - 0) 0 x_.Cools ∧ k0 ≤ x_.Cools.length ∧ o20.length = x_.Cools.length ∧ ∀ j, (o20.getD j default).Back.length ≤ 200) (fun w_ : Nat × (List GCool) => match w_ with | (k0, o20) => x_.Cools.length - k0) (0, x_.Cools) (⟨rfl, (by first | omega | (simp; omega)), ⟨rfl, hX.ba⟩⟩) ?_ (fun w_ hh_ => ?_)
  ·exact (Trans.ren [(1, 2), (2, 1)] (by decide +kernel) (by decide +kernel) rfl ⟨⟨rfl, rfl⟩, ⟨rfl, rfl⟩, ⟨rfl, rfl⟩, ⟨rfl, rfl⟩, ⟨rfl, rfl⟩, trivial⟩ ⟨⟨rfl, rfl, rfl⟩, ⟨rfl, rfl, rfl⟩, ⟨rfl, rfl, rfl⟩, trivial⟩ (by decide))
  obtain ⟨k0, o20⟩ := w_
  obtain ⟨hI0, hb0, hv0⟩ := hh_
  show Walks Try.prog _ _ (⟨[(1, .ptr 0 0), (2, .ptr 2 0), (14, .ref 1 2 0 o20.length), (15, I x_.Cools.length), (16, I k0)], [(0, .box [I x_.Unit.Id, I x_.Unit.Kind, I x_.Unit.Group, I x_.Unit.Health, I x_.Unit.MaxHealth, I x_.Unit.Power, I x_.Unit.MaxPower, I x_.Unit.At.X, I x_.Unit.At.Y, I x_.Unit.Casting, .pv (.str x_.Name), .pv (.slc x_.Auras.length false (x_.Auras.flatMap encGActive)), .ref 1 2 0 o20.length, I x_.Casting.Now.Ability, I x_.Casting.Now.Target, I x_.Casting.Now.Since, I x_.Casting.Now.Until, I x_.Casting.Next.Ability, I x_.Casting.Next.Target, I x_.Casting.Next.Since, I x_.Casting.Next.Until, I x_.Casting.Wait]), (1, .row 72 2 (o20.flatMap encGCool)), (2, .box [I 0, I 0, I 0, I 0, I 0, I 0, I 0, I 0, I 0, I 0, .pv (.str []), .pv (.slc 0 true []), .pv (.slc 0 true []), I 0, I 0, I 0, I 0, I 0, I 0, I 0, I 0, I 0])], 3, [], 31, 0⟩ : St)
  have hbk := hv0.2 k0
  have hbl := hv0.1
  refine sem_seq (sem_region rfl (step_bin rfl rfl rfl rfl rfl trivial (step_nil (seqK_n (sem_seq ?_)))))
  refine sem_cond rfl (fun h2 => ?_) (fun h2 => ?_)
  ·have g2 : (k0 : Int) < x_.Cools.length := of_decide_eq_true h2
   have hm0 : x_.Cools.length - k0 = (x_.Cools.length - (k0 + 1)) + 1 := by omega
   refine sem_skip (seqK_n (sem_seq (sem_block (sem_seq (sem_region rfl (step_r rfl rfl trivial ?_))))))
   have jk4 : k0 < o20.length := by first | assumption | omega | (simp only [List.length_set, List.length_append]; omega) | (simp only [IntKind.wrap_i64] at *; omega) | (simp; omega) | simp_all
   refine step_idxR (k := k0) rfl rfl rfl rfl jk4 rfl ?_
   refine step_load_rowR rfl rfl rfl rfl (flat_lt (s := 2) (enc := encGCool) (fun _ => rfl) jk4) (flat_take (s := 2) (enc := encGCool) (fun _ => rfl) (get_getD jk4)) rfl ?_
   refine step_n (o := .box [_, _]) (nx' := 4) rfl rfl rfl trivial (step_r rfl rfl trivial ?_)
   refine step_storeB (H' := [(3, .box [_, _]), (0, _), (1, _), (2, _)]) rfl rfl rfl rfl rfl rfl (.inl rfl) rfl ?_
   refine step_nil (seqK_n ?_)
   refine sem_drawn rfl (by decide +kernel) rfl ?_
   refine step_r rfl rfl (by decide) (step_r rfl rfl trivial (step_r rfl rfl trivial (step_r rfl rfl (by decide) (step_r rfl rfl trivial ?_))))
   refine step_callN (H' := [(3, _), (0, _), (1, _), (2, _)]) (nx' := 4) rfl rfl rfl rfl rfl rfl rfl (by (repeat' apply And.intro) <;> first | trivial | rfl | exact flat_len (fun _ => rfl) _ | exact encI_len _ | exact Nat.le_of_ble_eq_true rfl | assumption) (Ok.frz (clone_Int ((o20.getD k0 default).Back) false (by first | assumption | omega | (simp; omega) | simp_all)) rfl rfl (by (repeat' apply And.intro) <;> first | trivial | rfl | exact flat_len (fun _ => rfl) _ | exact encI_len _ | exact Nat.le_of_ble_eq_true rfl | assumption)) rfl rfl rfl rfl ?_
   refine step_idxR (k := k0) rfl rfl rfl rfl jk4 rfl (step_r rfl rfl (by decide) ?_)
   refine step_storeR rfl rfl rfl rfl (by first | decide | (have := flat_lt (s := 2) (enc := encGCool) (fun _ => rfl) jk4; show k0 * 2 + 1 < _; omega)) (flat_set (enc := encGCool) (s := 2) (y := { (o20.getD k0 default) with Back := ((o20.getD k0 default).Back) }) (fun _ => rfl) (get_getD jk4) (by decide) rfl) (.inr (by decide +kernel)) rfl ?_
   refine step_nil (blkK_n (seqK_n (sem_region rfl (step_bin rfl rfl rfl rfl rfl trivial (step_r rfl rfl trivial (step_nil ?_))))))
   have e6 : copyX_L0 (x_.Cools.length - k0) k0 o20 = copyX_L0 (x_.Cools.length - (k0 + 1)) (k0 + 1) (o20.set k0 { (o20.getD k0 default) with Back := ((o20.getD k0 default).Back) }) := by
    rewrite [hm0]
    rewrite [copyX_L0]
    try dsimp only
    all_goals rfl
   exact lup_againT (k0 + 1, (o20.set k0 { (o20.getD k0 default) with Back := ((o20.getD k0 default).Back) })) ⟨e6.symm.trans hI0, (by omega), ⟨by simp only [List.length_set]; exact hbl, back_set hv0.2 k0 hbk⟩⟩ (by show x_.Cools.length - (k0 + 1) < x_.Cools.length - k0; omega) (Trans.ren [] (by decide +kernel) (by decide +kernel) rfl ⟨⟨rfl, rfl⟩, ⟨rfl, rfl⟩, ⟨congrArg (fun n => some (AV.ref 1 2 0 n)) (by first | rfl | simp only [List.length_set] | simp | omega | (simp; omega)), rfl⟩, ⟨rfl, rfl⟩, ⟨congrArg (fun n => some (I n)) (wrapI (k := k0) (by first | omega | (simp; omega))), rfl⟩, trivial⟩ ⟨⟨(by simp only [List.length_set]; rfl), rfl, rfl⟩, ⟨rfl, rfl, rfl⟩, ⟨rfl, rfl, rfl⟩, trivial⟩ (by decide))
  ·have g2 : ¬ ((k0 : Int) < x_.Cools.length) := of_decide_eq_false h2
   have hm0 : x_.Cools.length - k0 = 0 := by omega
   refine sem_exit (seqK_e (lupK_e (blkK_t rfl ?_)))
   have e7 : copyX_L0 (x_.Cools.length - 0) 0 x_.Cools = o20 := by
    rewrite [← hI0, hm0]
    rewrite [copyX_L0]
    try dsimp only
    all_goals rfl
   exact cutW_n o20 e7 (Trans.ren [] (by decide +kernel) (by decide +kernel) rfl ⟨⟨rfl, rfl⟩, ⟨rfl, rfl⟩, trivial⟩ ⟨⟨rfl, rfl, rfl⟩, ⟨rfl, rfl, rfl⟩, ⟨rfl, rfl, rfl⟩, trivial⟩ (by decide))
 ·rintro o1_0 (hJ1 : copyX_L0 (x_.Cools.length - 0) 0 x_.Cools = o1_0)
  show seqK _ _ _ .normal (⟨[(1, .ptr 0 0), (2, .ptr 2 0)], [(0, .box [I x_.Unit.Id, I x_.Unit.Kind, I x_.Unit.Group, I x_.Unit.Health, I x_.Unit.MaxHealth, I x_.Unit.Power, I x_.Unit.MaxPower, I x_.Unit.At.X, I x_.Unit.At.Y, I x_.Unit.Casting, .pv (.str x_.Name), .pv (.slc x_.Auras.length false (x_.Auras.flatMap encGActive)), .ref 1 2 0 o1_0.length, I x_.Casting.Now.Ability, I x_.Casting.Now.Target, I x_.Casting.Now.Since, I x_.Casting.Now.Until, I x_.Casting.Next.Ability, I x_.Casting.Next.Target, I x_.Casting.Next.Since, I x_.Casting.Next.Until, I x_.Casting.Wait]), (1, .row 72 2 (o1_0.flatMap encGCool)), (2, .box [I 0, I 0, I 0, I 0, I 0, I 0, I 0, I 0, I 0, I 0, .pv (.str []), .pv (.slc 0 true []), .pv (.slc 0 true []), I 0, I 0, I 0, I 0, I 0, I 0, I 0, I 0, I 0])], 3, [], 31, 0⟩ : St)
  refine seqK_n (sem_seq (sem_region rfl (step_r (v := (.agg [_, _, _, _, _, _, _, _, _, _, _, _, _, _, _, _, _, _, _, _, _, _])) rfl rfl (Nat.le_of_ble_eq_true rfl) ?_)))
  refine step_storeB (H' := [(0, _), (1, _), (2, .box [_, _, _, _, _, _, _, _, _, _, _, _, _, _, _, _, _, _, _, _, _, _])]) rfl rfl rfl rfl rfl rfl (.inl rfl) rfl ?_
  refine step_nil (seqK_n ?_)
  refine sem_trans (Trans.freezeJ (T' := [(2, .ptr 2 0)]) (H' := [(0, .box [I x_.Unit.Id, I x_.Unit.Kind, I x_.Unit.Group, I x_.Unit.Health, I x_.Unit.MaxHealth, I x_.Unit.Power, I x_.Unit.MaxPower, I x_.Unit.At.X, I x_.Unit.At.Y, I x_.Unit.Casting, .pv (.str x_.Name), .pv (.slc x_.Auras.length false (x_.Auras.flatMap encGActive)), .pv (.slc o1_0.length false (o1_0.flatMap encGCool)), I x_.Casting.Now.Ability, I x_.Casting.Now.Target, I x_.Casting.Now.Since, I x_.Casting.Now.Until, I x_.Casting.Next.Ability, I x_.Casting.Next.Target, I x_.Casting.Next.Since, I x_.Casting.Next.Until, I x_.Casting.Wait]), (2, .box [I x_.Unit.Id, I x_.Unit.Kind, I x_.Unit.Group, I x_.Unit.Health, I x_.Unit.MaxHealth, I x_.Unit.Power, I x_.Unit.MaxPower, I x_.Unit.At.X, I x_.Unit.At.Y, I x_.Unit.Casting, .pv (.str x_.Name), .pv (.slc x_.Auras.length false (x_.Auras.flatMap encGActive)), .pv (.slc o1_0.length false (o1_0.flatMap encGCool)), I x_.Casting.Now.Ability, I x_.Casting.Now.Target, I x_.Casting.Now.Since, I x_.Casting.Now.Until, I x_.Casting.Next.Ability, I x_.Casting.Next.Target, I x_.Casting.Next.Since, I x_.Casting.Next.Until, I x_.Casting.Wait])]) [1] (by decide) ⟨⟨_, _, rfl, rfl, (by (repeat' apply And.intro) <;> first | trivial | rfl | exact flat_len (s := 2) (enc := encGCool) (fun _ => rfl) _ | exact flat_len (fun _ => rfl) _ | exact encI_len _ | exact Nat.le_of_ble_eq_true rfl | assumption)⟩, trivial⟩ ⟨⟨rfl, _, _, rfl, rfl, (by (repeat' apply And.intro) <;> first | trivial | rfl | exact flat_len (s := 2) (enc := encGCool) (fun _ => rfl) _ | exact flat_len (fun _ => rfl) _ | exact encI_len _ | exact Nat.le_of_ble_eq_true rfl | assumption)⟩, ⟨rfl, _, _, rfl, rfl, (by (repeat' apply And.intro) <;> first | trivial | rfl | exact flat_len (s := 2) (enc := encGCool) (fun _ => rfl) _ | exact flat_len (fun _ => rfl) _ | exact encI_len _ | exact Nat.le_of_ble_eq_true rfl | assumption)⟩, trivial⟩) ?_
  refine sem_ret ?_
  have e8 : copyX x_ = (⟨x_.Unit, x_.Name, x_.Auras, o1_0, x_.Casting⟩ : GActor) := by
   unfold copyX
   try dsimp only
   rewrite [hJ1]
   try dsimp only
   all_goals rfl
  rw [e8]
  exact answersR rfl ⟨Nat.le_of_ble_eq_true rfl, trivial⟩ (rfl) rfl

def ofX (c : GContent) (x_ : GActor) : Gactor × Bool :=
  if Right x_.Unit then ((⟨(copyX x_), c⟩ : Gactor), (!(decide (x_.Unit.Health < 1)))) else ((⟨(copyX x_), c⟩ : Gactor), false)
theorem ofX_ok (c : GContent) (x_ : GActor) (hX : FewX x_) : Ok Try.prog 13 [aGContent c, aGActor x_] [] (.tup [.ptr 0 0, B (ofX c x_).2]) [.box [I (ofX c x_).1.Actor.Unit.Id, I (ofX c x_).1.Actor.Unit.Kind, I (ofX c x_).1.Actor.Unit.Group, I (ofX c x_).1.Actor.Unit.Health, I (ofX c x_).1.Actor.Unit.MaxHealth, I (ofX c x_).1.Actor.Unit.Power, I (ofX c x_).1.Actor.Unit.MaxPower, I (ofX c x_).1.Actor.Unit.At.X, I (ofX c x_).1.Actor.Unit.At.Y, I (ofX c x_).1.Actor.Unit.Casting, .pv (.str (ofX c x_).1.Actor.Name), .pv (.slc (ofX c x_).1.Actor.Auras.length false ((ofX c x_).1.Actor.Auras.flatMap encGActive)), .pv (.slc (ofX c x_).1.Actor.Cools.length false ((ofX c x_).1.Actor.Cools.flatMap encGCool)), I (ofX c x_).1.Actor.Casting.Now.Ability, I (ofX c x_).1.Actor.Casting.Now.Target, I (ofX c x_).1.Actor.Casting.Now.Since, I (ofX c x_).1.Actor.Casting.Now.Until, I (ofX c x_).1.Actor.Casting.Next.Ability, I (ofX c x_).1.Actor.Casting.Next.Target, I (ofX c x_).1.Actor.Casting.Next.Since, I (ofX c x_).1.Actor.Casting.Next.Until, I (ofX c x_).1.Actor.Casting.Wait, .pv (.slc (ofX c x_).1.content.Abilities.length false ((ofX c x_).1.content.Abilities.flatMap encGAbility)), .pv (.slc (ofX c x_).1.content.Auras.length false ((ofX c x_).1.content.Auras.flatMap encGAura)), .pv (.slc (ofX c x_).1.content.Foes.length false ((ofX c x_).1.content.Foes.flatMap encGFoe)), I (ofX c x_).1.content.Map.W, I (ofX c x_).1.content.Map.H, .pv (.slc (ofX c x_).1.content.Map.Wall.length false (encB (ofX c x_).1.content.Map.Wall)), I (ofX c x_).1.content.Door.X, I (ofX c x_).1.content.Door.Y, I (ofX c x_).1.content.Lair.X, I (ofX c x_).1.content.Lair.Y]] [] := by
 refine Ok.len fun hlen => ?_
 have hl_c_Abilities : c.Abilities.length ≤ maxLen := hlen _ (by simp [lensL, lens, lensP])
 have hl_c_Auras : c.Auras.length ≤ maxLen := hlen _ (by simp [lensL, lens, lensP])
 have hl_c_Foes : c.Foes.length ≤ maxLen := hlen _ (by simp [lensL, lens, lensP])
 have hl_c_Map_Wall : c.Map.Wall.length ≤ maxLen := hlen _ (by simp [lensL, lens, lensP])
 have hl_x__Auras : x_.Auras.length ≤ maxLen := hlen _ (by simp [lensL, lens, lensP])
 have hl_x__Cools : x_.Cools.length ≤ maxLen := hlen _ (by simp [lensL, lens, lensP])
 unfold maxLen at hl_c_Abilities hl_c_Auras hl_c_Foes hl_c_Map_Wall hl_x__Auras hl_x__Cools
 refine ok_of_sem Try.func13 rfl ?_
 show Walks Try.prog _ _ ⟨[(0, aGContent c), (1, aGActor x_)], [], 0, [], 20, 0⟩
 refine sem_seq (sem_region rfl (step_n (o := .box [_, _, _, _, _, _, _, _, _, _]) (nx' := 1) rfl rfl rfl trivial (step_n (o := .box [_, _, _, _, _, _, _, _, _, _, _, _, _, _, _, _, _, _, _, _, _, _]) (nx' := 2) rfl rfl rfl trivial (step_r rfl rfl trivial (step_r rfl rfl trivial (step_nil (seqK_n (sem_seq ?_))))))))
 refine sem_drawn rfl (by decide +kernel) rfl ?_
 refine step_r (v := (.agg [_, _, _, _, _, _, _, _, _, _, _, _, _, _, _, _, _, _, _, _, _, _])) rfl rfl (Nat.le_of_ble_eq_true rfl) (step_call rfl rfl rfl rfl (copyX_ok x_ (by first | assumption)) rfl rfl rfl (step_r (v := (.agg [_, _, _, _, _, _, _, _, _, _])) rfl rfl (Nat.le_of_ble_eq_true rfl) ?_))
 refine step_buildT (vs := [_, _, _, _, _, _, _, _, _, _, _, _, _, _, _, _, _, _, _, _, _, _, _, _, _, _, _, _, _, _, _, _]) rfl rfl rfl rfl rfl rfl rfl rfl ?_
 refine step_n (o := .box [_, _, _, _, _, _, _, _, _, _, _, _, _, _, _, _, _, _, _, _, _, _, _, _, _, _, _, _, _, _, _, _]) (nx' := 3) rfl rfl rfl trivial (step_r rfl rfl (by decide) (step_r (v := (.agg [_, _, _, _, _, _, _, _, _, _])) rfl rfl (Nat.le_of_ble_eq_true rfl) (step_call rfl rfl rfl rfl (right_ok x_.Unit) rfl rfl rfl (step_r rfl rfl trivial ?_))))
 refine step_gs rfl (fun h2 => ?_) (fun h2 => ?_)
 ·have g2 : Right x_.Unit := of_decide_eq_true h2
  refine step_g1 rfl h2 (step_r rfl rfl (by decide) (step_g1 rfl h2 (step_r (v := (.agg [_, _, _, _, _, _, _, _, _, _])) rfl rfl (Nat.le_of_ble_eq_true rfl) (step_g1 rfl h2 (step_call rfl rfl rfl rfl (dead_ok x_.Unit) rfl rfl rfl (step_g1 rfl h2 (step_r rfl rfl trivial (step_pickT rfl h2 rfl rfl (step_r rfl rfl trivial (step_r rfl rfl trivial (step_nil ?_)))))))))))
  refine seqK_n (sem_ret ?_)
  have e4 : ofX c x_ = ((⟨(copyX x_), c⟩ : Gactor), (!(decide (x_.Unit.Health < 1)))) := by
   unfold ofX
   try dsimp only
   rewrite [if_pos g2]
   all_goals rfl
  rw [e4]
  exact answersGR [] [2] rfl ⟨trivial, trivial, trivial⟩ rfl (by (repeat' apply And.intro) <;> first | trivial | rfl | exact flat_len (fun _ => rfl) _ | exact encI_len _ | assumption) (rfl) rfl rfl rfl (by decide) rfl rfl ⟨⟨rfl, rfl⟩, trivial⟩
 ·have g2 : ¬ (Right x_.Unit) := of_decide_eq_false h2
  refine step_g0 rfl h2 rfl (step_g0 rfl h2 rfl (step_g0 rfl h2 rfl (step_g0 rfl h2 rfl (step_pickF rfl h2 rfl rfl (step_r rfl rfl trivial (step_r rfl rfl trivial (step_nil (seqK_n (sem_ret ?_)))))))))
  have e5 : ofX c x_ = ((⟨(copyX x_), c⟩ : Gactor), false) := by
   unfold ofX
   try dsimp only
   rewrite [if_neg g2]
   all_goals rfl
  rw [e5]
  exact answersGR [] [2] rfl ⟨trivial, trivial, trivial⟩ rfl (by (repeat' apply And.intro) <;> first | trivial | rfl | exact flat_len (fun _ => rfl) _ | exact encI_len _ | assumption) (rfl) rfl rfl rfl (by decide) rfl rfl ⟨⟨rfl, rfl⟩, trivial⟩

def sumX (x_ : Gactor) (kind : Int) : Int :=
  (sum15 x_.content x_.Actor.Auras kind)
theorem sumX_ok (x_ : Gactor) (kind : Int) : Ok Try.prog 22 [.pptr [i64 x_.Actor.Unit.Id, i64 x_.Actor.Unit.Kind, i64 x_.Actor.Unit.Group, i64 x_.Actor.Unit.Health, i64 x_.Actor.Unit.MaxHealth, i64 x_.Actor.Unit.Power, i64 x_.Actor.Unit.MaxPower, i64 x_.Actor.Unit.At.X, i64 x_.Actor.Unit.At.Y, i64 x_.Actor.Unit.Casting, .str x_.Actor.Name, .slc x_.Actor.Auras.length false (x_.Actor.Auras.flatMap encGActive), .slc x_.Actor.Cools.length false (x_.Actor.Cools.flatMap encGCool), i64 x_.Actor.Casting.Now.Ability, i64 x_.Actor.Casting.Now.Target, i64 x_.Actor.Casting.Now.Since, i64 x_.Actor.Casting.Now.Until, i64 x_.Actor.Casting.Next.Ability, i64 x_.Actor.Casting.Next.Target, i64 x_.Actor.Casting.Next.Since, i64 x_.Actor.Casting.Next.Until, i64 x_.Actor.Casting.Wait, .slc x_.content.Abilities.length false (x_.content.Abilities.flatMap encGAbility), .slc x_.content.Auras.length false (x_.content.Auras.flatMap encGAura), .slc x_.content.Foes.length false (x_.content.Foes.flatMap encGFoe), i64 x_.content.Map.W, i64 x_.content.Map.H, .slc x_.content.Map.Wall.length false (encB x_.content.Map.Wall), i64 x_.content.Door.X, i64 x_.content.Door.Y, i64 x_.content.Lair.X, i64 x_.content.Lair.Y] 0, I kind] [] (I (sumX x_ kind)) [] [] := by
 refine ok_of_sem Try.func22 rfl ?_
 show Walks Try.prog _ _ ⟨[(0, .pptr [i64 x_.Actor.Unit.Id, i64 x_.Actor.Unit.Kind, i64 x_.Actor.Unit.Group, i64 x_.Actor.Unit.Health, i64 x_.Actor.Unit.MaxHealth, i64 x_.Actor.Unit.Power, i64 x_.Actor.Unit.MaxPower, i64 x_.Actor.Unit.At.X, i64 x_.Actor.Unit.At.Y, i64 x_.Actor.Unit.Casting, .str x_.Actor.Name, .slc x_.Actor.Auras.length false (x_.Actor.Auras.flatMap encGActive), .slc x_.Actor.Cools.length false (x_.Actor.Cools.flatMap encGCool), i64 x_.Actor.Casting.Now.Ability, i64 x_.Actor.Casting.Now.Target, i64 x_.Actor.Casting.Now.Since, i64 x_.Actor.Casting.Now.Until, i64 x_.Actor.Casting.Next.Ability, i64 x_.Actor.Casting.Next.Target, i64 x_.Actor.Casting.Next.Since, i64 x_.Actor.Casting.Next.Until, i64 x_.Actor.Casting.Wait, .slc x_.content.Abilities.length false (x_.content.Abilities.flatMap encGAbility), .slc x_.content.Auras.length false (x_.content.Auras.flatMap encGAura), .slc x_.content.Foes.length false (x_.content.Foes.flatMap encGFoe), i64 x_.content.Map.W, i64 x_.content.Map.H, .slc x_.content.Map.Wall.length false (encB x_.content.Map.Wall), i64 x_.content.Door.X, i64 x_.content.Door.Y, i64 x_.content.Lair.X, i64 x_.content.Lair.Y] 0), (1, I kind)], [], 0, [], 16, 0⟩
 refine sem_seq (sem_region rfl (step_r rfl rfl trivial (step_nil (seqK_n (sem_seq ?_)))))
 refine sem_drawn rfl (by decide +kernel) rfl ?_
 refine step_r rfl rfl trivial (step_r rfl rfl trivial (step_r rfl rfl (by decide) (step_r (v := (.agg [_, _, _, _, _, _, _, _, _, _])) rfl rfl (Nat.le_of_ble_eq_true rfl) (step_r rfl rfl trivial (step_r rfl rfl trivial (step_r rfl rfl (by decide) (step_r rfl rfl (by decide) (step_load_one rfl rfl rfl (rfl) rfl (step_r rfl rfl trivial (step_call rfl rfl rfl rfl (sum15_ok x_.content x_.Actor.Auras false kind) rfl rfl rfl (step_r rfl rfl trivial ?_)))))))))))
 refine step_nil (seqK_n (sem_ret ?_))
 have e3 : sumX x_ kind = (sum15 x_.content x_.Actor.Auras kind) := by
  unfold sumX
  try dsimp only
  all_goals rfl
 rw [e3]
 exact answersR rfl ⟨trivial, trivial⟩ (rfl) rfl

structure GBlow where
  (Kind : Int)
  (Aura : Int)
  (Amount : Int)
  (Kept : Int)
  (Done : Int)
  deriving DecidableEq, Inhabited
def encGBlow (x : GBlow) : List PV := [i64 x.Kind, i64 x.Aura, i64 x.Amount, i64 x.Kept, i64 x.Done]
abbrev aGBlow (x : GBlow) : AV := .agg [I x.Kind, I x.Aura, I x.Amount, I x.Kept, I x.Done]
def wfGBlow (x : GBlow) : Prop := (InR x.Kind) ∧ (InR x.Aura) ∧ (InR x.Amount) ∧ (InR x.Kept) ∧ (InR x.Done)
theorem encGBlow_solid {l : List GBlow} : ∀ p ∈ l.flatMap encGBlow, solidP p = true := flat_solid (fun x p h => by simp only [encGBlow, List.mem_cons, List.mem_nil_iff, or_false] at h; rcases h with rfl | rfl | rfl | rfl | rfl <;> rfl)

def hitX (x_ : Gactor) (n : Int) (parts : List Int) : GBlow × Gactor :=
  ((⟨1, 0, (allS n parts), (IntKind.i64.wrap ((allS n parts) - ((take15 x_.content x_.Actor.Auras (allS n parts)).2))), (hurtM x_.Actor.Unit ((take15 x_.content x_.Actor.Auras (allS n parts)).2)).2⟩ : GBlow), (⟨(⟨((hurtM x_.Actor.Unit ((take15 x_.content x_.Actor.Auras (allS n parts)).2)).1), x_.Actor.Name, (take15 x_.content x_.Actor.Auras (allS n parts)).1, x_.Actor.Cools, x_.Actor.Casting⟩ : GActor), x_.content⟩ : Gactor))
theorem hitX_ok (x_ : Gactor) (n : Int) (parts : List Int) (hx : x_.Actor.Auras.length ≤ 1000) : Ok Try.prog 20 [.ptr 0 0, I n, .ref 1 1 0 parts.length] [.box [I x_.Actor.Unit.Id, I x_.Actor.Unit.Kind, I x_.Actor.Unit.Group, I x_.Actor.Unit.Health, I x_.Actor.Unit.MaxHealth, I x_.Actor.Unit.Power, I x_.Actor.Unit.MaxPower, I x_.Actor.Unit.At.X, I x_.Actor.Unit.At.Y, I x_.Actor.Unit.Casting, .pv (.str x_.Actor.Name), .pv (.slc x_.Actor.Auras.length false (x_.Actor.Auras.flatMap encGActive)), .pv (.slc x_.Actor.Cools.length false (x_.Actor.Cools.flatMap encGCool)), I x_.Actor.Casting.Now.Ability, I x_.Actor.Casting.Now.Target, I x_.Actor.Casting.Now.Since, I x_.Actor.Casting.Now.Until, I x_.Actor.Casting.Next.Ability, I x_.Actor.Casting.Next.Target, I x_.Actor.Casting.Next.Since, I x_.Actor.Casting.Next.Until, I x_.Actor.Casting.Wait, .pv (.slc x_.content.Abilities.length false (x_.content.Abilities.flatMap encGAbility)), .pv (.slc x_.content.Auras.length false (x_.content.Auras.flatMap encGAura)), .pv (.slc x_.content.Foes.length false (x_.content.Foes.flatMap encGFoe)), I x_.content.Map.W, I x_.content.Map.H, .pv (.slc x_.content.Map.Wall.length false (encB x_.content.Map.Wall)), I x_.content.Door.X, I x_.content.Door.Y, I x_.content.Lair.X, I x_.content.Lair.Y], .row 3 1 (encI parts)] (aGBlow (hitX x_ n parts).1) [.box [I (hitX x_ n parts).2.Actor.Unit.Id, I (hitX x_ n parts).2.Actor.Unit.Kind, I (hitX x_ n parts).2.Actor.Unit.Group, I (hitX x_ n parts).2.Actor.Unit.Health, I (hitX x_ n parts).2.Actor.Unit.MaxHealth, I (hitX x_ n parts).2.Actor.Unit.Power, I (hitX x_ n parts).2.Actor.Unit.MaxPower, I (hitX x_ n parts).2.Actor.Unit.At.X, I (hitX x_ n parts).2.Actor.Unit.At.Y, I (hitX x_ n parts).2.Actor.Unit.Casting, .pv (.str (hitX x_ n parts).2.Actor.Name), .pv (.slc (hitX x_ n parts).2.Actor.Auras.length false ((hitX x_ n parts).2.Actor.Auras.flatMap encGActive)), .pv (.slc (hitX x_ n parts).2.Actor.Cools.length false ((hitX x_ n parts).2.Actor.Cools.flatMap encGCool)), I (hitX x_ n parts).2.Actor.Casting.Now.Ability, I (hitX x_ n parts).2.Actor.Casting.Now.Target, I (hitX x_ n parts).2.Actor.Casting.Now.Since, I (hitX x_ n parts).2.Actor.Casting.Now.Until, I (hitX x_ n parts).2.Actor.Casting.Next.Ability, I (hitX x_ n parts).2.Actor.Casting.Next.Target, I (hitX x_ n parts).2.Actor.Casting.Next.Since, I (hitX x_ n parts).2.Actor.Casting.Next.Until, I (hitX x_ n parts).2.Actor.Casting.Wait, .pv (.slc (hitX x_ n parts).2.content.Abilities.length false ((hitX x_ n parts).2.content.Abilities.flatMap encGAbility)), .pv (.slc (hitX x_ n parts).2.content.Auras.length false ((hitX x_ n parts).2.content.Auras.flatMap encGAura)), .pv (.slc (hitX x_ n parts).2.content.Foes.length false ((hitX x_ n parts).2.content.Foes.flatMap encGFoe)), I (hitX x_ n parts).2.content.Map.W, I (hitX x_ n parts).2.content.Map.H, .pv (.slc (hitX x_ n parts).2.content.Map.Wall.length false (encB (hitX x_ n parts).2.content.Map.Wall)), I (hitX x_ n parts).2.content.Door.X, I (hitX x_ n parts).2.content.Door.Y, I (hitX x_ n parts).2.content.Lair.X, I (hitX x_ n parts).2.content.Lair.Y], .row 3 1 (encI parts)] [] := by
 refine ok_of_sem Try.func20 rfl ?_
 show Walks Try.prog _ _ ⟨[(0, .ptr 0 0), (1, I n), (2, .ref 1 1 0 parts.length)], [(0, .box [I x_.Actor.Unit.Id, I x_.Actor.Unit.Kind, I x_.Actor.Unit.Group, I x_.Actor.Unit.Health, I x_.Actor.Unit.MaxHealth, I x_.Actor.Unit.Power, I x_.Actor.Unit.MaxPower, I x_.Actor.Unit.At.X, I x_.Actor.Unit.At.Y, I x_.Actor.Unit.Casting, .pv (.str x_.Actor.Name), .pv (.slc x_.Actor.Auras.length false (x_.Actor.Auras.flatMap encGActive)), .pv (.slc x_.Actor.Cools.length false (x_.Actor.Cools.flatMap encGCool)), I x_.Actor.Casting.Now.Ability, I x_.Actor.Casting.Now.Target, I x_.Actor.Casting.Now.Since, I x_.Actor.Casting.Now.Until, I x_.Actor.Casting.Next.Ability, I x_.Actor.Casting.Next.Target, I x_.Actor.Casting.Next.Since, I x_.Actor.Casting.Next.Until, I x_.Actor.Casting.Wait, .pv (.slc x_.content.Abilities.length false (x_.content.Abilities.flatMap encGAbility)), .pv (.slc x_.content.Auras.length false (x_.content.Auras.flatMap encGAura)), .pv (.slc x_.content.Foes.length false (x_.content.Foes.flatMap encGFoe)), I x_.content.Map.W, I x_.content.Map.H, .pv (.slc x_.content.Map.Wall.length false (encB x_.content.Map.Wall)), I x_.content.Door.X, I x_.content.Door.Y, I x_.content.Lair.X, I x_.content.Lair.Y]), (1, .row 3 1 (encI parts))], 2, [], 53, 2⟩
 refine sem_seq (sem_region rfl (step_n (o := .box [_, _, _, _, _]) (nx' := 3) rfl rfl rfl trivial (step_nil (seqK_n (sem_seq (sem_region rfl (step_r rfl rfl trivial (step_r rfl rfl trivial ?_))))))))
 refine step_callJ (Hin := [.row _ _ _]) (H' := [(2, _), (0, _), (1, _)]) (nx' := 3) [1] rfl rfl rfl rfl rfl rfl rfl rfl rfl (by (repeat' apply And.intro) <;> first | trivial | rfl | exact flat_len (fun _ => rfl) _ | exact encI_len _ | exact Nat.le_of_ble_eq_true rfl | assumption) (allS_ok n parts false) rfl (by decide) rfl rfl trivial rfl rfl rfl rfl ?_
 refine step_r (v := (.agg [_, _, _, _, _])) rfl rfl trivial (step_n (o := .box [_, _, _, _, _]) (nx' := 4) rfl rfl rfl trivial ?_)
 refine step_storeB (H' := [(3, .box [_, _, _, _, _]), (2, _), (0, _), (1, _)]) rfl rfl rfl rfl rfl rfl (.inl rfl) rfl ?_
 refine step_nil (seqK_n (sem_seq (sem_region rfl (step_r rfl rfl trivial (step_nil (seqK_n (sem_seq ?_)))))))
 refine sem_drawnE [(19, 15)] rfl (by decide +kernel) (by decide +kernel) rfl ?_
 refine step_r rfl rfl trivial (step_r rfl rfl trivial (step_r rfl rfl trivial (step_r rfl rfl (by decide) (step_r (v := (.agg [_, _, _, _, _, _, _, _, _, _])) rfl rfl (Nat.le_of_ble_eq_true rfl) (step_r rfl rfl trivial (step_r rfl rfl trivial (step_r rfl rfl (by decide) (step_r rfl rfl (by decide) (step_r rfl rfl trivial (step_r rfl rfl (by decide) (step_r rfl rfl trivial ?_)))))))))))
 refine step_callN (out' := .tup [_, _]) (H' := [(3, _), (2, _), (0, _), (1, _)]) (nx' := 4) rfl rfl rfl rfl rfl rfl rfl (by (repeat' apply And.intro) <;> first | trivial | rfl | exact flat_len (fun _ => rfl) _ | exact encI_len _ | exact Nat.le_of_ble_eq_true rfl | assumption) (Ok.frz (take15_ok x_.content x_.Actor.Auras false (allS n parts) (by first | assumption | omega | (simp only [List.length_nil, List.length_cons, List.length_append] at *; omega) | (simp; done) | (simp; omega))) rfl rfl (by (repeat' apply And.intro) <;> first | trivial | rfl | exact flat_len (s := 6) (enc := encGActive) (fun _ => rfl) _ | exact flat_len (fun _ => rfl) _ | exact encI_len _ | exact Nat.le_of_ble_eq_true rfl | assumption)) rfl rfl rfl rfl ?_
 have p2 := take15_len x_.content x_.Actor.Auras (allS n parts)
 refine step_r rfl rfl trivial (step_r rfl rfl trivial (step_r rfl rfl trivial (step_r rfl rfl trivial (step_r rfl rfl (by decide) (step_r rfl rfl (by decide) ?_)))))
 refine step_storeB (H' := [(3, _), (2, _), (0, .box [_, _, _, _, _, _, _, _, _, _, _, _, _, _, _, _, _, _, _, _, _, _, _, _, _, _, _, _, _, _, _, _]), (1, _)]) rfl rfl rfl rfl rfl rfl (.inr (by decide +kernel)) rfl ?_
 refine step_r rfl rfl trivial (step_nil (seqK_n (sem_seq (sem_region rfl (step_r rfl rfl trivial (step_r rfl rfl trivial (step_r rfl rfl trivial (step_r rfl rfl (by decide) (step_r rfl rfl (by decide) (step_r (v := (.agg [_, _, _, _, _, _, _, _, _, _])) rfl rfl (Nat.le_of_ble_eq_true rfl) (step_r rfl rfl trivial ?_)))))))))))
 refine step_call rfl rfl rfl rfl (hurt_ok x_.Actor.Unit ((take15 x_.content x_.Actor.Auras (allS n parts)).2)) rfl rfl rfl (step_r rfl rfl trivial (step_r rfl rfl trivial (step_r rfl rfl trivial (step_r rfl rfl trivial (step_r rfl rfl (by decide) (step_r rfl rfl (by decide) ?_))))))
 refine step_storeB (H' := [(3, _), (2, _), (0, .box [_, _, _, _, _, _, _, _, _, _, _, _, _, _, _, _, _, _, _, _, _, _, _, _, _, _, _, _, _, _, _, _]), (1, _)]) rfl rfl rfl rfl rfl rfl (.inl rfl) rfl ?_
 refine step_r rfl rfl (by decide) ?_
 refine step_storeB (H' := [(3, .box [_, _, _, _, _]), (2, _), (0, _), (1, _)]) rfl rfl rfl rfl rfl rfl (.inl rfl) rfl ?_
 refine step_nil (seqK_n (sem_seq (sem_region rfl (step_r rfl rfl (by decide) (step_r rfl rfl trivial (step_r rfl rfl trivial (step_bin rfl rfl rfl rfl rfl trivial (step_r rfl rfl (by decide) ?_))))))))
 refine step_storeB (H' := [(3, .box [_, _, _, _, _]), (2, _), (0, _), (1, _)]) rfl rfl rfl rfl rfl rfl (.inl rfl) rfl ?_
 refine step_nil (seqK_n (sem_seq (sem_region rfl (step_r (v := (.agg [_, _, _, _, _])) rfl rfl (Nat.le_of_ble_eq_true rfl) ?_))))
 refine step_storeB (H' := [(3, _), (2, .box [_, _, _, _, _]), (0, _), (1, _)]) rfl rfl rfl rfl rfl rfl (.inl rfl) rfl ?_
 refine step_nil (seqK_n (sem_ret ?_))
 have e4 : hitX x_ n parts = ((⟨1, 0, (allS n parts), (IntKind.i64.wrap ((allS n parts) - ((take15 x_.content x_.Actor.Auras (allS n parts)).2))), (hurtM x_.Actor.Unit ((take15 x_.content x_.Actor.Auras (allS n parts)).2)).2⟩ : GBlow), (⟨(⟨((hurtM x_.Actor.Unit ((take15 x_.content x_.Actor.Auras (allS n parts)).2)).1), x_.Actor.Name, (take15 x_.content x_.Actor.Auras (allS n parts)).1, x_.Actor.Cools, x_.Actor.Casting⟩ : GActor), x_.content⟩ : Gactor)) := by
  unfold hitX
  try dsimp only
  all_goals rfl
 rw [e4]
 exact answersGR [] [] rfl ⟨Nat.le_of_ble_eq_true rfl, trivial⟩ rfl (by (repeat' apply And.intro) <;> first | trivial | rfl | exact flat_len (fun _ => rfl) _ | exact encI_len _ | assumption) (rfl) rfl rfl rfl (by decide) rfl rfl ⟨⟨rfl, rfl⟩, ⟨rfl, rfl⟩, trivial⟩

def cureX (x_ : Gactor) (n : Int) (parts : List Int) : GBlow × Gactor :=
  ((⟨2, 0, (allS n parts), 0, (healM x_.Actor.Unit (allS n parts)).2⟩ : GBlow), (⟨(⟨((healM x_.Actor.Unit (allS n parts)).1), x_.Actor.Name, x_.Actor.Auras, x_.Actor.Cools, x_.Actor.Casting⟩ : GActor), x_.content⟩ : Gactor))
theorem cureX_ok (x_ : Gactor) (n : Int) (parts : List Int) : Ok Try.prog 41 [.ptr 0 0, I n, .ref 1 1 0 parts.length] [.box [I x_.Actor.Unit.Id, I x_.Actor.Unit.Kind, I x_.Actor.Unit.Group, I x_.Actor.Unit.Health, I x_.Actor.Unit.MaxHealth, I x_.Actor.Unit.Power, I x_.Actor.Unit.MaxPower, I x_.Actor.Unit.At.X, I x_.Actor.Unit.At.Y, I x_.Actor.Unit.Casting, .pv (.str x_.Actor.Name), .pv (.slc x_.Actor.Auras.length false (x_.Actor.Auras.flatMap encGActive)), .pv (.slc x_.Actor.Cools.length false (x_.Actor.Cools.flatMap encGCool)), I x_.Actor.Casting.Now.Ability, I x_.Actor.Casting.Now.Target, I x_.Actor.Casting.Now.Since, I x_.Actor.Casting.Now.Until, I x_.Actor.Casting.Next.Ability, I x_.Actor.Casting.Next.Target, I x_.Actor.Casting.Next.Since, I x_.Actor.Casting.Next.Until, I x_.Actor.Casting.Wait, .pv (.slc x_.content.Abilities.length false (x_.content.Abilities.flatMap encGAbility)), .pv (.slc x_.content.Auras.length false (x_.content.Auras.flatMap encGAura)), .pv (.slc x_.content.Foes.length false (x_.content.Foes.flatMap encGFoe)), I x_.content.Map.W, I x_.content.Map.H, .pv (.slc x_.content.Map.Wall.length false (encB x_.content.Map.Wall)), I x_.content.Door.X, I x_.content.Door.Y, I x_.content.Lair.X, I x_.content.Lair.Y], .row 3 1 (encI parts)] (aGBlow (cureX x_ n parts).1) [.box [I (cureX x_ n parts).2.Actor.Unit.Id, I (cureX x_ n parts).2.Actor.Unit.Kind, I (cureX x_ n parts).2.Actor.Unit.Group, I (cureX x_ n parts).2.Actor.Unit.Health, I (cureX x_ n parts).2.Actor.Unit.MaxHealth, I (cureX x_ n parts).2.Actor.Unit.Power, I (cureX x_ n parts).2.Actor.Unit.MaxPower, I (cureX x_ n parts).2.Actor.Unit.At.X, I (cureX x_ n parts).2.Actor.Unit.At.Y, I (cureX x_ n parts).2.Actor.Unit.Casting, .pv (.str (cureX x_ n parts).2.Actor.Name), .pv (.slc (cureX x_ n parts).2.Actor.Auras.length false ((cureX x_ n parts).2.Actor.Auras.flatMap encGActive)), .pv (.slc (cureX x_ n parts).2.Actor.Cools.length false ((cureX x_ n parts).2.Actor.Cools.flatMap encGCool)), I (cureX x_ n parts).2.Actor.Casting.Now.Ability, I (cureX x_ n parts).2.Actor.Casting.Now.Target, I (cureX x_ n parts).2.Actor.Casting.Now.Since, I (cureX x_ n parts).2.Actor.Casting.Now.Until, I (cureX x_ n parts).2.Actor.Casting.Next.Ability, I (cureX x_ n parts).2.Actor.Casting.Next.Target, I (cureX x_ n parts).2.Actor.Casting.Next.Since, I (cureX x_ n parts).2.Actor.Casting.Next.Until, I (cureX x_ n parts).2.Actor.Casting.Wait, .pv (.slc (cureX x_ n parts).2.content.Abilities.length false ((cureX x_ n parts).2.content.Abilities.flatMap encGAbility)), .pv (.slc (cureX x_ n parts).2.content.Auras.length false ((cureX x_ n parts).2.content.Auras.flatMap encGAura)), .pv (.slc (cureX x_ n parts).2.content.Foes.length false ((cureX x_ n parts).2.content.Foes.flatMap encGFoe)), I (cureX x_ n parts).2.content.Map.W, I (cureX x_ n parts).2.content.Map.H, .pv (.slc (cureX x_ n parts).2.content.Map.Wall.length false (encB (cureX x_ n parts).2.content.Map.Wall)), I (cureX x_ n parts).2.content.Door.X, I (cureX x_ n parts).2.content.Door.Y, I (cureX x_ n parts).2.content.Lair.X, I (cureX x_ n parts).2.content.Lair.Y], .row 3 1 (encI parts)] [] := by
 refine ok_of_sem Try.func41 rfl ?_
 show Walks Try.prog _ _ ⟨[(0, .ptr 0 0), (1, I n), (2, .ref 1 1 0 parts.length)], [(0, .box [I x_.Actor.Unit.Id, I x_.Actor.Unit.Kind, I x_.Actor.Unit.Group, I x_.Actor.Unit.Health, I x_.Actor.Unit.MaxHealth, I x_.Actor.Unit.Power, I x_.Actor.Unit.MaxPower, I x_.Actor.Unit.At.X, I x_.Actor.Unit.At.Y, I x_.Actor.Unit.Casting, .pv (.str x_.Actor.Name), .pv (.slc x_.Actor.Auras.length false (x_.Actor.Auras.flatMap encGActive)), .pv (.slc x_.Actor.Cools.length false (x_.Actor.Cools.flatMap encGCool)), I x_.Actor.Casting.Now.Ability, I x_.Actor.Casting.Now.Target, I x_.Actor.Casting.Now.Since, I x_.Actor.Casting.Now.Until, I x_.Actor.Casting.Next.Ability, I x_.Actor.Casting.Next.Target, I x_.Actor.Casting.Next.Since, I x_.Actor.Casting.Next.Until, I x_.Actor.Casting.Wait, .pv (.slc x_.content.Abilities.length false (x_.content.Abilities.flatMap encGAbility)), .pv (.slc x_.content.Auras.length false (x_.content.Auras.flatMap encGAura)), .pv (.slc x_.content.Foes.length false (x_.content.Foes.flatMap encGFoe)), I x_.content.Map.W, I x_.content.Map.H, .pv (.slc x_.content.Map.Wall.length false (encB x_.content.Map.Wall)), I x_.content.Door.X, I x_.content.Door.Y, I x_.content.Lair.X, I x_.content.Lair.Y]), (1, .row 3 1 (encI parts))], 2, [], 29, 2⟩
 refine sem_seq (sem_region rfl (step_n (o := .box [_, _, _, _, _]) (nx' := 3) rfl rfl rfl trivial (step_nil (seqK_n (sem_seq (sem_region rfl (step_r rfl rfl trivial (step_r rfl rfl trivial ?_))))))))
 refine step_callJ (Hin := [.row _ _ _]) (H' := [(2, _), (0, _), (1, _)]) (nx' := 3) [1] rfl rfl rfl rfl rfl rfl rfl rfl rfl (by (repeat' apply And.intro) <;> first | trivial | rfl | exact flat_len (fun _ => rfl) _ | exact encI_len _ | exact Nat.le_of_ble_eq_true rfl | assumption) (allS_ok n parts false) rfl (by decide) rfl rfl trivial rfl rfl rfl rfl ?_
 refine step_r (v := (.agg [_, _, _, _, _])) rfl rfl trivial (step_n (o := .box [_, _, _, _, _]) (nx' := 4) rfl rfl rfl trivial ?_)
 refine step_storeB (H' := [(3, .box [_, _, _, _, _]), (2, _), (0, _), (1, _)]) rfl rfl rfl rfl rfl rfl (.inl rfl) rfl ?_
 refine step_nil (seqK_n (sem_seq ?_))
 refine sem_drawnE [(15, 11)] rfl (by decide +kernel) (by decide +kernel) rfl ?_
 refine step_r rfl rfl trivial (step_r rfl rfl trivial (step_r rfl rfl trivial (step_r rfl rfl (by decide) (step_r rfl rfl (by decide) (step_r (v := (.agg [_, _, _, _, _, _, _, _, _, _])) rfl rfl (Nat.le_of_ble_eq_true rfl) (step_r rfl rfl (by decide) (step_r rfl rfl trivial (step_call rfl rfl rfl rfl (heal_ok x_.Actor.Unit (allS n parts)) rfl rfl rfl (step_r rfl rfl trivial (step_r rfl rfl trivial (step_r rfl rfl trivial ?_)))))))))))
 refine step_r rfl rfl trivial (step_r rfl rfl (by decide) (step_r rfl rfl (by decide) ?_))
 refine step_storeB (H' := [(3, _), (2, _), (0, .box [_, _, _, _, _, _, _, _, _, _, _, _, _, _, _, _, _, _, _, _, _, _, _, _, _, _, _, _, _, _, _, _]), (1, _)]) rfl rfl rfl rfl rfl rfl (.inr (by decide +kernel)) rfl ?_
 refine step_r rfl rfl (by decide) ?_
 refine step_storeB (H' := [(3, .box [_, _, _, _, _]), (2, _), (0, _), (1, _)]) rfl rfl rfl rfl rfl rfl (.inr (by decide +kernel)) rfl ?_
 refine step_nil (seqK_n (sem_seq (sem_region rfl (step_r (v := (.agg [_, _, _, _, _])) rfl rfl (Nat.le_of_ble_eq_true rfl) ?_))))
 refine step_storeB (H' := [(3, _), (2, .box [_, _, _, _, _]), (0, _), (1, _)]) rfl rfl rfl rfl rfl rfl (.inl rfl) rfl ?_
 refine step_nil (seqK_n (sem_ret ?_))
 have e2 : cureX x_ n parts = ((⟨2, 0, (allS n parts), 0, (healM x_.Actor.Unit (allS n parts)).2⟩ : GBlow), (⟨(⟨((healM x_.Actor.Unit (allS n parts)).1), x_.Actor.Name, x_.Actor.Auras, x_.Actor.Cools, x_.Actor.Casting⟩ : GActor), x_.content⟩ : Gactor)) := by
  unfold cureX
  try dsimp only
  all_goals rfl
 rw [e2]
 exact answersGR [] [] rfl ⟨Nat.le_of_ble_eq_true rfl, trivial⟩ rfl (by (repeat' apply And.intro) <;> first | trivial | rfl | exact flat_len (fun _ => rfl) _ | exact encI_len _ | assumption) (rfl) rfl rfl rfl (by decide) rfl rfl ⟨⟨rfl, rfl⟩, ⟨rfl, rfl⟩, trivial⟩

def cureN (x_ : Gactor) (n : Int) (parts : List Int) : GBlow × Gactor :=
  ((⟨2, 0, (allS n parts), 0, (healM x_.Actor.Unit (allS n parts)).2⟩ : GBlow), (⟨(⟨((healM x_.Actor.Unit (allS n parts)).1), x_.Actor.Name, x_.Actor.Auras, x_.Actor.Cools, x_.Actor.Casting⟩ : GActor), x_.content⟩ : Gactor))
theorem cureN_ok (x_ : Gactor) (n : Int) (parts : List Int) (parts_f : Bool) : Ok Try.prog 41 [.ptr 0 0, I n, .pv (.slc parts.length parts_f (encI parts))] [.box [I x_.Actor.Unit.Id, I x_.Actor.Unit.Kind, I x_.Actor.Unit.Group, I x_.Actor.Unit.Health, I x_.Actor.Unit.MaxHealth, I x_.Actor.Unit.Power, I x_.Actor.Unit.MaxPower, I x_.Actor.Unit.At.X, I x_.Actor.Unit.At.Y, I x_.Actor.Unit.Casting, .pv (.str x_.Actor.Name), .pv (.slc x_.Actor.Auras.length false (x_.Actor.Auras.flatMap encGActive)), .pv (.slc x_.Actor.Cools.length false (x_.Actor.Cools.flatMap encGCool)), I x_.Actor.Casting.Now.Ability, I x_.Actor.Casting.Now.Target, I x_.Actor.Casting.Now.Since, I x_.Actor.Casting.Now.Until, I x_.Actor.Casting.Next.Ability, I x_.Actor.Casting.Next.Target, I x_.Actor.Casting.Next.Since, I x_.Actor.Casting.Next.Until, I x_.Actor.Casting.Wait, .pv (.slc x_.content.Abilities.length false (x_.content.Abilities.flatMap encGAbility)), .pv (.slc x_.content.Auras.length false (x_.content.Auras.flatMap encGAura)), .pv (.slc x_.content.Foes.length false (x_.content.Foes.flatMap encGFoe)), I x_.content.Map.W, I x_.content.Map.H, .pv (.slc x_.content.Map.Wall.length false (encB x_.content.Map.Wall)), I x_.content.Door.X, I x_.content.Door.Y, I x_.content.Lair.X, I x_.content.Lair.Y]] (aGBlow (cureN x_ n parts).1) [.box [I (cureN x_ n parts).2.Actor.Unit.Id, I (cureN x_ n parts).2.Actor.Unit.Kind, I (cureN x_ n parts).2.Actor.Unit.Group, I (cureN x_ n parts).2.Actor.Unit.Health, I (cureN x_ n parts).2.Actor.Unit.MaxHealth, I (cureN x_ n parts).2.Actor.Unit.Power, I (cureN x_ n parts).2.Actor.Unit.MaxPower, I (cureN x_ n parts).2.Actor.Unit.At.X, I (cureN x_ n parts).2.Actor.Unit.At.Y, I (cureN x_ n parts).2.Actor.Unit.Casting, .pv (.str (cureN x_ n parts).2.Actor.Name), .pv (.slc (cureN x_ n parts).2.Actor.Auras.length false ((cureN x_ n parts).2.Actor.Auras.flatMap encGActive)), .pv (.slc (cureN x_ n parts).2.Actor.Cools.length false ((cureN x_ n parts).2.Actor.Cools.flatMap encGCool)), I (cureN x_ n parts).2.Actor.Casting.Now.Ability, I (cureN x_ n parts).2.Actor.Casting.Now.Target, I (cureN x_ n parts).2.Actor.Casting.Now.Since, I (cureN x_ n parts).2.Actor.Casting.Now.Until, I (cureN x_ n parts).2.Actor.Casting.Next.Ability, I (cureN x_ n parts).2.Actor.Casting.Next.Target, I (cureN x_ n parts).2.Actor.Casting.Next.Since, I (cureN x_ n parts).2.Actor.Casting.Next.Until, I (cureN x_ n parts).2.Actor.Casting.Wait, .pv (.slc (cureN x_ n parts).2.content.Abilities.length false ((cureN x_ n parts).2.content.Abilities.flatMap encGAbility)), .pv (.slc (cureN x_ n parts).2.content.Auras.length false ((cureN x_ n parts).2.content.Auras.flatMap encGAura)), .pv (.slc (cureN x_ n parts).2.content.Foes.length false ((cureN x_ n parts).2.content.Foes.flatMap encGFoe)), I (cureN x_ n parts).2.content.Map.W, I (cureN x_ n parts).2.content.Map.H, .pv (.slc (cureN x_ n parts).2.content.Map.Wall.length false (encB (cureN x_ n parts).2.content.Map.Wall)), I (cureN x_ n parts).2.content.Door.X, I (cureN x_ n parts).2.content.Door.Y, I (cureN x_ n parts).2.content.Lair.X, I (cureN x_ n parts).2.content.Lair.Y]] [] := by
 refine Ok.len fun hlen => ?_
 have hl_parts : parts.length ≤ maxLen := hlen _ (by simp [lensL, lens, lensP])
 unfold maxLen at hl_parts
 refine ok_of_sem Try.func41 rfl ?_
 show Walks Try.prog _ _ ⟨[(0, .ptr 0 0), (1, I n), (2, .pv (.slc parts.length parts_f (encI parts)))], [(0, .box [I x_.Actor.Unit.Id, I x_.Actor.Unit.Kind, I x_.Actor.Unit.Group, I x_.Actor.Unit.Health, I x_.Actor.Unit.MaxHealth, I x_.Actor.Unit.Power, I x_.Actor.Unit.MaxPower, I x_.Actor.Unit.At.X, I x_.Actor.Unit.At.Y, I x_.Actor.Unit.Casting, .pv (.str x_.Actor.Name), .pv (.slc x_.Actor.Auras.length false (x_.Actor.Auras.flatMap encGActive)), .pv (.slc x_.Actor.Cools.length false (x_.Actor.Cools.flatMap encGCool)), I x_.Actor.Casting.Now.Ability, I x_.Actor.Casting.Now.Target, I x_.Actor.Casting.Now.Since, I x_.Actor.Casting.Now.Until, I x_.Actor.Casting.Next.Ability, I x_.Actor.Casting.Next.Target, I x_.Actor.Casting.Next.Since, I x_.Actor.Casting.Next.Until, I x_.Actor.Casting.Wait, .pv (.slc x_.content.Abilities.length false (x_.content.Abilities.flatMap encGAbility)), .pv (.slc x_.content.Auras.length false (x_.content.Auras.flatMap encGAura)), .pv (.slc x_.content.Foes.length false (x_.content.Foes.flatMap encGFoe)), I x_.content.Map.W, I x_.content.Map.H, .pv (.slc x_.content.Map.Wall.length false (encB x_.content.Map.Wall)), I x_.content.Door.X, I x_.content.Door.Y, I x_.content.Lair.X, I x_.content.Lair.Y])], 1, [], 29, 1⟩
 refine sem_seq (sem_region rfl (step_n (o := .box [_, _, _, _, _]) (nx' := 2) rfl rfl rfl trivial (step_nil (seqK_n (sem_seq (sem_region rfl (step_r rfl rfl trivial (step_r rfl rfl trivial (step_call rfl rfl rfl rfl (allS_ok n parts parts_f) rfl rfl rfl (step_r (v := (.agg [_, _, _, _, _])) rfl rfl trivial (step_n (o := .box [_, _, _, _, _]) (nx' := 3) rfl rfl rfl trivial ?_)))))))))))
 refine step_storeB (H' := [(2, .box [_, _, _, _, _]), (1, _), (0, _)]) rfl rfl rfl rfl rfl rfl (.inl rfl) rfl ?_
 refine step_nil (seqK_n (sem_seq ?_))
 refine sem_drawnE [(15, 11)] rfl (by decide +kernel) (by decide +kernel) rfl ?_
 refine step_r rfl rfl trivial (step_r rfl rfl trivial (step_r rfl rfl trivial (step_r rfl rfl (by decide) (step_r rfl rfl (by decide) (step_r (v := (.agg [_, _, _, _, _, _, _, _, _, _])) rfl rfl (Nat.le_of_ble_eq_true rfl) (step_r rfl rfl (by decide) (step_r rfl rfl trivial (step_call rfl rfl rfl rfl (heal_ok x_.Actor.Unit (allS n parts)) rfl rfl rfl (step_r rfl rfl trivial (step_r rfl rfl trivial (step_r rfl rfl trivial ?_)))))))))))
 refine step_r rfl rfl trivial (step_r rfl rfl (by decide) (step_r rfl rfl (by decide) ?_))
 refine step_storeB (H' := [(2, _), (1, _), (0, .box [_, _, _, _, _, _, _, _, _, _, _, _, _, _, _, _, _, _, _, _, _, _, _, _, _, _, _, _, _, _, _, _])]) rfl rfl rfl rfl rfl rfl (.inr (by decide +kernel)) rfl ?_
 refine step_r rfl rfl (by decide) ?_
 refine step_storeB (H' := [(2, .box [_, _, _, _, _]), (1, _), (0, _)]) rfl rfl rfl rfl rfl rfl (.inr (by decide +kernel)) rfl ?_
 refine step_nil (seqK_n (sem_seq (sem_region rfl (step_r (v := (.agg [_, _, _, _, _])) rfl rfl (Nat.le_of_ble_eq_true rfl) ?_))))
 refine step_storeB (H' := [(2, _), (1, .box [_, _, _, _, _]), (0, _)]) rfl rfl rfl rfl rfl rfl (.inl rfl) rfl ?_
 refine step_nil (seqK_n (sem_ret ?_))
 have e2 : cureN x_ n parts = ((⟨2, 0, (allS n parts), 0, (healM x_.Actor.Unit (allS n parts)).2⟩ : GBlow), (⟨(⟨((healM x_.Actor.Unit (allS n parts)).1), x_.Actor.Name, x_.Actor.Auras, x_.Actor.Cools, x_.Actor.Casting⟩ : GActor), x_.content⟩ : Gactor)) := by
  unfold cureN
  try dsimp only
  all_goals rfl
 rw [e2]
 exact answersGR [] [] rfl ⟨Nat.le_of_ble_eq_true rfl, trivial⟩ rfl (by (repeat' apply And.intro) <;> first | trivial | rfl | exact flat_len (fun _ => rfl) _ | exact encI_len _ | assumption) (rfl) rfl rfl rfl (by decide) rfl rfl ⟨⟨rfl, rfl⟩, trivial⟩

structure Gdoer where
  (Actor : GActor)
  (now : Int)
  deriving DecidableEq, Inhabited
def encGdoer (x : Gdoer) : List PV := [i64 x.Actor.Unit.Id, i64 x.Actor.Unit.Kind, i64 x.Actor.Unit.Group, i64 x.Actor.Unit.Health, i64 x.Actor.Unit.MaxHealth, i64 x.Actor.Unit.Power, i64 x.Actor.Unit.MaxPower, i64 x.Actor.Unit.At.X, i64 x.Actor.Unit.At.Y, i64 x.Actor.Unit.Casting, .str x.Actor.Name, .slc x.Actor.Auras.length false (x.Actor.Auras.flatMap encGActive), .slc x.Actor.Cools.length false (x.Actor.Cools.flatMap encGCool), i64 x.Actor.Casting.Now.Ability, i64 x.Actor.Casting.Now.Target, i64 x.Actor.Casting.Now.Since, i64 x.Actor.Casting.Now.Until, i64 x.Actor.Casting.Next.Ability, i64 x.Actor.Casting.Next.Target, i64 x.Actor.Casting.Next.Since, i64 x.Actor.Casting.Next.Until, i64 x.Actor.Casting.Wait, i64 x.now]
abbrev aGdoer (x : Gdoer) : AV := .agg [I x.Actor.Unit.Id, I x.Actor.Unit.Kind, I x.Actor.Unit.Group, I x.Actor.Unit.Health, I x.Actor.Unit.MaxHealth, I x.Actor.Unit.Power, I x.Actor.Unit.MaxPower, I x.Actor.Unit.At.X, I x.Actor.Unit.At.Y, I x.Actor.Unit.Casting, .pv (.str x.Actor.Name), .pv (.slc x.Actor.Auras.length false (x.Actor.Auras.flatMap encGActive)), .pv (.slc x.Actor.Cools.length false (x.Actor.Cools.flatMap encGCool)), I x.Actor.Casting.Now.Ability, I x.Actor.Casting.Now.Target, I x.Actor.Casting.Now.Since, I x.Actor.Casting.Now.Until, I x.Actor.Casting.Next.Ability, I x.Actor.Casting.Next.Target, I x.Actor.Casting.Next.Since, I x.Actor.Casting.Next.Until, I x.Actor.Casting.Wait, I x.now]
def wfGdoer (x : Gdoer) : Prop := (wfGActor x.Actor) ∧ (InR x.now)

def hurtD (d : Gdoer) (x_ : Gactor) (e : GEffect) : GBlow × Gactor :=
  (((hitX x_ e.Amount ([(sum15 x_.content d.Actor.Auras 3), (sumX x_ 4)])).1), (hitX x_ e.Amount ([(sum15 x_.content d.Actor.Auras 3), (sumX x_ 4)])).2)
theorem hurtD_ok (d : Gdoer) (x_ : Gactor) (e : GEffect) (hx : x_.Actor.Auras.length ≤ 1000) : Ok Try.prog 31 [aGdoer d, .ptr 0 0, aGEffect e] [.box [I x_.Actor.Unit.Id, I x_.Actor.Unit.Kind, I x_.Actor.Unit.Group, I x_.Actor.Unit.Health, I x_.Actor.Unit.MaxHealth, I x_.Actor.Unit.Power, I x_.Actor.Unit.MaxPower, I x_.Actor.Unit.At.X, I x_.Actor.Unit.At.Y, I x_.Actor.Unit.Casting, .pv (.str x_.Actor.Name), .pv (.slc x_.Actor.Auras.length false (x_.Actor.Auras.flatMap encGActive)), .pv (.slc x_.Actor.Cools.length false (x_.Actor.Cools.flatMap encGCool)), I x_.Actor.Casting.Now.Ability, I x_.Actor.Casting.Now.Target, I x_.Actor.Casting.Now.Since, I x_.Actor.Casting.Now.Until, I x_.Actor.Casting.Next.Ability, I x_.Actor.Casting.Next.Target, I x_.Actor.Casting.Next.Since, I x_.Actor.Casting.Next.Until, I x_.Actor.Casting.Wait, .pv (.slc x_.content.Abilities.length false (x_.content.Abilities.flatMap encGAbility)), .pv (.slc x_.content.Auras.length false (x_.content.Auras.flatMap encGAura)), .pv (.slc x_.content.Foes.length false (x_.content.Foes.flatMap encGFoe)), I x_.content.Map.W, I x_.content.Map.H, .pv (.slc x_.content.Map.Wall.length false (encB x_.content.Map.Wall)), I x_.content.Door.X, I x_.content.Door.Y, I x_.content.Lair.X, I x_.content.Lair.Y]] (aGBlow (hurtD d x_ e).1) [.box [I (hurtD d x_ e).2.Actor.Unit.Id, I (hurtD d x_ e).2.Actor.Unit.Kind, I (hurtD d x_ e).2.Actor.Unit.Group, I (hurtD d x_ e).2.Actor.Unit.Health, I (hurtD d x_ e).2.Actor.Unit.MaxHealth, I (hurtD d x_ e).2.Actor.Unit.Power, I (hurtD d x_ e).2.Actor.Unit.MaxPower, I (hurtD d x_ e).2.Actor.Unit.At.X, I (hurtD d x_ e).2.Actor.Unit.At.Y, I (hurtD d x_ e).2.Actor.Unit.Casting, .pv (.str (hurtD d x_ e).2.Actor.Name), .pv (.slc (hurtD d x_ e).2.Actor.Auras.length false ((hurtD d x_ e).2.Actor.Auras.flatMap encGActive)), .pv (.slc (hurtD d x_ e).2.Actor.Cools.length false ((hurtD d x_ e).2.Actor.Cools.flatMap encGCool)), I (hurtD d x_ e).2.Actor.Casting.Now.Ability, I (hurtD d x_ e).2.Actor.Casting.Now.Target, I (hurtD d x_ e).2.Actor.Casting.Now.Since, I (hurtD d x_ e).2.Actor.Casting.Now.Until, I (hurtD d x_ e).2.Actor.Casting.Next.Ability, I (hurtD d x_ e).2.Actor.Casting.Next.Target, I (hurtD d x_ e).2.Actor.Casting.Next.Since, I (hurtD d x_ e).2.Actor.Casting.Next.Until, I (hurtD d x_ e).2.Actor.Casting.Wait, .pv (.slc (hurtD d x_ e).2.content.Abilities.length false ((hurtD d x_ e).2.content.Abilities.flatMap encGAbility)), .pv (.slc (hurtD d x_ e).2.content.Auras.length false ((hurtD d x_ e).2.content.Auras.flatMap encGAura)), .pv (.slc (hurtD d x_ e).2.content.Foes.length false ((hurtD d x_ e).2.content.Foes.flatMap encGFoe)), I (hurtD d x_ e).2.content.Map.W, I (hurtD d x_ e).2.content.Map.H, .pv (.slc (hurtD d x_ e).2.content.Map.Wall.length false (encB (hurtD d x_ e).2.content.Map.Wall)), I (hurtD d x_ e).2.content.Door.X, I (hurtD d x_ e).2.content.Door.Y, I (hurtD d x_ e).2.content.Lair.X, I (hurtD d x_ e).2.content.Lair.Y]] [] := by
 refine Ok.len fun hlen => ?_
 have hl_d_Actor_Auras : d.Actor.Auras.length ≤ maxLen := hlen _ (by simp [lensL, lens, lensP])
 have hl_d_Actor_Cools : d.Actor.Cools.length ≤ maxLen := hlen _ (by simp [lensL, lens, lensP])
 unfold maxLen at hl_d_Actor_Auras hl_d_Actor_Cools
 refine ok_of_sem Try.func31 rfl ?_
 show Walks Try.prog _ _ ⟨[(0, aGdoer d), (1, .ptr 0 0), (2, aGEffect e)], [(0, .box [I x_.Actor.Unit.Id, I x_.Actor.Unit.Kind, I x_.Actor.Unit.Group, I x_.Actor.Unit.Health, I x_.Actor.Unit.MaxHealth, I x_.Actor.Unit.Power, I x_.Actor.Unit.MaxPower, I x_.Actor.Unit.At.X, I x_.Actor.Unit.At.Y, I x_.Actor.Unit.Casting, .pv (.str x_.Actor.Name), .pv (.slc x_.Actor.Auras.length false (x_.Actor.Auras.flatMap encGActive)), .pv (.slc x_.Actor.Cools.length false (x_.Actor.Cools.flatMap encGCool)), I x_.Actor.Casting.Now.Ability, I x_.Actor.Casting.Now.Target, I x_.Actor.Casting.Now.Since, I x_.Actor.Casting.Now.Until, I x_.Actor.Casting.Next.Ability, I x_.Actor.Casting.Next.Target, I x_.Actor.Casting.Next.Since, I x_.Actor.Casting.Next.Until, I x_.Actor.Casting.Wait, .pv (.slc x_.content.Abilities.length false (x_.content.Abilities.flatMap encGAbility)), .pv (.slc x_.content.Auras.length false (x_.content.Auras.flatMap encGAura)), .pv (.slc x_.content.Foes.length false (x_.content.Foes.flatMap encGFoe)), I x_.content.Map.W, I x_.content.Map.H, .pv (.slc x_.content.Map.Wall.length false (encB x_.content.Map.Wall)), I x_.content.Door.X, I x_.content.Door.Y, I x_.content.Lair.X, I x_.content.Lair.Y])], 1, [], 22, 1⟩
 refine sem_seq (sem_region rfl (step_n (o := .box [_, _, _, _, _, _, _, _, _, _, _, _, _, _, _, _, _, _, _, _, _, _, _]) (nx' := 2) rfl rfl rfl trivial (step_n (o := .box [_, _, _]) (nx' := 3) rfl rfl rfl trivial (step_n (o := .box [_, _, _, _, _]) (nx' := 4) rfl rfl rfl trivial (step_nil (seqK_n (sem_seq ?_)))))))
 refine sem_drawn rfl (by decide +kernel) rfl ?_
 refine step_r rfl rfl trivial (step_r rfl rfl (by decide) (step_r rfl rfl trivial (step_r rfl rfl trivial (step_r rfl rfl trivial (step_r rfl rfl (by decide) (step_r (v := (.agg [_, _, _, _, _, _, _, _, _, _])) rfl rfl (Nat.le_of_ble_eq_true rfl) (step_r rfl rfl (by decide) (step_r rfl rfl (by decide) (step_r rfl rfl trivial (step_call rfl rfl rfl rfl (sum15_ok x_.content d.Actor.Auras false 3) rfl rfl rfl (step_r rfl rfl trivial ?_)))))))))))
 refine step_callJ (Hin := [.box [.pv _, .pv _, .pv _, .pv _, .pv _, .pv _, .pv _, .pv _, .pv _, .pv _, .pv _, .pv _, .pv _, .pv _, .pv _, .pv _, .pv _, .pv _, .pv _, .pv _, .pv _, .pv _, .pv _, .pv _, .pv _, .pv _, .pv _, .pv _, .pv _, .pv _, .pv _, .pv _]]) (H' := [(3, _), (2, _), (1, _), (0, _)]) (nx' := 4) [0] rfl rfl rfl rfl rfl rfl rfl rfl rfl (by (repeat' apply And.intro) <;> first | trivial | rfl | exact flat_len (fun _ => rfl) _ | exact encI_len _ | exact Nat.le_of_ble_eq_true rfl | assumption) (sumX_ok x_ 4) rfl (by decide) rfl rfl trivial rfl rfl rfl rfl ?_
 refine step_n (o := .row _ _ [_, _]) (nx' := 5) rfl rfl rfl (by decide) ?_
 refine step_callM (Hin := [.box [.pv _, .pv _, .pv _, .pv _, .pv _, .pv _, .pv _, .pv _, .pv _, .pv _, .pv _, .pv _, .pv _, .pv _, .pv _, .pv _, .pv _, .pv _, .pv _, .pv _, .pv _, .pv _, .pv _, .pv _, .pv _, .pv _, .pv _, .pv _, .pv _, .pv _, .pv _, .pv _], .row _ _ _]) (H' := [(4, .row _ _ _), (3, .box [_, _, _, _, _]), (2, .box [_, _, _]), (1, .box [_, _, _, _, _, _, _, _, _, _, _, _, _, _, _, _, _, _, _, _, _, _, _]), (0, .box [_, _, _, _, _, _, _, _, _, _, _, _, _, _, _, _, _, _, _, _, _, _, _, _, _, _, _, _, _, _, _, _])]) (nx' := 5) [0, 4] rfl rfl rfl rfl (.inr (by decide +kernel)) rfl rfl rfl rfl (hitX_ok x_ e.Amount ([(sum15 x_.content d.Actor.Auras 3), (sumX x_ 4)]) (by first | assumption | omega)) rfl (by decide) rfl rfl rfl rfl rfl ?_
 refine step_storeB (H' := [(4, _), (3, .box [_, _, _, _, _]), (2, _), (1, _), (0, _)]) rfl rfl rfl rfl rfl rfl (.inr (by decide +kernel)) rfl ?_
 refine step_nil (seqK_n (sem_ret ?_))
 have e1 : hurtD d x_ e = (((hitX x_ e.Amount ([(sum15 x_.content d.Actor.Auras 3), (sumX x_ 4)])).1), (hitX x_ e.Amount ([(sum15 x_.content d.Actor.Auras 3), (sumX x_ 4)])).2) := by
  unfold hurtD
  try dsimp only
  all_goals rfl
 rw [e1]
 exact answersGR [] [] rfl ⟨Nat.le_of_ble_eq_true rfl, trivial⟩ rfl (by (repeat' apply And.intro) <;> first | trivial | rfl | exact flat_len (fun _ => rfl) _ | exact encI_len _ | assumption) (rfl) rfl rfl rfl (by decide) rfl rfl ⟨⟨rfl, rfl⟩, trivial⟩

def healD (d : Gdoer) (x_ : Gactor) (e : GEffect) : GBlow × Gactor :=
  (((cureX x_ e.Amount ([(sum15 x_.content d.Actor.Auras 3)])).1), (cureX x_ e.Amount ([(sum15 x_.content d.Actor.Auras 3)])).2)
theorem healD_ok (d : Gdoer) (x_ : Gactor) (e : GEffect) : Ok Try.prog 32 [aGdoer d, .ptr 0 0, aGEffect e] [.box [I x_.Actor.Unit.Id, I x_.Actor.Unit.Kind, I x_.Actor.Unit.Group, I x_.Actor.Unit.Health, I x_.Actor.Unit.MaxHealth, I x_.Actor.Unit.Power, I x_.Actor.Unit.MaxPower, I x_.Actor.Unit.At.X, I x_.Actor.Unit.At.Y, I x_.Actor.Unit.Casting, .pv (.str x_.Actor.Name), .pv (.slc x_.Actor.Auras.length false (x_.Actor.Auras.flatMap encGActive)), .pv (.slc x_.Actor.Cools.length false (x_.Actor.Cools.flatMap encGCool)), I x_.Actor.Casting.Now.Ability, I x_.Actor.Casting.Now.Target, I x_.Actor.Casting.Now.Since, I x_.Actor.Casting.Now.Until, I x_.Actor.Casting.Next.Ability, I x_.Actor.Casting.Next.Target, I x_.Actor.Casting.Next.Since, I x_.Actor.Casting.Next.Until, I x_.Actor.Casting.Wait, .pv (.slc x_.content.Abilities.length false (x_.content.Abilities.flatMap encGAbility)), .pv (.slc x_.content.Auras.length false (x_.content.Auras.flatMap encGAura)), .pv (.slc x_.content.Foes.length false (x_.content.Foes.flatMap encGFoe)), I x_.content.Map.W, I x_.content.Map.H, .pv (.slc x_.content.Map.Wall.length false (encB x_.content.Map.Wall)), I x_.content.Door.X, I x_.content.Door.Y, I x_.content.Lair.X, I x_.content.Lair.Y]] (aGBlow (healD d x_ e).1) [.box [I (healD d x_ e).2.Actor.Unit.Id, I (healD d x_ e).2.Actor.Unit.Kind, I (healD d x_ e).2.Actor.Unit.Group, I (healD d x_ e).2.Actor.Unit.Health, I (healD d x_ e).2.Actor.Unit.MaxHealth, I (healD d x_ e).2.Actor.Unit.Power, I (healD d x_ e).2.Actor.Unit.MaxPower, I (healD d x_ e).2.Actor.Unit.At.X, I (healD d x_ e).2.Actor.Unit.At.Y, I (healD d x_ e).2.Actor.Unit.Casting, .pv (.str (healD d x_ e).2.Actor.Name), .pv (.slc (healD d x_ e).2.Actor.Auras.length false ((healD d x_ e).2.Actor.Auras.flatMap encGActive)), .pv (.slc (healD d x_ e).2.Actor.Cools.length false ((healD d x_ e).2.Actor.Cools.flatMap encGCool)), I (healD d x_ e).2.Actor.Casting.Now.Ability, I (healD d x_ e).2.Actor.Casting.Now.Target, I (healD d x_ e).2.Actor.Casting.Now.Since, I (healD d x_ e).2.Actor.Casting.Now.Until, I (healD d x_ e).2.Actor.Casting.Next.Ability, I (healD d x_ e).2.Actor.Casting.Next.Target, I (healD d x_ e).2.Actor.Casting.Next.Since, I (healD d x_ e).2.Actor.Casting.Next.Until, I (healD d x_ e).2.Actor.Casting.Wait, .pv (.slc (healD d x_ e).2.content.Abilities.length false ((healD d x_ e).2.content.Abilities.flatMap encGAbility)), .pv (.slc (healD d x_ e).2.content.Auras.length false ((healD d x_ e).2.content.Auras.flatMap encGAura)), .pv (.slc (healD d x_ e).2.content.Foes.length false ((healD d x_ e).2.content.Foes.flatMap encGFoe)), I (healD d x_ e).2.content.Map.W, I (healD d x_ e).2.content.Map.H, .pv (.slc (healD d x_ e).2.content.Map.Wall.length false (encB (healD d x_ e).2.content.Map.Wall)), I (healD d x_ e).2.content.Door.X, I (healD d x_ e).2.content.Door.Y, I (healD d x_ e).2.content.Lair.X, I (healD d x_ e).2.content.Lair.Y]] [] := by
 refine Ok.len fun hlen => ?_
 have hl_d_Actor_Auras : d.Actor.Auras.length ≤ maxLen := hlen _ (by simp [lensL, lens, lensP])
 have hl_d_Actor_Cools : d.Actor.Cools.length ≤ maxLen := hlen _ (by simp [lensL, lens, lensP])
 unfold maxLen at hl_d_Actor_Auras hl_d_Actor_Cools
 refine ok_of_sem Try.func32 rfl ?_
 show Walks Try.prog _ _ ⟨[(0, aGdoer d), (1, .ptr 0 0), (2, aGEffect e)], [(0, .box [I x_.Actor.Unit.Id, I x_.Actor.Unit.Kind, I x_.Actor.Unit.Group, I x_.Actor.Unit.Health, I x_.Actor.Unit.MaxHealth, I x_.Actor.Unit.Power, I x_.Actor.Unit.MaxPower, I x_.Actor.Unit.At.X, I x_.Actor.Unit.At.Y, I x_.Actor.Unit.Casting, .pv (.str x_.Actor.Name), .pv (.slc x_.Actor.Auras.length false (x_.Actor.Auras.flatMap encGActive)), .pv (.slc x_.Actor.Cools.length false (x_.Actor.Cools.flatMap encGCool)), I x_.Actor.Casting.Now.Ability, I x_.Actor.Casting.Now.Target, I x_.Actor.Casting.Now.Since, I x_.Actor.Casting.Now.Until, I x_.Actor.Casting.Next.Ability, I x_.Actor.Casting.Next.Target, I x_.Actor.Casting.Next.Since, I x_.Actor.Casting.Next.Until, I x_.Actor.Casting.Wait, .pv (.slc x_.content.Abilities.length false (x_.content.Abilities.flatMap encGAbility)), .pv (.slc x_.content.Auras.length false (x_.content.Auras.flatMap encGAura)), .pv (.slc x_.content.Foes.length false (x_.content.Foes.flatMap encGFoe)), I x_.content.Map.W, I x_.content.Map.H, .pv (.slc x_.content.Map.Wall.length false (encB x_.content.Map.Wall)), I x_.content.Door.X, I x_.content.Door.Y, I x_.content.Lair.X, I x_.content.Lair.Y])], 1, [], 20, 1⟩
 refine sem_seq (sem_region rfl (step_n (o := .box [_, _, _, _, _, _, _, _, _, _, _, _, _, _, _, _, _, _, _, _, _, _, _]) (nx' := 2) rfl rfl rfl trivial (step_n (o := .box [_, _, _]) (nx' := 3) rfl rfl rfl trivial (step_n (o := .box [_, _, _, _, _]) (nx' := 4) rfl rfl rfl trivial (step_nil (seqK_n (sem_seq ?_)))))))
 refine sem_drawn rfl (by decide +kernel) rfl ?_
 refine step_r rfl rfl trivial (step_r rfl rfl (by decide) (step_r rfl rfl trivial (step_r rfl rfl trivial (step_r rfl rfl trivial (step_r rfl rfl (by decide) (step_r (v := (.agg [_, _, _, _, _, _, _, _, _, _])) rfl rfl (Nat.le_of_ble_eq_true rfl) (step_r rfl rfl (by decide) (step_r rfl rfl (by decide) (step_r rfl rfl trivial (step_call rfl rfl rfl rfl (sum15_ok x_.content d.Actor.Auras false 3) rfl rfl rfl (step_n (o := .row _ _ [_]) (nx' := 5) rfl rfl rfl (by decide) ?_)))))))))))
 refine step_callM (Hin := [.box [.pv _, .pv _, .pv _, .pv _, .pv _, .pv _, .pv _, .pv _, .pv _, .pv _, .pv _, .pv _, .pv _, .pv _, .pv _, .pv _, .pv _, .pv _, .pv _, .pv _, .pv _, .pv _, .pv _, .pv _, .pv _, .pv _, .pv _, .pv _, .pv _, .pv _, .pv _, .pv _], .row _ _ _]) (H' := [(4, .row _ _ _), (3, .box [_, _, _, _, _]), (2, .box [_, _, _]), (1, .box [_, _, _, _, _, _, _, _, _, _, _, _, _, _, _, _, _, _, _, _, _, _, _]), (0, .box [_, _, _, _, _, _, _, _, _, _, _, _, _, _, _, _, _, _, _, _, _, _, _, _, _, _, _, _, _, _, _, _])]) (nx' := 5) [0, 4] rfl rfl rfl rfl (.inr (by decide +kernel)) rfl rfl rfl rfl (cureX_ok x_ e.Amount ([(sum15 x_.content d.Actor.Auras 3)])) rfl (by decide) rfl rfl rfl rfl rfl ?_
 refine step_storeB (H' := [(4, _), (3, .box [_, _, _, _, _]), (2, _), (1, _), (0, _)]) rfl rfl rfl rfl rfl rfl (.inr (by decide +kernel)) rfl ?_
 refine step_nil (seqK_n (sem_ret ?_))
 have e1 : healD d x_ e = (((cureX x_ e.Amount ([(sum15 x_.content d.Actor.Auras 3)])).1), (cureX x_ e.Amount ([(sum15 x_.content d.Actor.Auras 3)])).2) := by
  unfold healD
  try dsimp only
  all_goals rfl
 rw [e1]
 exact answersGR [] [] rfl ⟨Nat.le_of_ble_eq_true rfl, trivial⟩ rfl (by (repeat' apply And.intro) <;> first | trivial | rfl | exact flat_len (fun _ => rfl) _ | exact encI_len _ | assumption) (rfl) rfl rfl rfl (by decide) rfl rfl ⟨⟨rfl, rfl⟩, trivial⟩

def powerD (d : Gdoer) (x_ : Gactor) (e : GEffect) : GBlow × Gactor :=
  ((⟨0, 0, e.Amount, 0, (gainM x_.Actor.Unit e.Amount).2⟩ : GBlow), (⟨(⟨((gainM x_.Actor.Unit e.Amount).1), x_.Actor.Name, x_.Actor.Auras, x_.Actor.Cools, x_.Actor.Casting⟩ : GActor), x_.content⟩ : Gactor))
theorem powerD_ok (d : Gdoer) (x_ : Gactor) (e : GEffect) : Ok Try.prog 33 [aGdoer d, .ptr 0 0, aGEffect e] [.box [I x_.Actor.Unit.Id, I x_.Actor.Unit.Kind, I x_.Actor.Unit.Group, I x_.Actor.Unit.Health, I x_.Actor.Unit.MaxHealth, I x_.Actor.Unit.Power, I x_.Actor.Unit.MaxPower, I x_.Actor.Unit.At.X, I x_.Actor.Unit.At.Y, I x_.Actor.Unit.Casting, .pv (.str x_.Actor.Name), .pv (.slc x_.Actor.Auras.length false (x_.Actor.Auras.flatMap encGActive)), .pv (.slc x_.Actor.Cools.length false (x_.Actor.Cools.flatMap encGCool)), I x_.Actor.Casting.Now.Ability, I x_.Actor.Casting.Now.Target, I x_.Actor.Casting.Now.Since, I x_.Actor.Casting.Now.Until, I x_.Actor.Casting.Next.Ability, I x_.Actor.Casting.Next.Target, I x_.Actor.Casting.Next.Since, I x_.Actor.Casting.Next.Until, I x_.Actor.Casting.Wait, .pv (.slc x_.content.Abilities.length false (x_.content.Abilities.flatMap encGAbility)), .pv (.slc x_.content.Auras.length false (x_.content.Auras.flatMap encGAura)), .pv (.slc x_.content.Foes.length false (x_.content.Foes.flatMap encGFoe)), I x_.content.Map.W, I x_.content.Map.H, .pv (.slc x_.content.Map.Wall.length false (encB x_.content.Map.Wall)), I x_.content.Door.X, I x_.content.Door.Y, I x_.content.Lair.X, I x_.content.Lair.Y]] (aGBlow (powerD d x_ e).1) [.box [I (powerD d x_ e).2.Actor.Unit.Id, I (powerD d x_ e).2.Actor.Unit.Kind, I (powerD d x_ e).2.Actor.Unit.Group, I (powerD d x_ e).2.Actor.Unit.Health, I (powerD d x_ e).2.Actor.Unit.MaxHealth, I (powerD d x_ e).2.Actor.Unit.Power, I (powerD d x_ e).2.Actor.Unit.MaxPower, I (powerD d x_ e).2.Actor.Unit.At.X, I (powerD d x_ e).2.Actor.Unit.At.Y, I (powerD d x_ e).2.Actor.Unit.Casting, .pv (.str (powerD d x_ e).2.Actor.Name), .pv (.slc (powerD d x_ e).2.Actor.Auras.length false ((powerD d x_ e).2.Actor.Auras.flatMap encGActive)), .pv (.slc (powerD d x_ e).2.Actor.Cools.length false ((powerD d x_ e).2.Actor.Cools.flatMap encGCool)), I (powerD d x_ e).2.Actor.Casting.Now.Ability, I (powerD d x_ e).2.Actor.Casting.Now.Target, I (powerD d x_ e).2.Actor.Casting.Now.Since, I (powerD d x_ e).2.Actor.Casting.Now.Until, I (powerD d x_ e).2.Actor.Casting.Next.Ability, I (powerD d x_ e).2.Actor.Casting.Next.Target, I (powerD d x_ e).2.Actor.Casting.Next.Since, I (powerD d x_ e).2.Actor.Casting.Next.Until, I (powerD d x_ e).2.Actor.Casting.Wait, .pv (.slc (powerD d x_ e).2.content.Abilities.length false ((powerD d x_ e).2.content.Abilities.flatMap encGAbility)), .pv (.slc (powerD d x_ e).2.content.Auras.length false ((powerD d x_ e).2.content.Auras.flatMap encGAura)), .pv (.slc (powerD d x_ e).2.content.Foes.length false ((powerD d x_ e).2.content.Foes.flatMap encGFoe)), I (powerD d x_ e).2.content.Map.W, I (powerD d x_ e).2.content.Map.H, .pv (.slc (powerD d x_ e).2.content.Map.Wall.length false (encB (powerD d x_ e).2.content.Map.Wall)), I (powerD d x_ e).2.content.Door.X, I (powerD d x_ e).2.content.Door.Y, I (powerD d x_ e).2.content.Lair.X, I (powerD d x_ e).2.content.Lair.Y]] [] := by
 refine Ok.len fun hlen => ?_
 have hl_d_Actor_Auras : d.Actor.Auras.length ≤ maxLen := hlen _ (by simp [lensL, lens, lensP])
 have hl_d_Actor_Cools : d.Actor.Cools.length ≤ maxLen := hlen _ (by simp [lensL, lens, lensP])
 unfold maxLen at hl_d_Actor_Auras hl_d_Actor_Cools
 refine ok_of_sem Try.func33 rfl ?_
 show Walks Try.prog _ _ ⟨[(0, aGdoer d), (1, .ptr 0 0), (2, aGEffect e)], [(0, .box [I x_.Actor.Unit.Id, I x_.Actor.Unit.Kind, I x_.Actor.Unit.Group, I x_.Actor.Unit.Health, I x_.Actor.Unit.MaxHealth, I x_.Actor.Unit.Power, I x_.Actor.Unit.MaxPower, I x_.Actor.Unit.At.X, I x_.Actor.Unit.At.Y, I x_.Actor.Unit.Casting, .pv (.str x_.Actor.Name), .pv (.slc x_.Actor.Auras.length false (x_.Actor.Auras.flatMap encGActive)), .pv (.slc x_.Actor.Cools.length false (x_.Actor.Cools.flatMap encGCool)), I x_.Actor.Casting.Now.Ability, I x_.Actor.Casting.Now.Target, I x_.Actor.Casting.Now.Since, I x_.Actor.Casting.Now.Until, I x_.Actor.Casting.Next.Ability, I x_.Actor.Casting.Next.Target, I x_.Actor.Casting.Next.Since, I x_.Actor.Casting.Next.Until, I x_.Actor.Casting.Wait, .pv (.slc x_.content.Abilities.length false (x_.content.Abilities.flatMap encGAbility)), .pv (.slc x_.content.Auras.length false (x_.content.Auras.flatMap encGAura)), .pv (.slc x_.content.Foes.length false (x_.content.Foes.flatMap encGFoe)), I x_.content.Map.W, I x_.content.Map.H, .pv (.slc x_.content.Map.Wall.length false (encB x_.content.Map.Wall)), I x_.content.Door.X, I x_.content.Door.Y, I x_.content.Lair.X, I x_.content.Lair.Y])], 1, [], 28, 1⟩
 refine sem_seq (sem_region rfl (step_n (o := .box [_, _, _, _, _, _, _, _, _, _, _, _, _, _, _, _, _, _, _, _, _, _, _]) (nx' := 2) rfl rfl rfl trivial (step_n (o := .box [_, _, _]) (nx' := 3) rfl rfl rfl trivial (step_n (o := .box [_, _, _, _, _]) (nx' := 4) rfl rfl rfl trivial (step_nil (seqK_n (sem_seq (sem_region rfl (step_r rfl rfl (by decide) (step_r rfl rfl trivial (step_r (v := (.agg [_, _, _, _, _])) rfl rfl trivial ?_)))))))))))
 refine step_n (o := .box [_, _, _, _, _]) (nx' := 5) rfl rfl rfl trivial ?_
 refine step_storeB (H' := [(4, .box [_, _, _, _, _]), (3, _), (2, _), (1, _), (0, _)]) rfl rfl rfl rfl rfl rfl (.inl rfl) rfl ?_
 refine step_nil (seqK_n (sem_seq ?_))
 refine sem_drawnE [(15, 11)] rfl (by decide +kernel) (by decide +kernel) rfl ?_
 refine step_r rfl rfl trivial (step_r rfl rfl trivial (step_r rfl rfl trivial (step_r rfl rfl (by decide) (step_r rfl rfl (by decide) (step_r (v := (.agg [_, _, _, _, _, _, _, _, _, _])) rfl rfl (Nat.le_of_ble_eq_true rfl) (step_r rfl rfl (by decide) (step_r rfl rfl trivial (step_call rfl rfl rfl rfl (gain_ok x_.Actor.Unit e.Amount) rfl rfl rfl (step_r rfl rfl trivial (step_r rfl rfl trivial (step_r rfl rfl trivial ?_)))))))))))
 refine step_r rfl rfl trivial (step_r rfl rfl (by decide) (step_r rfl rfl (by decide) ?_))
 refine step_storeB (H' := [(4, _), (3, _), (2, _), (1, _), (0, .box [_, _, _, _, _, _, _, _, _, _, _, _, _, _, _, _, _, _, _, _, _, _, _, _, _, _, _, _, _, _, _, _])]) rfl rfl rfl rfl rfl rfl (.inr (by decide +kernel)) rfl ?_
 refine step_r rfl rfl (by decide) ?_
 refine step_storeB (H' := [(4, .box [_, _, _, _, _]), (3, _), (2, _), (1, _), (0, _)]) rfl rfl rfl rfl rfl rfl (.inr (by decide +kernel)) rfl ?_
 refine step_nil (seqK_n (sem_seq (sem_region rfl (step_r (v := (.agg [_, _, _, _, _])) rfl rfl (Nat.le_of_ble_eq_true rfl) ?_))))
 refine step_storeB (H' := [(4, _), (3, .box [_, _, _, _, _]), (2, _), (1, _), (0, _)]) rfl rfl rfl rfl rfl rfl (.inl rfl) rfl ?_
 refine step_nil (seqK_n (sem_ret ?_))
 have e1 : powerD d x_ e = ((⟨0, 0, e.Amount, 0, (gainM x_.Actor.Unit e.Amount).2⟩ : GBlow), (⟨(⟨((gainM x_.Actor.Unit e.Amount).1), x_.Actor.Name, x_.Actor.Auras, x_.Actor.Cools, x_.Actor.Casting⟩ : GActor), x_.content⟩ : Gactor)) := by
  unfold powerD
  try dsimp only
  all_goals rfl
 rw [e1]
 exact answersGR [] [] rfl ⟨Nat.le_of_ble_eq_true rfl, trivial⟩ rfl (by (repeat' apply And.intro) <;> first | trivial | rfl | exact flat_len (fun _ => rfl) _ | exact encI_len _ | assumption) (rfl) rfl rfl rfl (by decide) rfl rfl ⟨⟨rfl, rfl⟩, trivial⟩

def layD_J14 (d : Gdoer) (x_ : Gactor) (e : GEffect) : Gactor × GBlow :=
  if ((apply15 x_.content x_.Actor.Auras e.Aura d.Actor.Unit.Id d.now).2 : Int) = 0 then ((⟨(⟨x_.Actor.Unit, x_.Actor.Name, (apply15 x_.content x_.Actor.Auras e.Aura d.Actor.Unit.Id d.now).1, x_.Actor.Cools, x_.Actor.Casting⟩ : GActor), x_.content⟩ : Gactor), (⟨0, e.Aura, 0, 0, 1⟩ : GBlow)) else (x_, (⟨0, e.Aura, 0, 0, 0⟩ : GBlow))
def layD (d : Gdoer) (x_ : Gactor) (e : GEffect) : GBlow × Gactor :=
  (match layD_J14 d x_ e with
    | (o0_14, b_14) => (b_14, o0_14))
theorem layD_ok (d : Gdoer) (x_ : Gactor) (e : GEffect) (hx : x_.Actor.Auras.length ≤ 1000) : Ok Try.prog 34 [aGdoer d, .ptr 0 0, aGEffect e] [.box [I x_.Actor.Unit.Id, I x_.Actor.Unit.Kind, I x_.Actor.Unit.Group, I x_.Actor.Unit.Health, I x_.Actor.Unit.MaxHealth, I x_.Actor.Unit.Power, I x_.Actor.Unit.MaxPower, I x_.Actor.Unit.At.X, I x_.Actor.Unit.At.Y, I x_.Actor.Unit.Casting, .pv (.str x_.Actor.Name), .pv (.slc x_.Actor.Auras.length false (x_.Actor.Auras.flatMap encGActive)), .pv (.slc x_.Actor.Cools.length false (x_.Actor.Cools.flatMap encGCool)), I x_.Actor.Casting.Now.Ability, I x_.Actor.Casting.Now.Target, I x_.Actor.Casting.Now.Since, I x_.Actor.Casting.Now.Until, I x_.Actor.Casting.Next.Ability, I x_.Actor.Casting.Next.Target, I x_.Actor.Casting.Next.Since, I x_.Actor.Casting.Next.Until, I x_.Actor.Casting.Wait, .pv (.slc x_.content.Abilities.length false (x_.content.Abilities.flatMap encGAbility)), .pv (.slc x_.content.Auras.length false (x_.content.Auras.flatMap encGAura)), .pv (.slc x_.content.Foes.length false (x_.content.Foes.flatMap encGFoe)), I x_.content.Map.W, I x_.content.Map.H, .pv (.slc x_.content.Map.Wall.length false (encB x_.content.Map.Wall)), I x_.content.Door.X, I x_.content.Door.Y, I x_.content.Lair.X, I x_.content.Lair.Y]] (aGBlow (layD d x_ e).1) [.box [I (layD d x_ e).2.Actor.Unit.Id, I (layD d x_ e).2.Actor.Unit.Kind, I (layD d x_ e).2.Actor.Unit.Group, I (layD d x_ e).2.Actor.Unit.Health, I (layD d x_ e).2.Actor.Unit.MaxHealth, I (layD d x_ e).2.Actor.Unit.Power, I (layD d x_ e).2.Actor.Unit.MaxPower, I (layD d x_ e).2.Actor.Unit.At.X, I (layD d x_ e).2.Actor.Unit.At.Y, I (layD d x_ e).2.Actor.Unit.Casting, .pv (.str (layD d x_ e).2.Actor.Name), .pv (.slc (layD d x_ e).2.Actor.Auras.length false ((layD d x_ e).2.Actor.Auras.flatMap encGActive)), .pv (.slc (layD d x_ e).2.Actor.Cools.length false ((layD d x_ e).2.Actor.Cools.flatMap encGCool)), I (layD d x_ e).2.Actor.Casting.Now.Ability, I (layD d x_ e).2.Actor.Casting.Now.Target, I (layD d x_ e).2.Actor.Casting.Now.Since, I (layD d x_ e).2.Actor.Casting.Now.Until, I (layD d x_ e).2.Actor.Casting.Next.Ability, I (layD d x_ e).2.Actor.Casting.Next.Target, I (layD d x_ e).2.Actor.Casting.Next.Since, I (layD d x_ e).2.Actor.Casting.Next.Until, I (layD d x_ e).2.Actor.Casting.Wait, .pv (.slc (layD d x_ e).2.content.Abilities.length false ((layD d x_ e).2.content.Abilities.flatMap encGAbility)), .pv (.slc (layD d x_ e).2.content.Auras.length false ((layD d x_ e).2.content.Auras.flatMap encGAura)), .pv (.slc (layD d x_ e).2.content.Foes.length false ((layD d x_ e).2.content.Foes.flatMap encGFoe)), I (layD d x_ e).2.content.Map.W, I (layD d x_ e).2.content.Map.H, .pv (.slc (layD d x_ e).2.content.Map.Wall.length false (encB (layD d x_ e).2.content.Map.Wall)), I (layD d x_ e).2.content.Door.X, I (layD d x_ e).2.content.Door.Y, I (layD d x_ e).2.content.Lair.X, I (layD d x_ e).2.content.Lair.Y]] [] := by
 refine Ok.len fun hlen => ?_
 have hl_d_Actor_Auras : d.Actor.Auras.length ≤ maxLen := hlen _ (by simp [lensL, lens, lensP])
 have hl_d_Actor_Cools : d.Actor.Cools.length ≤ maxLen := hlen _ (by simp [lensL, lens, lensP])
 unfold maxLen at hl_d_Actor_Auras hl_d_Actor_Cools
 refine ok_of_sem Try.func34 rfl ?_
 show Walks Try.prog _ _ ⟨[(0, aGdoer d), (1, .ptr 0 0), (2, aGEffect e)], [(0, .box [I x_.Actor.Unit.Id, I x_.Actor.Unit.Kind, I x_.Actor.Unit.Group, I x_.Actor.Unit.Health, I x_.Actor.Unit.MaxHealth, I x_.Actor.Unit.Power, I x_.Actor.Unit.MaxPower, I x_.Actor.Unit.At.X, I x_.Actor.Unit.At.Y, I x_.Actor.Unit.Casting, .pv (.str x_.Actor.Name), .pv (.slc x_.Actor.Auras.length false (x_.Actor.Auras.flatMap encGActive)), .pv (.slc x_.Actor.Cools.length false (x_.Actor.Cools.flatMap encGCool)), I x_.Actor.Casting.Now.Ability, I x_.Actor.Casting.Now.Target, I x_.Actor.Casting.Now.Since, I x_.Actor.Casting.Now.Until, I x_.Actor.Casting.Next.Ability, I x_.Actor.Casting.Next.Target, I x_.Actor.Casting.Next.Since, I x_.Actor.Casting.Next.Until, I x_.Actor.Casting.Wait, .pv (.slc x_.content.Abilities.length false (x_.content.Abilities.flatMap encGAbility)), .pv (.slc x_.content.Auras.length false (x_.content.Auras.flatMap encGAura)), .pv (.slc x_.content.Foes.length false (x_.content.Foes.flatMap encGFoe)), I x_.content.Map.W, I x_.content.Map.H, .pv (.slc x_.content.Map.Wall.length false (encB x_.content.Map.Wall)), I x_.content.Door.X, I x_.content.Door.Y, I x_.content.Lair.X, I x_.content.Lair.Y])], 1, [], 43, 1⟩
 refine sem_seq (sem_region rfl (step_n (o := .box [_, _, _, _, _, _, _, _, _, _, _, _, _, _, _, _, _, _, _, _, _, _, _]) (nx' := 2) rfl rfl rfl trivial (step_n (o := .box [_, _, _]) (nx' := 3) rfl rfl rfl trivial (step_n (o := .box [_, _, _, _, _]) (nx' := 4) rfl rfl rfl trivial (step_nil (seqK_n (sem_seq (sem_region rfl (step_r rfl rfl (by decide) (step_r rfl rfl trivial (step_r (v := (.agg [_, _, _, _, _])) rfl rfl trivial ?_)))))))))))
 refine step_n (o := .box [_, _, _, _, _]) (nx' := 5) rfl rfl rfl trivial ?_
 refine step_storeB (H' := [(4, .box [_, _, _, _, _]), (3, _), (2, _), (1, _), (0, _)]) rfl rfl rfl rfl rfl rfl (.inl rfl) rfl ?_
 refine step_nil (seqK_n (sem_seq ?_))
 refine sem_cutW (fun w_ : Gactor × GBlow => match w_ with | (o0_14, b_14) => (⟨[(6, .ptr 1 0), (7, .ptr 2 0)], [(0, .box [I o0_14.Actor.Unit.Id, I o0_14.Actor.Unit.Kind, I o0_14.Actor.Unit.Group, I o0_14.Actor.Unit.Health, I o0_14.Actor.Unit.MaxHealth, I o0_14.Actor.Unit.Power, I o0_14.Actor.Unit.MaxPower, I o0_14.Actor.Unit.At.X, I o0_14.Actor.Unit.At.Y, I o0_14.Actor.Unit.Casting, .pv (.str o0_14.Actor.Name), .pv (.slc o0_14.Actor.Auras.length false (o0_14.Actor.Auras.flatMap encGActive)), .pv (.slc o0_14.Actor.Cools.length false (o0_14.Actor.Cools.flatMap encGCool)), I o0_14.Actor.Casting.Now.Ability, I o0_14.Actor.Casting.Now.Target, I o0_14.Actor.Casting.Now.Since, I o0_14.Actor.Casting.Now.Until, I o0_14.Actor.Casting.Next.Ability, I o0_14.Actor.Casting.Next.Target, I o0_14.Actor.Casting.Next.Since, I o0_14.Actor.Casting.Next.Until, I o0_14.Actor.Casting.Wait, .pv (.slc o0_14.content.Abilities.length false (o0_14.content.Abilities.flatMap encGAbility)), .pv (.slc o0_14.content.Auras.length false (o0_14.content.Auras.flatMap encGAura)), .pv (.slc o0_14.content.Foes.length false (o0_14.content.Foes.flatMap encGFoe)), I o0_14.content.Map.W, I o0_14.content.Map.H, .pv (.slc o0_14.content.Map.Wall.length false (encB o0_14.content.Map.Wall)), I o0_14.content.Door.X, I o0_14.content.Door.Y, I o0_14.content.Lair.X, I o0_14.content.Lair.Y]), (1, .box [I 0, I 0, I 0, I 0, I 0]), (2, .box [I b_14.Kind, I b_14.Aura, I b_14.Amount, I b_14.Kept, I b_14.Done])], 3, [], 43, 1⟩ : St)) (fun w_ => layD_J14 d x_ e = w_) ?_ ?_
 ·refine sem_seq ?_
  refine sem_drawn rfl (by decide +kernel) rfl ?_
  refine step_r rfl rfl trivial (step_r rfl rfl trivial (step_r rfl rfl (by decide) (step_r (v := (.agg [_, _, _, _, _, _, _, _, _, _])) rfl rfl (Nat.le_of_ble_eq_true rfl) (step_r rfl rfl trivial (step_r rfl rfl trivial (step_r rfl rfl (by decide) (step_r rfl rfl (by decide) (step_r rfl rfl trivial (step_r rfl rfl (by decide) (step_r rfl rfl trivial (step_r rfl rfl (by decide) ?_)))))))))))
  refine step_r rfl rfl (by decide) (step_r rfl rfl (by decide) (step_r rfl rfl trivial (step_r rfl rfl (by decide) (step_r rfl rfl trivial ?_))))
  refine step_callN (out' := .tup [_, _]) (H' := [(4, _), (3, _), (2, _), (1, _), (0, _)]) (nx' := 5) rfl rfl rfl rfl rfl rfl rfl (by (repeat' apply And.intro) <;> first | trivial | rfl | exact flat_len (fun _ => rfl) _ | exact encI_len _ | exact Nat.le_of_ble_eq_true rfl | assumption) (Ok.frz (apply15_ok x_.content x_.Actor.Auras false e.Aura d.Actor.Unit.Id d.now (by first | assumption | omega | (simp only [List.length_nil, List.length_cons, List.length_append] at *; omega) | (simp; done) | (simp; omega))) rfl rfl (by (repeat' apply And.intro) <;> first | trivial | rfl | exact flat_len (s := 6) (enc := encGActive) (fun _ => rfl) _ | exact flat_len (fun _ => rfl) _ | exact encI_len _ | exact Nat.le_of_ble_eq_true rfl | assumption)) rfl rfl rfl rfl ?_
  have p2 := apply15_len x_.content x_.Actor.Auras e.Aura d.Actor.Unit.Id d.now
  refine step_r rfl rfl trivial (step_r rfl rfl trivial (step_r rfl rfl trivial (step_r rfl rfl trivial (step_r rfl rfl trivial (step_nil (seqK_n (sem_seq (sem_region rfl (step_r rfl rfl trivial (step_bin rfl rfl rfl rfl rfl trivial (step_nil ?_)))))))))))
  refine seqK_n ?_
  refine sem_cond rfl (fun h4 => ?_) (fun h4 => ?_)
  ·have g4 : ((apply15 x_.content x_.Actor.Auras e.Aura d.Actor.Unit.Id d.now).2 : Int) = 0 := beq_t h4
   refine sem_region rfl (step_r rfl rfl trivial (step_r rfl rfl trivial (step_r rfl rfl trivial (step_r rfl rfl (by decide) (step_r rfl rfl (by decide) ?_)))))
   refine step_storeB (H' := [(4, _), (3, _), (2, _), (1, _), (0, .box [_, _, _, _, _, _, _, _, _, _, _, _, _, _, _, _, _, _, _, _, _, _, _, _, _, _, _, _, _, _, _, _])]) rfl rfl rfl rfl rfl rfl (.inl rfl) rfl ?_
   refine step_r rfl rfl (by decide) ?_
   refine step_storeB (H' := [(4, .box [_, _, _, _, _]), (3, _), (2, _), (1, _), (0, _)]) rfl rfl rfl rfl rfl rfl (.inl rfl) rfl ?_
   refine step_nil ?_
   have e5 : layD_J14 d x_ e = ((⟨(⟨x_.Actor.Unit, x_.Actor.Name, (apply15 x_.content x_.Actor.Auras e.Aura d.Actor.Unit.Id d.now).1, x_.Actor.Cools, x_.Actor.Casting⟩ : GActor), x_.content⟩ : Gactor), (⟨0, e.Aura, 0, 0, 1⟩ : GBlow)) := by
    unfold layD_J14
    try dsimp only
    rewrite [if_pos g4]
    all_goals rfl
   exact cutW_n ((⟨(⟨x_.Actor.Unit, x_.Actor.Name, (apply15 x_.content x_.Actor.Auras e.Aura d.Actor.Unit.Id d.now).1, x_.Actor.Cools, x_.Actor.Casting⟩ : GActor), x_.content⟩ : Gactor), (⟨0, e.Aura, 0, 0, 1⟩ : GBlow)) e5 (Trans.ren [(1, 3), (2, 4), (3, 1), (4, 2)] (by decide +kernel) (by decide +kernel) rfl ⟨⟨rfl, rfl⟩, ⟨rfl, rfl⟩, trivial⟩ ⟨⟨rfl, rfl, rfl⟩, ⟨rfl, rfl, rfl⟩, ⟨rfl, rfl, rfl⟩, trivial⟩ (by decide))
  ·have g4 : ¬ (((apply15 x_.content x_.Actor.Auras e.Aura d.Actor.Unit.Id d.now).2 : Int) = 0) := beq_f h4
   refine sem_skip ?_
   have e6 : layD_J14 d x_ e = (x_, (⟨0, e.Aura, 0, 0, 0⟩ : GBlow)) := by
    unfold layD_J14
    try dsimp only
    rewrite [if_neg g4]
    all_goals rfl
   exact cutW_n (x_, (⟨0, e.Aura, 0, 0, 0⟩ : GBlow)) e6 (Trans.ren [(1, 3), (2, 4), (3, 1), (4, 2)] (by decide +kernel) (by decide +kernel) rfl ⟨⟨rfl, rfl⟩, ⟨rfl, rfl⟩, trivial⟩ ⟨⟨rfl, rfl, rfl⟩, ⟨rfl, rfl, rfl⟩, ⟨rfl, rfl, rfl⟩, trivial⟩ (by decide))
 ·rintro ⟨o0_14, b_14⟩ (hJ1 : layD_J14 d x_ e = (o0_14, b_14))
  show seqK _ _ _ .normal (⟨[(6, .ptr 1 0), (7, .ptr 2 0)], [(0, .box [I o0_14.Actor.Unit.Id, I o0_14.Actor.Unit.Kind, I o0_14.Actor.Unit.Group, I o0_14.Actor.Unit.Health, I o0_14.Actor.Unit.MaxHealth, I o0_14.Actor.Unit.Power, I o0_14.Actor.Unit.MaxPower, I o0_14.Actor.Unit.At.X, I o0_14.Actor.Unit.At.Y, I o0_14.Actor.Unit.Casting, .pv (.str o0_14.Actor.Name), .pv (.slc o0_14.Actor.Auras.length false (o0_14.Actor.Auras.flatMap encGActive)), .pv (.slc o0_14.Actor.Cools.length false (o0_14.Actor.Cools.flatMap encGCool)), I o0_14.Actor.Casting.Now.Ability, I o0_14.Actor.Casting.Now.Target, I o0_14.Actor.Casting.Now.Since, I o0_14.Actor.Casting.Now.Until, I o0_14.Actor.Casting.Next.Ability, I o0_14.Actor.Casting.Next.Target, I o0_14.Actor.Casting.Next.Since, I o0_14.Actor.Casting.Next.Until, I o0_14.Actor.Casting.Wait, .pv (.slc o0_14.content.Abilities.length false (o0_14.content.Abilities.flatMap encGAbility)), .pv (.slc o0_14.content.Auras.length false (o0_14.content.Auras.flatMap encGAura)), .pv (.slc o0_14.content.Foes.length false (o0_14.content.Foes.flatMap encGFoe)), I o0_14.content.Map.W, I o0_14.content.Map.H, .pv (.slc o0_14.content.Map.Wall.length false (encB o0_14.content.Map.Wall)), I o0_14.content.Door.X, I o0_14.content.Door.Y, I o0_14.content.Lair.X, I o0_14.content.Lair.Y]), (1, .box [I 0, I 0, I 0, I 0, I 0]), (2, .box [I b_14.Kind, I b_14.Aura, I b_14.Amount, I b_14.Kept, I b_14.Done])], 3, [], 43, 1⟩ : St)
  refine seqK_n (sem_seq (sem_region rfl (step_r (v := (.agg [_, _, _, _, _])) rfl rfl (Nat.le_of_ble_eq_true rfl) ?_)))
  refine step_storeB (H' := [(0, _), (1, .box [_, _, _, _, _]), (2, _)]) rfl rfl rfl rfl rfl rfl (.inl rfl) rfl ?_
  refine step_nil (seqK_n (sem_ret ?_))
  have e7 : layD d x_ e = (b_14, o0_14) := by
   unfold layD
   try dsimp only
   rewrite [hJ1]
   try dsimp only
   all_goals rfl
  rw [e7]
  exact answersGR [] [] rfl ⟨Nat.le_of_ble_eq_true rfl, trivial⟩ rfl (by (repeat' apply And.intro) <;> first | trivial | rfl | exact flat_len (fun _ => rfl) _ | exact encI_len _ | assumption) (rfl) rfl rfl rfl (by decide) rfl rfl ⟨⟨rfl, rfl⟩, trivial⟩

def dispelD (d : Gdoer) (x_ : Gactor) (e : GEffect) : GBlow × Gactor :=
  ((⟨0, 0, e.Amount, 0, ((dispel15 x_.content x_.Actor.Auras e.Amount).2.length : Int)⟩ : GBlow), (⟨(⟨x_.Actor.Unit, x_.Actor.Name, (dispel15 x_.content x_.Actor.Auras e.Amount).1, x_.Actor.Cools, x_.Actor.Casting⟩ : GActor), x_.content⟩ : Gactor))
theorem dispelD_ok (d : Gdoer) (x_ : Gactor) (e : GEffect) (hx : x_.Actor.Auras.length ≤ 1000) : Ok Try.prog 35 [aGdoer d, .ptr 0 0, aGEffect e] [.box [I x_.Actor.Unit.Id, I x_.Actor.Unit.Kind, I x_.Actor.Unit.Group, I x_.Actor.Unit.Health, I x_.Actor.Unit.MaxHealth, I x_.Actor.Unit.Power, I x_.Actor.Unit.MaxPower, I x_.Actor.Unit.At.X, I x_.Actor.Unit.At.Y, I x_.Actor.Unit.Casting, .pv (.str x_.Actor.Name), .pv (.slc x_.Actor.Auras.length false (x_.Actor.Auras.flatMap encGActive)), .pv (.slc x_.Actor.Cools.length false (x_.Actor.Cools.flatMap encGCool)), I x_.Actor.Casting.Now.Ability, I x_.Actor.Casting.Now.Target, I x_.Actor.Casting.Now.Since, I x_.Actor.Casting.Now.Until, I x_.Actor.Casting.Next.Ability, I x_.Actor.Casting.Next.Target, I x_.Actor.Casting.Next.Since, I x_.Actor.Casting.Next.Until, I x_.Actor.Casting.Wait, .pv (.slc x_.content.Abilities.length false (x_.content.Abilities.flatMap encGAbility)), .pv (.slc x_.content.Auras.length false (x_.content.Auras.flatMap encGAura)), .pv (.slc x_.content.Foes.length false (x_.content.Foes.flatMap encGFoe)), I x_.content.Map.W, I x_.content.Map.H, .pv (.slc x_.content.Map.Wall.length false (encB x_.content.Map.Wall)), I x_.content.Door.X, I x_.content.Door.Y, I x_.content.Lair.X, I x_.content.Lair.Y]] (aGBlow (dispelD d x_ e).1) [.box [I (dispelD d x_ e).2.Actor.Unit.Id, I (dispelD d x_ e).2.Actor.Unit.Kind, I (dispelD d x_ e).2.Actor.Unit.Group, I (dispelD d x_ e).2.Actor.Unit.Health, I (dispelD d x_ e).2.Actor.Unit.MaxHealth, I (dispelD d x_ e).2.Actor.Unit.Power, I (dispelD d x_ e).2.Actor.Unit.MaxPower, I (dispelD d x_ e).2.Actor.Unit.At.X, I (dispelD d x_ e).2.Actor.Unit.At.Y, I (dispelD d x_ e).2.Actor.Unit.Casting, .pv (.str (dispelD d x_ e).2.Actor.Name), .pv (.slc (dispelD d x_ e).2.Actor.Auras.length false ((dispelD d x_ e).2.Actor.Auras.flatMap encGActive)), .pv (.slc (dispelD d x_ e).2.Actor.Cools.length false ((dispelD d x_ e).2.Actor.Cools.flatMap encGCool)), I (dispelD d x_ e).2.Actor.Casting.Now.Ability, I (dispelD d x_ e).2.Actor.Casting.Now.Target, I (dispelD d x_ e).2.Actor.Casting.Now.Since, I (dispelD d x_ e).2.Actor.Casting.Now.Until, I (dispelD d x_ e).2.Actor.Casting.Next.Ability, I (dispelD d x_ e).2.Actor.Casting.Next.Target, I (dispelD d x_ e).2.Actor.Casting.Next.Since, I (dispelD d x_ e).2.Actor.Casting.Next.Until, I (dispelD d x_ e).2.Actor.Casting.Wait, .pv (.slc (dispelD d x_ e).2.content.Abilities.length false ((dispelD d x_ e).2.content.Abilities.flatMap encGAbility)), .pv (.slc (dispelD d x_ e).2.content.Auras.length false ((dispelD d x_ e).2.content.Auras.flatMap encGAura)), .pv (.slc (dispelD d x_ e).2.content.Foes.length false ((dispelD d x_ e).2.content.Foes.flatMap encGFoe)), I (dispelD d x_ e).2.content.Map.W, I (dispelD d x_ e).2.content.Map.H, .pv (.slc (dispelD d x_ e).2.content.Map.Wall.length false (encB (dispelD d x_ e).2.content.Map.Wall)), I (dispelD d x_ e).2.content.Door.X, I (dispelD d x_ e).2.content.Door.Y, I (dispelD d x_ e).2.content.Lair.X, I (dispelD d x_ e).2.content.Lair.Y]] [] := by
 refine Ok.len fun hlen => ?_
 have hl_d_Actor_Auras : d.Actor.Auras.length ≤ maxLen := hlen _ (by simp [lensL, lens, lensP])
 have hl_d_Actor_Cools : d.Actor.Cools.length ≤ maxLen := hlen _ (by simp [lensL, lens, lensP])
 unfold maxLen at hl_d_Actor_Auras hl_d_Actor_Cools
 refine ok_of_sem Try.func35 rfl ?_
 show Walks Try.prog _ _ ⟨[(0, aGdoer d), (1, .ptr 0 0), (2, aGEffect e)], [(0, .box [I x_.Actor.Unit.Id, I x_.Actor.Unit.Kind, I x_.Actor.Unit.Group, I x_.Actor.Unit.Health, I x_.Actor.Unit.MaxHealth, I x_.Actor.Unit.Power, I x_.Actor.Unit.MaxPower, I x_.Actor.Unit.At.X, I x_.Actor.Unit.At.Y, I x_.Actor.Unit.Casting, .pv (.str x_.Actor.Name), .pv (.slc x_.Actor.Auras.length false (x_.Actor.Auras.flatMap encGActive)), .pv (.slc x_.Actor.Cools.length false (x_.Actor.Cools.flatMap encGCool)), I x_.Actor.Casting.Now.Ability, I x_.Actor.Casting.Now.Target, I x_.Actor.Casting.Now.Since, I x_.Actor.Casting.Now.Until, I x_.Actor.Casting.Next.Ability, I x_.Actor.Casting.Next.Target, I x_.Actor.Casting.Next.Since, I x_.Actor.Casting.Next.Until, I x_.Actor.Casting.Wait, .pv (.slc x_.content.Abilities.length false (x_.content.Abilities.flatMap encGAbility)), .pv (.slc x_.content.Auras.length false (x_.content.Auras.flatMap encGAura)), .pv (.slc x_.content.Foes.length false (x_.content.Foes.flatMap encGFoe)), I x_.content.Map.W, I x_.content.Map.H, .pv (.slc x_.content.Map.Wall.length false (encB x_.content.Map.Wall)), I x_.content.Door.X, I x_.content.Door.Y, I x_.content.Lair.X, I x_.content.Lair.Y])], 1, [], 34, 1⟩
 refine sem_seq (sem_region rfl (step_n (o := .box [_, _, _, _, _, _, _, _, _, _, _, _, _, _, _, _, _, _, _, _, _, _, _]) (nx' := 2) rfl rfl rfl trivial (step_n (o := .box [_, _, _]) (nx' := 3) rfl rfl rfl trivial (step_n (o := .box [_, _, _, _, _]) (nx' := 4) rfl rfl rfl trivial (step_nil (seqK_n (sem_seq ?_)))))))
 refine sem_drawn rfl (by decide +kernel) rfl ?_
 refine step_r rfl rfl trivial (step_r rfl rfl trivial (step_r rfl rfl (by decide) (step_r (v := (.agg [_, _, _, _, _, _, _, _, _, _])) rfl rfl (Nat.le_of_ble_eq_true rfl) (step_r rfl rfl trivial (step_r rfl rfl trivial (step_r rfl rfl (by decide) (step_r rfl rfl (by decide) (step_r rfl rfl trivial (step_r rfl rfl (by decide) (step_r rfl rfl trivial ?_))))))))))
 refine step_callN (out' := .tup [_, _]) (H' := [(3, _), (2, _), (1, _), (0, _)]) (nx' := 4) rfl rfl rfl rfl rfl rfl rfl (by (repeat' apply And.intro) <;> first | trivial | rfl | exact flat_len (fun _ => rfl) _ | exact encI_len _ | exact Nat.le_of_ble_eq_true rfl | assumption) (Ok.frz (dispel15_ok x_.content x_.Actor.Auras false e.Amount (by first | assumption | omega | (simp only [List.length_nil, List.length_cons, List.length_append] at *; omega) | (simp; done) | (simp; omega))) rfl rfl (by (repeat' apply And.intro) <;> first | trivial | rfl | exact flat_len (s := 6) (enc := encGActive) (fun _ => rfl) _ | exact flat_len (fun _ => rfl) _ | exact encI_len _ | exact Nat.le_of_ble_eq_true rfl | assumption)) rfl rfl rfl rfl ?_
 have p1 := dispel15_len x_.content x_.Actor.Auras e.Amount
 refine step_r rfl rfl trivial (step_r rfl rfl trivial (step_r rfl rfl trivial (step_r rfl rfl trivial (step_r rfl rfl trivial (step_nil (seqK_n (sem_seq (sem_region rfl (step_r rfl rfl trivial (step_r rfl rfl trivial (step_r rfl rfl trivial ?_)))))))))))
 refine step_r rfl rfl (by decide) (step_r rfl rfl (by decide) ?_)
 refine step_storeB (H' := [(3, _), (2, _), (1, _), (0, .box [_, _, _, _, _, _, _, _, _, _, _, _, _, _, _, _, _, _, _, _, _, _, _, _, _, _, _, _, _, _, _, _])]) rfl rfl rfl rfl rfl rfl (.inl rfl) rfl ?_
 refine step_nil (seqK_n (sem_seq (sem_region rfl (step_r rfl rfl (by decide) (step_r rfl rfl trivial (step_r rfl rfl trivial (step_r rfl rfl trivial (step_r (v := (.agg [_, _, _, _, _])) rfl rfl trivial ?_))))))))
 refine step_storeB (H' := [(3, .box [_, _, _, _, _]), (2, _), (1, _), (0, _)]) rfl rfl rfl rfl rfl rfl (.inl rfl) rfl ?_
 refine step_nil (seqK_n (sem_ret ?_))
 have e2 : dispelD d x_ e = ((⟨0, 0, e.Amount, 0, ((dispel15 x_.content x_.Actor.Auras e.Amount).2.length : Int)⟩ : GBlow), (⟨(⟨x_.Actor.Unit, x_.Actor.Name, (dispel15 x_.content x_.Actor.Auras e.Amount).1, x_.Actor.Cools, x_.Actor.Casting⟩ : GActor), x_.content⟩ : Gactor)) := by
  unfold dispelD
  try dsimp only
  all_goals rfl
 rw [e2]
 exact answersGR [] [] rfl ⟨Nat.le_of_ble_eq_true rfl, trivial⟩ rfl (by (repeat' apply And.intro) <;> first | trivial | rfl | exact flat_len (fun _ => rfl) _ | exact encI_len _ | assumption) (rfl) rfl rfl rfl (by decide) rfl rfl ⟨⟨rfl, rfl⟩, trivial⟩

def nothingD (d : Gdoer) (v_ : Gactor) (e : GEffect) : GBlow × Gactor :=
  ((⟨0, 0, e.Amount, 0, 0⟩ : GBlow), v_)
theorem nothingD_ok (d : Gdoer) (v_ : Gactor) (e : GEffect) : Ok Try.prog 36 [aGdoer d, .ptr 0 0, aGEffect e] [.box [I v_.Actor.Unit.Id, I v_.Actor.Unit.Kind, I v_.Actor.Unit.Group, I v_.Actor.Unit.Health, I v_.Actor.Unit.MaxHealth, I v_.Actor.Unit.Power, I v_.Actor.Unit.MaxPower, I v_.Actor.Unit.At.X, I v_.Actor.Unit.At.Y, I v_.Actor.Unit.Casting, .pv (.str v_.Actor.Name), .pv (.slc v_.Actor.Auras.length false (v_.Actor.Auras.flatMap encGActive)), .pv (.slc v_.Actor.Cools.length false (v_.Actor.Cools.flatMap encGCool)), I v_.Actor.Casting.Now.Ability, I v_.Actor.Casting.Now.Target, I v_.Actor.Casting.Now.Since, I v_.Actor.Casting.Now.Until, I v_.Actor.Casting.Next.Ability, I v_.Actor.Casting.Next.Target, I v_.Actor.Casting.Next.Since, I v_.Actor.Casting.Next.Until, I v_.Actor.Casting.Wait, .pv (.slc v_.content.Abilities.length false (v_.content.Abilities.flatMap encGAbility)), .pv (.slc v_.content.Auras.length false (v_.content.Auras.flatMap encGAura)), .pv (.slc v_.content.Foes.length false (v_.content.Foes.flatMap encGFoe)), I v_.content.Map.W, I v_.content.Map.H, .pv (.slc v_.content.Map.Wall.length false (encB v_.content.Map.Wall)), I v_.content.Door.X, I v_.content.Door.Y, I v_.content.Lair.X, I v_.content.Lair.Y]] (aGBlow (nothingD d v_ e).1) [.box [I (nothingD d v_ e).2.Actor.Unit.Id, I (nothingD d v_ e).2.Actor.Unit.Kind, I (nothingD d v_ e).2.Actor.Unit.Group, I (nothingD d v_ e).2.Actor.Unit.Health, I (nothingD d v_ e).2.Actor.Unit.MaxHealth, I (nothingD d v_ e).2.Actor.Unit.Power, I (nothingD d v_ e).2.Actor.Unit.MaxPower, I (nothingD d v_ e).2.Actor.Unit.At.X, I (nothingD d v_ e).2.Actor.Unit.At.Y, I (nothingD d v_ e).2.Actor.Unit.Casting, .pv (.str (nothingD d v_ e).2.Actor.Name), .pv (.slc (nothingD d v_ e).2.Actor.Auras.length false ((nothingD d v_ e).2.Actor.Auras.flatMap encGActive)), .pv (.slc (nothingD d v_ e).2.Actor.Cools.length false ((nothingD d v_ e).2.Actor.Cools.flatMap encGCool)), I (nothingD d v_ e).2.Actor.Casting.Now.Ability, I (nothingD d v_ e).2.Actor.Casting.Now.Target, I (nothingD d v_ e).2.Actor.Casting.Now.Since, I (nothingD d v_ e).2.Actor.Casting.Now.Until, I (nothingD d v_ e).2.Actor.Casting.Next.Ability, I (nothingD d v_ e).2.Actor.Casting.Next.Target, I (nothingD d v_ e).2.Actor.Casting.Next.Since, I (nothingD d v_ e).2.Actor.Casting.Next.Until, I (nothingD d v_ e).2.Actor.Casting.Wait, .pv (.slc (nothingD d v_ e).2.content.Abilities.length false ((nothingD d v_ e).2.content.Abilities.flatMap encGAbility)), .pv (.slc (nothingD d v_ e).2.content.Auras.length false ((nothingD d v_ e).2.content.Auras.flatMap encGAura)), .pv (.slc (nothingD d v_ e).2.content.Foes.length false ((nothingD d v_ e).2.content.Foes.flatMap encGFoe)), I (nothingD d v_ e).2.content.Map.W, I (nothingD d v_ e).2.content.Map.H, .pv (.slc (nothingD d v_ e).2.content.Map.Wall.length false (encB (nothingD d v_ e).2.content.Map.Wall)), I (nothingD d v_ e).2.content.Door.X, I (nothingD d v_ e).2.content.Door.Y, I (nothingD d v_ e).2.content.Lair.X, I (nothingD d v_ e).2.content.Lair.Y]] [] := by
 refine Ok.len fun hlen => ?_
 have hl_d_Actor_Auras : d.Actor.Auras.length ≤ maxLen := hlen _ (by simp [lensL, lens, lensP])
 have hl_d_Actor_Cools : d.Actor.Cools.length ≤ maxLen := hlen _ (by simp [lensL, lens, lensP])
 unfold maxLen at hl_d_Actor_Auras hl_d_Actor_Cools
 refine ok_of_sem Try.func36 rfl ?_
 show Walks Try.prog _ _ ⟨[(0, aGdoer d), (1, .ptr 0 0), (2, aGEffect e)], [(0, .box [I v_.Actor.Unit.Id, I v_.Actor.Unit.Kind, I v_.Actor.Unit.Group, I v_.Actor.Unit.Health, I v_.Actor.Unit.MaxHealth, I v_.Actor.Unit.Power, I v_.Actor.Unit.MaxPower, I v_.Actor.Unit.At.X, I v_.Actor.Unit.At.Y, I v_.Actor.Unit.Casting, .pv (.str v_.Actor.Name), .pv (.slc v_.Actor.Auras.length false (v_.Actor.Auras.flatMap encGActive)), .pv (.slc v_.Actor.Cools.length false (v_.Actor.Cools.flatMap encGCool)), I v_.Actor.Casting.Now.Ability, I v_.Actor.Casting.Now.Target, I v_.Actor.Casting.Now.Since, I v_.Actor.Casting.Now.Until, I v_.Actor.Casting.Next.Ability, I v_.Actor.Casting.Next.Target, I v_.Actor.Casting.Next.Since, I v_.Actor.Casting.Next.Until, I v_.Actor.Casting.Wait, .pv (.slc v_.content.Abilities.length false (v_.content.Abilities.flatMap encGAbility)), .pv (.slc v_.content.Auras.length false (v_.content.Auras.flatMap encGAura)), .pv (.slc v_.content.Foes.length false (v_.content.Foes.flatMap encGFoe)), I v_.content.Map.W, I v_.content.Map.H, .pv (.slc v_.content.Map.Wall.length false (encB v_.content.Map.Wall)), I v_.content.Door.X, I v_.content.Door.Y, I v_.content.Lair.X, I v_.content.Lair.Y])], 1, [], 10, 1⟩
 refine sem_seq (sem_region rfl (step_n (o := .box [_, _, _, _, _, _, _, _, _, _, _, _, _, _, _, _, _, _, _, _, _, _, _]) (nx' := 2) rfl rfl rfl trivial (step_n (o := .box [_, _, _]) (nx' := 3) rfl rfl rfl trivial (step_n (o := .box [_, _, _, _, _]) (nx' := 4) rfl rfl rfl trivial (step_nil (seqK_n (sem_seq (sem_region rfl (step_r rfl rfl (by decide) (step_r rfl rfl trivial (step_r (v := (.agg [_, _, _, _, _])) rfl rfl trivial ?_)))))))))))
 refine step_storeB (H' := [(3, .box [_, _, _, _, _]), (2, _), (1, _), (0, _)]) rfl rfl rfl rfl rfl rfl (.inl rfl) rfl ?_
 refine step_nil (seqK_n (sem_ret ?_))
 have e1 : nothingD d v_ e = ((⟨0, 0, e.Amount, 0, 0⟩ : GBlow), v_) := by
  unfold nothingD
  try dsimp only
  all_goals rfl
 rw [e1]
 exact answersGR [] [] rfl ⟨Nat.le_of_ble_eq_true rfl, trivial⟩ rfl (by (repeat' apply And.intro) <;> first | trivial | rfl | exact flat_len (fun _ => rfl) _ | exact encI_len _ | assumption) (rfl) rfl rfl rfl (by decide) rfl rfl ⟨⟨rfl, rfl⟩, trivial⟩

theorem does1_ok (d : Gdoer) (kind : Int) (hk : kind = 1) : Ok Try.prog 14 [aGdoer d, I kind] [] (.bnd 31 1 [.agg [I d.Actor.Unit.Id, I d.Actor.Unit.Kind, I d.Actor.Unit.Group, I d.Actor.Unit.Health, I d.Actor.Unit.MaxHealth, I d.Actor.Unit.Power, I d.Actor.Unit.MaxPower, I d.Actor.Unit.At.X, I d.Actor.Unit.At.Y, I d.Actor.Unit.Casting, .pv (.str d.Actor.Name), .pv (.slc d.Actor.Auras.length false (d.Actor.Auras.flatMap encGActive)), .pv (.slc d.Actor.Cools.length false (d.Actor.Cools.flatMap encGCool)), I d.Actor.Casting.Now.Ability, I d.Actor.Casting.Now.Target, I d.Actor.Casting.Now.Since, I d.Actor.Casting.Now.Until, I d.Actor.Casting.Next.Ability, I d.Actor.Casting.Next.Target, I d.Actor.Casting.Next.Since, I d.Actor.Casting.Next.Until, I d.Actor.Casting.Wait, I d.now]]) [] [] := by
 refine Ok.len fun hlen => ?_
 have hl_d_Actor_Auras : d.Actor.Auras.length ≤ maxLen := hlen _ (by simp [lensL, lens, lensP])
 have hl_d_Actor_Cools : d.Actor.Cools.length ≤ maxLen := hlen _ (by simp [lensL, lens, lensP])
 unfold maxLen at hl_d_Actor_Auras hl_d_Actor_Cools
 refine ok_of_sem Try.func14 rfl ?_
 show Walks Try.prog _ _ ⟨[(0, aGdoer d), (1, I kind)], [], 0, [], 28, 0⟩
 refine sem_seq (sem_region rfl (step_n (o := .box [_, _, _, _, _, _, _, _, _, _, _, _, _, _, _, _, _, _, _, _, _, _, _]) (nx' := 1) rfl rfl rfl trivial (step_r rfl rfl trivial (step_nil (seqK_n (sem_seq (sem_seq (sem_region rfl (step_r rfl rfl trivial (step_nil (seqK_n ?_)))))))))))
 refine sem_block (sem_seq (sem_region rfl (step_bin rfl rfl rfl rfl rfl trivial (step_r rfl rfl trivial (step_nil (seqK_n ?_))))))
 refine sem_cond rfl (fun h3 => ?_) (fun h3 => ?_)
 ·have g3 : (kind : Int) = 1 := beq_t h3
  refine sem_seq (sem_region rfl (step_r (v := (.agg [_, _, _, _, _, _, _, _, _, _, _, _, _, _, _, _, _, _, _, _, _, _, _])) rfl rfl (Nat.le_of_ble_eq_true rfl) (step_r (v := .bnd 31 1 [_]) rfl rfl trivial (step_r rfl rfl trivial (step_nil (seqK_n (sem_ret (blkK_r (seqK_r ?_)))))))))
  exact answersR rfl ⟨trivial, trivial⟩ (rfl) rfl
 ·exact absurd h3 (by simp [hk])

theorem does2_ok (d : Gdoer) (kind : Int) (hk : kind = 2) : Ok Try.prog 14 [aGdoer d, I kind] [] (.bnd 32 1 [.agg [I d.Actor.Unit.Id, I d.Actor.Unit.Kind, I d.Actor.Unit.Group, I d.Actor.Unit.Health, I d.Actor.Unit.MaxHealth, I d.Actor.Unit.Power, I d.Actor.Unit.MaxPower, I d.Actor.Unit.At.X, I d.Actor.Unit.At.Y, I d.Actor.Unit.Casting, .pv (.str d.Actor.Name), .pv (.slc d.Actor.Auras.length false (d.Actor.Auras.flatMap encGActive)), .pv (.slc d.Actor.Cools.length false (d.Actor.Cools.flatMap encGCool)), I d.Actor.Casting.Now.Ability, I d.Actor.Casting.Now.Target, I d.Actor.Casting.Now.Since, I d.Actor.Casting.Now.Until, I d.Actor.Casting.Next.Ability, I d.Actor.Casting.Next.Target, I d.Actor.Casting.Next.Since, I d.Actor.Casting.Next.Until, I d.Actor.Casting.Wait, I d.now]]) [] [] := by
 refine Ok.len fun hlen => ?_
 have hl_d_Actor_Auras : d.Actor.Auras.length ≤ maxLen := hlen _ (by simp [lensL, lens, lensP])
 have hl_d_Actor_Cools : d.Actor.Cools.length ≤ maxLen := hlen _ (by simp [lensL, lens, lensP])
 unfold maxLen at hl_d_Actor_Auras hl_d_Actor_Cools
 refine ok_of_sem Try.func14 rfl ?_
 show Walks Try.prog _ _ ⟨[(0, aGdoer d), (1, I kind)], [], 0, [], 28, 0⟩
 refine sem_seq (sem_region rfl (step_n (o := .box [_, _, _, _, _, _, _, _, _, _, _, _, _, _, _, _, _, _, _, _, _, _, _]) (nx' := 1) rfl rfl rfl trivial (step_r rfl rfl trivial (step_nil (seqK_n (sem_seq (sem_seq (sem_region rfl (step_r rfl rfl trivial (step_nil (seqK_n ?_)))))))))))
 refine sem_block (sem_seq (sem_region rfl (step_bin rfl rfl rfl rfl rfl trivial (step_r rfl rfl trivial (step_nil (seqK_n ?_))))))
 refine sem_cond rfl (fun h3 => ?_) (fun h3 => ?_)
 ·exact absurd h3 (by simp [hk])
 ·have g3 : ¬ ((kind : Int) = 1) := beq_f h3
  refine sem_seq (sem_region rfl (step_bin rfl rfl rfl rfl rfl trivial (step_r rfl rfl trivial (step_nil (seqK_n ?_)))))
  refine sem_cond rfl (fun h5 => ?_) (fun h5 => ?_)
  ·have g5 : (kind : Int) = 2 := beq_t h5
   refine sem_seq (sem_region rfl (step_r (v := (.agg [_, _, _, _, _, _, _, _, _, _, _, _, _, _, _, _, _, _, _, _, _, _, _])) rfl rfl (Nat.le_of_ble_eq_true rfl) (step_r (v := .bnd 32 1 [_]) rfl rfl trivial (step_r rfl rfl trivial (step_nil (seqK_n (sem_ret (blkK_r (seqK_r ?_)))))))))
   exact answersR rfl ⟨trivial, trivial⟩ (rfl) rfl
  ·exact absurd h5 (by simp [hk])

theorem does3_ok (d : Gdoer) (kind : Int) (hk : kind = 3) : Ok Try.prog 14 [aGdoer d, I kind] [] (.bnd 33 1 [.agg [I d.Actor.Unit.Id, I d.Actor.Unit.Kind, I d.Actor.Unit.Group, I d.Actor.Unit.Health, I d.Actor.Unit.MaxHealth, I d.Actor.Unit.Power, I d.Actor.Unit.MaxPower, I d.Actor.Unit.At.X, I d.Actor.Unit.At.Y, I d.Actor.Unit.Casting, .pv (.str d.Actor.Name), .pv (.slc d.Actor.Auras.length false (d.Actor.Auras.flatMap encGActive)), .pv (.slc d.Actor.Cools.length false (d.Actor.Cools.flatMap encGCool)), I d.Actor.Casting.Now.Ability, I d.Actor.Casting.Now.Target, I d.Actor.Casting.Now.Since, I d.Actor.Casting.Now.Until, I d.Actor.Casting.Next.Ability, I d.Actor.Casting.Next.Target, I d.Actor.Casting.Next.Since, I d.Actor.Casting.Next.Until, I d.Actor.Casting.Wait, I d.now]]) [] [] := by
 refine Ok.len fun hlen => ?_
 have hl_d_Actor_Auras : d.Actor.Auras.length ≤ maxLen := hlen _ (by simp [lensL, lens, lensP])
 have hl_d_Actor_Cools : d.Actor.Cools.length ≤ maxLen := hlen _ (by simp [lensL, lens, lensP])
 unfold maxLen at hl_d_Actor_Auras hl_d_Actor_Cools
 refine ok_of_sem Try.func14 rfl ?_
 show Walks Try.prog _ _ ⟨[(0, aGdoer d), (1, I kind)], [], 0, [], 28, 0⟩
 refine sem_seq (sem_region rfl (step_n (o := .box [_, _, _, _, _, _, _, _, _, _, _, _, _, _, _, _, _, _, _, _, _, _, _]) (nx' := 1) rfl rfl rfl trivial (step_r rfl rfl trivial (step_nil (seqK_n (sem_seq (sem_seq (sem_region rfl (step_r rfl rfl trivial (step_nil (seqK_n ?_)))))))))))
 refine sem_block (sem_seq (sem_region rfl (step_bin rfl rfl rfl rfl rfl trivial (step_r rfl rfl trivial (step_nil (seqK_n ?_))))))
 refine sem_cond rfl (fun h3 => ?_) (fun h3 => ?_)
 ·exact absurd h3 (by simp [hk])
 ·have g3 : ¬ ((kind : Int) = 1) := beq_f h3
  refine sem_seq (sem_region rfl (step_bin rfl rfl rfl rfl rfl trivial (step_r rfl rfl trivial (step_nil (seqK_n ?_)))))
  refine sem_cond rfl (fun h5 => ?_) (fun h5 => ?_)
  ·exact absurd h5 (by simp [hk])
  ·have g5 : ¬ ((kind : Int) = 2) := beq_f h5
   refine sem_seq (sem_region rfl (step_bin rfl rfl rfl rfl rfl trivial (step_r rfl rfl trivial (step_nil (seqK_n ?_)))))
   refine sem_cond rfl (fun h7 => ?_) (fun h7 => ?_)
   ·have g7 : (kind : Int) = 3 := beq_t h7
    refine sem_seq (sem_region rfl (step_r (v := (.agg [_, _, _, _, _, _, _, _, _, _, _, _, _, _, _, _, _, _, _, _, _, _, _])) rfl rfl (Nat.le_of_ble_eq_true rfl) (step_r (v := .bnd 33 1 [_]) rfl rfl trivial (step_r rfl rfl trivial (step_nil (seqK_n (sem_ret (blkK_r (seqK_r ?_)))))))))
    exact answersR rfl ⟨trivial, trivial⟩ (rfl) rfl
   ·exact absurd h7 (by simp [hk])

theorem does4_ok (d : Gdoer) (kind : Int) (hk : kind = 4) : Ok Try.prog 14 [aGdoer d, I kind] [] (.bnd 34 1 [.agg [I d.Actor.Unit.Id, I d.Actor.Unit.Kind, I d.Actor.Unit.Group, I d.Actor.Unit.Health, I d.Actor.Unit.MaxHealth, I d.Actor.Unit.Power, I d.Actor.Unit.MaxPower, I d.Actor.Unit.At.X, I d.Actor.Unit.At.Y, I d.Actor.Unit.Casting, .pv (.str d.Actor.Name), .pv (.slc d.Actor.Auras.length false (d.Actor.Auras.flatMap encGActive)), .pv (.slc d.Actor.Cools.length false (d.Actor.Cools.flatMap encGCool)), I d.Actor.Casting.Now.Ability, I d.Actor.Casting.Now.Target, I d.Actor.Casting.Now.Since, I d.Actor.Casting.Now.Until, I d.Actor.Casting.Next.Ability, I d.Actor.Casting.Next.Target, I d.Actor.Casting.Next.Since, I d.Actor.Casting.Next.Until, I d.Actor.Casting.Wait, I d.now]]) [] [] := by
 refine Ok.len fun hlen => ?_
 have hl_d_Actor_Auras : d.Actor.Auras.length ≤ maxLen := hlen _ (by simp [lensL, lens, lensP])
 have hl_d_Actor_Cools : d.Actor.Cools.length ≤ maxLen := hlen _ (by simp [lensL, lens, lensP])
 unfold maxLen at hl_d_Actor_Auras hl_d_Actor_Cools
 refine ok_of_sem Try.func14 rfl ?_
 show Walks Try.prog _ _ ⟨[(0, aGdoer d), (1, I kind)], [], 0, [], 28, 0⟩
 refine sem_seq (sem_region rfl (step_n (o := .box [_, _, _, _, _, _, _, _, _, _, _, _, _, _, _, _, _, _, _, _, _, _, _]) (nx' := 1) rfl rfl rfl trivial (step_r rfl rfl trivial (step_nil (seqK_n (sem_seq (sem_seq (sem_region rfl (step_r rfl rfl trivial (step_nil (seqK_n ?_)))))))))))
 refine sem_block (sem_seq (sem_region rfl (step_bin rfl rfl rfl rfl rfl trivial (step_r rfl rfl trivial (step_nil (seqK_n ?_))))))
 refine sem_cond rfl (fun h3 => ?_) (fun h3 => ?_)
 ·exact absurd h3 (by simp [hk])
 ·have g3 : ¬ ((kind : Int) = 1) := beq_f h3
  refine sem_seq (sem_region rfl (step_bin rfl rfl rfl rfl rfl trivial (step_r rfl rfl trivial (step_nil (seqK_n ?_)))))
  refine sem_cond rfl (fun h5 => ?_) (fun h5 => ?_)
  ·exact absurd h5 (by simp [hk])
  ·have g5 : ¬ ((kind : Int) = 2) := beq_f h5
   refine sem_seq (sem_region rfl (step_bin rfl rfl rfl rfl rfl trivial (step_r rfl rfl trivial (step_nil (seqK_n ?_)))))
   refine sem_cond rfl (fun h7 => ?_) (fun h7 => ?_)
   ·exact absurd h7 (by simp [hk])
   ·have g7 : ¬ ((kind : Int) = 3) := beq_f h7
    refine sem_seq (sem_region rfl (step_bin rfl rfl rfl rfl rfl trivial (step_r rfl rfl trivial (step_nil (seqK_n ?_)))))
    refine sem_cond rfl (fun h9 => ?_) (fun h9 => ?_)
    ·have g9 : (kind : Int) = 4 := beq_t h9
     refine sem_seq (sem_region rfl (step_r (v := (.agg [_, _, _, _, _, _, _, _, _, _, _, _, _, _, _, _, _, _, _, _, _, _, _])) rfl rfl (Nat.le_of_ble_eq_true rfl) (step_r (v := .bnd 34 1 [_]) rfl rfl trivial (step_r rfl rfl trivial (step_nil (seqK_n (sem_ret (blkK_r (seqK_r ?_)))))))))
     exact answersR rfl ⟨trivial, trivial⟩ (rfl) rfl
    ·exact absurd h9 (by simp [hk])

theorem does6_ok (d : Gdoer) (kind : Int) (hk : kind = 6) : Ok Try.prog 14 [aGdoer d, I kind] [] (.bnd 35 1 [.agg [I d.Actor.Unit.Id, I d.Actor.Unit.Kind, I d.Actor.Unit.Group, I d.Actor.Unit.Health, I d.Actor.Unit.MaxHealth, I d.Actor.Unit.Power, I d.Actor.Unit.MaxPower, I d.Actor.Unit.At.X, I d.Actor.Unit.At.Y, I d.Actor.Unit.Casting, .pv (.str d.Actor.Name), .pv (.slc d.Actor.Auras.length false (d.Actor.Auras.flatMap encGActive)), .pv (.slc d.Actor.Cools.length false (d.Actor.Cools.flatMap encGCool)), I d.Actor.Casting.Now.Ability, I d.Actor.Casting.Now.Target, I d.Actor.Casting.Now.Since, I d.Actor.Casting.Now.Until, I d.Actor.Casting.Next.Ability, I d.Actor.Casting.Next.Target, I d.Actor.Casting.Next.Since, I d.Actor.Casting.Next.Until, I d.Actor.Casting.Wait, I d.now]]) [] [] := by
 refine Ok.len fun hlen => ?_
 have hl_d_Actor_Auras : d.Actor.Auras.length ≤ maxLen := hlen _ (by simp [lensL, lens, lensP])
 have hl_d_Actor_Cools : d.Actor.Cools.length ≤ maxLen := hlen _ (by simp [lensL, lens, lensP])
 unfold maxLen at hl_d_Actor_Auras hl_d_Actor_Cools
 refine ok_of_sem Try.func14 rfl ?_
 show Walks Try.prog _ _ ⟨[(0, aGdoer d), (1, I kind)], [], 0, [], 28, 0⟩
 refine sem_seq (sem_region rfl (step_n (o := .box [_, _, _, _, _, _, _, _, _, _, _, _, _, _, _, _, _, _, _, _, _, _, _]) (nx' := 1) rfl rfl rfl trivial (step_r rfl rfl trivial (step_nil (seqK_n (sem_seq (sem_seq (sem_region rfl (step_r rfl rfl trivial (step_nil (seqK_n ?_)))))))))))
 refine sem_block (sem_seq (sem_region rfl (step_bin rfl rfl rfl rfl rfl trivial (step_r rfl rfl trivial (step_nil (seqK_n ?_))))))
 refine sem_cond rfl (fun h3 => ?_) (fun h3 => ?_)
 ·exact absurd h3 (by simp [hk])
 ·have g3 : ¬ ((kind : Int) = 1) := beq_f h3
  refine sem_seq (sem_region rfl (step_bin rfl rfl rfl rfl rfl trivial (step_r rfl rfl trivial (step_nil (seqK_n ?_)))))
  refine sem_cond rfl (fun h5 => ?_) (fun h5 => ?_)
  ·exact absurd h5 (by simp [hk])
  ·have g5 : ¬ ((kind : Int) = 2) := beq_f h5
   refine sem_seq (sem_region rfl (step_bin rfl rfl rfl rfl rfl trivial (step_r rfl rfl trivial (step_nil (seqK_n ?_)))))
   refine sem_cond rfl (fun h7 => ?_) (fun h7 => ?_)
   ·exact absurd h7 (by simp [hk])
   ·have g7 : ¬ ((kind : Int) = 3) := beq_f h7
    refine sem_seq (sem_region rfl (step_bin rfl rfl rfl rfl rfl trivial (step_r rfl rfl trivial (step_nil (seqK_n ?_)))))
    refine sem_cond rfl (fun h9 => ?_) (fun h9 => ?_)
    ·exact absurd h9 (by simp [hk])
    ·have g9 : ¬ ((kind : Int) = 4) := beq_f h9
     refine sem_seq (sem_region rfl (step_bin rfl rfl rfl rfl rfl trivial (step_r rfl rfl trivial (step_nil (seqK_n ?_)))))
     refine sem_cond rfl (fun h11 => ?_) (fun h11 => ?_)
     ·have g11 : (kind : Int) = 6 := beq_t h11
      refine sem_seq (sem_region rfl (step_r (v := (.agg [_, _, _, _, _, _, _, _, _, _, _, _, _, _, _, _, _, _, _, _, _, _, _])) rfl rfl (Nat.le_of_ble_eq_true rfl) (step_r (v := .bnd 35 1 [_]) rfl rfl trivial (step_r rfl rfl trivial (step_nil (seqK_n (sem_ret (blkK_r (seqK_r ?_)))))))))
      exact answersR rfl ⟨trivial, trivial⟩ (rfl) rfl
     ·exact absurd h11 (by simp [hk])

theorem does0_ok (d : Gdoer) (kind : Int) (hk : kind ≠ 1 ∧ kind ≠ 2 ∧ kind ≠ 3 ∧ kind ≠ 4 ∧ kind ≠ 6) : Ok Try.prog 14 [aGdoer d, I kind] [] (.bnd 36 1 [.agg [I d.Actor.Unit.Id, I d.Actor.Unit.Kind, I d.Actor.Unit.Group, I d.Actor.Unit.Health, I d.Actor.Unit.MaxHealth, I d.Actor.Unit.Power, I d.Actor.Unit.MaxPower, I d.Actor.Unit.At.X, I d.Actor.Unit.At.Y, I d.Actor.Unit.Casting, .pv (.str d.Actor.Name), .pv (.slc d.Actor.Auras.length false (d.Actor.Auras.flatMap encGActive)), .pv (.slc d.Actor.Cools.length false (d.Actor.Cools.flatMap encGCool)), I d.Actor.Casting.Now.Ability, I d.Actor.Casting.Now.Target, I d.Actor.Casting.Now.Since, I d.Actor.Casting.Now.Until, I d.Actor.Casting.Next.Ability, I d.Actor.Casting.Next.Target, I d.Actor.Casting.Next.Since, I d.Actor.Casting.Next.Until, I d.Actor.Casting.Wait, I d.now]]) [] [] := by
 refine Ok.len fun hlen => ?_
 have hl_d_Actor_Auras : d.Actor.Auras.length ≤ maxLen := hlen _ (by simp [lensL, lens, lensP])
 have hl_d_Actor_Cools : d.Actor.Cools.length ≤ maxLen := hlen _ (by simp [lensL, lens, lensP])
 unfold maxLen at hl_d_Actor_Auras hl_d_Actor_Cools
 refine ok_of_sem Try.func14 rfl ?_
 show Walks Try.prog _ _ ⟨[(0, aGdoer d), (1, I kind)], [], 0, [], 28, 0⟩
 refine sem_seq (sem_region rfl (step_n (o := .box [_, _, _, _, _, _, _, _, _, _, _, _, _, _, _, _, _, _, _, _, _, _, _]) (nx' := 1) rfl rfl rfl trivial (step_r rfl rfl trivial (step_nil (seqK_n (sem_seq (sem_seq (sem_region rfl (step_r rfl rfl trivial (step_nil (seqK_n ?_)))))))))))
 refine sem_block (sem_seq (sem_region rfl (step_bin rfl rfl rfl rfl rfl trivial (step_r rfl rfl trivial (step_nil (seqK_n ?_))))))
 refine sem_cond rfl (fun h3 => ?_) (fun h3 => ?_)
 ·exact absurd h3 (by simp [hk])
 ·have g3 : ¬ ((kind : Int) = 1) := beq_f h3
  refine sem_seq (sem_region rfl (step_bin rfl rfl rfl rfl rfl trivial (step_r rfl rfl trivial (step_nil (seqK_n ?_)))))
  refine sem_cond rfl (fun h5 => ?_) (fun h5 => ?_)
  ·exact absurd h5 (by simp [hk])
  ·have g5 : ¬ ((kind : Int) = 2) := beq_f h5
   refine sem_seq (sem_region rfl (step_bin rfl rfl rfl rfl rfl trivial (step_r rfl rfl trivial (step_nil (seqK_n ?_)))))
   refine sem_cond rfl (fun h7 => ?_) (fun h7 => ?_)
   ·exact absurd h7 (by simp [hk])
   ·have g7 : ¬ ((kind : Int) = 3) := beq_f h7
    refine sem_seq (sem_region rfl (step_bin rfl rfl rfl rfl rfl trivial (step_r rfl rfl trivial (step_nil (seqK_n ?_)))))
    refine sem_cond rfl (fun h9 => ?_) (fun h9 => ?_)
    ·exact absurd h9 (by simp [hk])
    ·have g9 : ¬ ((kind : Int) = 4) := beq_f h9
     refine sem_seq (sem_region rfl (step_bin rfl rfl rfl rfl rfl trivial (step_r rfl rfl trivial (step_nil (seqK_n ?_)))))
     refine sem_cond rfl (fun h11 => ?_) (fun h11 => ?_)
     ·exact absurd h11 (by simp [hk])
     ·have g11 : ¬ ((kind : Int) = 6) := beq_f h11
      refine sem_skip (blkK_n (seqK_n (sem_seq (sem_region rfl (step_r (v := (.agg [_, _, _, _, _, _, _, _, _, _, _, _, _, _, _, _, _, _, _, _, _, _, _])) rfl rfl (Nat.le_of_ble_eq_true rfl) (step_r (v := .bnd 36 1 [_]) rfl rfl trivial (step_r rfl rfl trivial (step_nil (seqK_n (sem_ret ?_))))))))))
      exact answersR rfl ⟨trivial, trivial⟩ (rfl) rfl

theorem copyX_go : ∀ (n k : Nat) (l : List GCool), copyX_L0 n k l = l
  | 0, k, l => by rw [copyX_L0]
  | n + 1, k, l => by
    rw [copyX_L0]
    have : l.set k { (l.getD k default) with Back := (l.getD k default).Back } = l := by
      by_cases h : k < l.length
      · rw [List.getD_eq_getElem?_getD, List.getElem?_eq_getElem h, Option.getD_some]; exact List.set_getElem_self h
      · rw [List.set_eq_of_length_le (by omega)]
    rw [this, copyX_go n]
theorem copyX_is (x : GActor) : copyX x = x := by
  unfold copyX; rw [copyX_go]
theorem ofX_is (c : GContent) (x : GActor) : (ofX c x).1 = ⟨x, c⟩ := by
  unfold ofX; rw [copyX_is]; split <;> rfl
theorem ofX_few {c : GContent} {x : GActor} (h : FewX x) : (ofX c x).1.Actor.Auras.length ≤ 1000 := by
  rw [ofX_is]; have := h.au; simp only []; omega

def doX_J22 (c : GContent) (from_ : GActor) (to : GActor) (e : GEffect) (now : Int) : Gactor × GBlow :=
  if (ofX c to).2 = true then (if e.Kind = 1 then ((hurtD (⟨from_, now⟩ : Gdoer) ((ofX c to).1) e).2, ((hurtD (⟨from_, now⟩ : Gdoer) ((ofX c to).1) e).1)) else if e.Kind = 2 then ((healD (⟨from_, now⟩ : Gdoer) ((ofX c to).1) e).2, ((healD (⟨from_, now⟩ : Gdoer) ((ofX c to).1) e).1)) else if e.Kind = 3 then ((powerD (⟨from_, now⟩ : Gdoer) ((ofX c to).1) e).2, ((powerD (⟨from_, now⟩ : Gdoer) ((ofX c to).1) e).1)) else if e.Kind = 4 then ((layD (⟨from_, now⟩ : Gdoer) ((ofX c to).1) e).2, ((layD (⟨from_, now⟩ : Gdoer) ((ofX c to).1) e).1)) else if e.Kind = 6 then ((dispelD (⟨from_, now⟩ : Gdoer) ((ofX c to).1) e).2, ((dispelD (⟨from_, now⟩ : Gdoer) ((ofX c to).1) e).1)) else ((nothingD (⟨from_, now⟩ : Gdoer) ((ofX c to).1) e).2, ((nothingD (⟨from_, now⟩ : Gdoer) ((ofX c to).1) e).1))) else ((ofX c to).1, (⟨0, 0, 0, 0, 0⟩ : GBlow))
def doX (c : GContent) (from_ : GActor) (to : GActor) (e : GEffect) (now : Int) : GActor × GBlow :=
  (match doX_J22 c from_ to e now with
    | (x_22, b_22) => (x_22.Actor, (⟨e.Kind, b_22.Aura, b_22.Amount, b_22.Kept, b_22.Done⟩ : GBlow)))
theorem doX_ok (c : GContent) (from_ : GActor) (to : GActor) (e : GEffect) (now : Int) (hX : FewX to) : Ok Try.prog 7 [aGContent c, aGActor from_, aGActor to, aGEffect e, I now] [] (.tup [aGActor (doX c from_ to e now).1, aGBlow (doX c from_ to e now).2]) [] [] := by
 refine Ok.len fun hlen => ?_
 have hl_c_Abilities : c.Abilities.length ≤ maxLen := hlen _ (by simp [lensL, lens, lensP])
 have hl_c_Auras : c.Auras.length ≤ maxLen := hlen _ (by simp [lensL, lens, lensP])
 have hl_c_Foes : c.Foes.length ≤ maxLen := hlen _ (by simp [lensL, lens, lensP])
 have hl_c_Map_Wall : c.Map.Wall.length ≤ maxLen := hlen _ (by simp [lensL, lens, lensP])
 have hl_from__Auras : from_.Auras.length ≤ maxLen := hlen _ (by simp [lensL, lens, lensP])
 have hl_from__Cools : from_.Cools.length ≤ maxLen := hlen _ (by simp [lensL, lens, lensP])
 have hl_to_Auras : to.Auras.length ≤ maxLen := hlen _ (by simp [lensL, lens, lensP])
 have hl_to_Cools : to.Cools.length ≤ maxLen := hlen _ (by simp [lensL, lens, lensP])
 unfold maxLen at hl_c_Abilities hl_c_Auras hl_c_Foes hl_c_Map_Wall hl_from__Auras hl_from__Cools hl_to_Auras hl_to_Cools
 refine ok_of_sem Try.func7 rfl ?_
 show Walks Try.prog _ _ ⟨[(0, aGContent c), (1, aGActor from_), (2, aGActor to), (3, aGEffect e), (4, I now)], [], 0, [], 40, 0⟩
 refine sem_seq (sem_region rfl (step_n (o := .box [_, _, _, _, _, _, _, _, _, _]) (nx' := 1) rfl rfl rfl trivial (step_n (o := .box [_, _, _, _, _, _, _, _, _, _, _, _, _, _, _, _, _, _, _, _, _, _]) (nx' := 2) rfl rfl rfl trivial (step_n (o := .box [_, _, _, _, _, _, _, _, _, _, _, _, _, _, _, _, _, _, _, _, _, _]) (nx' := 3) rfl rfl rfl trivial (step_n (o := .box [_, _, _]) (nx' := 4) rfl rfl rfl trivial (step_n (o := .box [_, _, _, _, _, _, _, _, _, _, _, _, _, _, _, _, _, _, _, _, _, _]) (nx' := 5) rfl rfl rfl trivial (step_n (o := .box [_, _, _, _, _]) (nx' := 6) rfl rfl rfl trivial (step_nil (seqK_n (sem_seq (sem_region rfl ?_)))))))))))
 refine step_r (v := (.agg [_, _, _, _, _, _, _, _, _, _])) rfl rfl (Nat.le_of_ble_eq_true rfl) (step_r (v := (.agg [_, _, _, _, _, _, _, _, _, _, _, _, _, _, _, _, _, _, _, _, _, _])) rfl rfl (Nat.le_of_ble_eq_true rfl) ?_)
 refine step_callN (out' := .tup [.ptr 6 _, _]) (H' := [(6, .box [_, _, _, _, _, _, _, _, _, _, _, _, _, _, _, _, _, _, _, _, _, _, _, _, _, _, _, _, _, _, _, _]), (5, _), (4, _), (3, _), (2, _), (1, _), (0, _)]) (nx' := 7) rfl rfl rfl rfl rfl rfl rfl (by (repeat' apply And.intro) <;> first | trivial | rfl | exact flat_len (fun _ => rfl) _ | exact encI_len _ | exact Nat.le_of_ble_eq_true rfl | assumption) (ofX_ok c to (by first | assumption)) rfl rfl rfl rfl ?_
 have p1 := ofX_few (c := c) (x := to) (by assumption)
 refine step_r rfl rfl trivial (step_r rfl rfl trivial (step_r rfl rfl trivial (step_r rfl rfl trivial (step_r rfl rfl trivial (step_nil (seqK_n (sem_seq (sem_region rfl (step_r (v := (.agg [_, _, _, _, _])) rfl rfl trivial (step_n (o := .box [_, _, _, _, _]) (nx' := 8) rfl rfl rfl trivial ?_))))))))))
 refine step_storeB (H' := [(7, .box [_, _, _, _, _]), (6, _), (5, _), (4, _), (3, _), (2, _), (1, _), (0, _)]) rfl rfl rfl rfl rfl rfl (.inl rfl) rfl ?_
 refine step_nil (seqK_n (sem_seq ?_))
 refine sem_cutW (fun w_ : Gactor × GBlow => match w_ with | (x_22, b_22) => (⟨[(8, .ptr 0 0), (10, .ptr 1 0), (11, .ptr 2 0), (12, .ptr 3 0), (14, .ptr 4 0)], [(0, .box [I e.Kind, I e.Amount, I e.Aura]), (1, .box [I 0, I 0, I 0, I 0, I 0, I 0, I 0, I 0, I 0, I 0, .pv (.str []), .pv (.slc 0 true []), .pv (.slc 0 true []), I 0, I 0, I 0, I 0, I 0, I 0, I 0, I 0, I 0]), (2, .box [I 0, I 0, I 0, I 0, I 0]), (3, .box [I x_22.Actor.Unit.Id, I x_22.Actor.Unit.Kind, I x_22.Actor.Unit.Group, I x_22.Actor.Unit.Health, I x_22.Actor.Unit.MaxHealth, I x_22.Actor.Unit.Power, I x_22.Actor.Unit.MaxPower, I x_22.Actor.Unit.At.X, I x_22.Actor.Unit.At.Y, I x_22.Actor.Unit.Casting, .pv (.str x_22.Actor.Name), .pv (.slc x_22.Actor.Auras.length false (x_22.Actor.Auras.flatMap encGActive)), .pv (.slc x_22.Actor.Cools.length false (x_22.Actor.Cools.flatMap encGCool)), I x_22.Actor.Casting.Now.Ability, I x_22.Actor.Casting.Now.Target, I x_22.Actor.Casting.Now.Since, I x_22.Actor.Casting.Now.Until, I x_22.Actor.Casting.Next.Ability, I x_22.Actor.Casting.Next.Target, I x_22.Actor.Casting.Next.Since, I x_22.Actor.Casting.Next.Until, I x_22.Actor.Casting.Wait, .pv (.slc x_22.content.Abilities.length false (x_22.content.Abilities.flatMap encGAbility)), .pv (.slc x_22.content.Auras.length false (x_22.content.Auras.flatMap encGAura)), .pv (.slc x_22.content.Foes.length false (x_22.content.Foes.flatMap encGFoe)), I x_22.content.Map.W, I x_22.content.Map.H, .pv (.slc x_22.content.Map.Wall.length false (encB x_22.content.Map.Wall)), I x_22.content.Door.X, I x_22.content.Door.Y, I x_22.content.Lair.X, I x_22.content.Lair.Y]), (4, .box [I b_22.Kind, I b_22.Aura, I b_22.Amount, I b_22.Kept, I b_22.Done])], 5, [], 40, 0⟩ : St)) (fun w_ => doX_J22 c from_ to e now = w_) ?_ ?_
 ·refine sem_seq (sem_region rfl (step_r rfl rfl trivial (step_nil (seqK_n ?_))))
  refine sem_cond rfl (fun h4 => ?_) (fun h4 => ?_)
  ·have g4 : (ofX c to).2 = true := h4
   refine sem_drawn rfl (by decide +kernel) rfl ?_
   refine step_r (v := (.agg [_, _, _, _, _, _, _, _, _, _, _, _, _, _, _, _, _, _, _, _, _, _])) rfl rfl (Nat.le_of_ble_eq_true rfl) (step_r rfl rfl trivial ?_)
   refine step_buildT (vs := [_, _, _, _, _, _, _, _, _, _, _, _, _, _, _, _, _, _, _, _, _, _, _]) rfl rfl rfl rfl rfl rfl rfl rfl ?_
   refine step_r rfl rfl (by decide) (step_r rfl rfl trivial ?_)
   by_cases g6 : e.Kind = 1
   ·refine step_call rfl rfl rfl rfl (does1_ok (⟨from_, now⟩ : Gdoer) e.Kind (by assumption)) rfl rfl rfl (step_r rfl rfl trivial (step_r (v := (.agg [_, _, _])) rfl rfl (Nat.le_of_ble_eq_true rfl) ?_))
    refine step_callM (Hin := [.box [.pv _, .pv _, .pv _, .pv _, .pv _, .pv _, .pv _, .pv _, .pv _, .pv _, .pv _, .pv _, .pv _, .pv _, .pv _, .pv _, .pv _, .pv _, .pv _, .pv _, .pv _, .pv _, .pv _, .pv _, .pv _, .pv _, .pv _, .pv _, .pv _, .pv _, .pv _, .pv _]]) (H' := [(7, .box [_, _, _, _, _]), (6, .box [_, _, _, _, _, _, _, _, _, _, _, _, _, _, _, _, _, _, _, _, _, _, _, _, _, _, _, _, _, _, _, _]), (5, .box [_, _, _, _, _]), (4, .box [_, _, _, _, _, _, _, _, _, _, _, _, _, _, _, _, _, _, _, _, _, _]), (3, .box [_, _, _]), (2, .box [_, _, _, _, _, _, _, _, _, _, _, _, _, _, _, _, _, _, _, _, _, _]), (1, .box [_, _, _, _, _, _, _, _, _, _, _, _, _, _, _, _, _, _, _, _, _, _]), (0, .box [_, _, _, _, _, _, _, _, _, _])]) (nx' := 8) [6] rfl rfl rfl rfl (.inr (by decide +kernel)) rfl rfl rfl rfl (hurtD_ok (⟨from_, now⟩ : Gdoer) ((ofX c to).1) e (by first | assumption | omega)) rfl (by decide) rfl rfl rfl rfl rfl ?_
    refine step_storeB (H' := [(7, .box [_, _, _, _, _]), (6, _), (5, _), (4, _), (3, _), (2, _), (1, _), (0, _)]) rfl rfl rfl rfl rfl rfl (.inr (by decide +kernel)) rfl ?_
    refine step_nil ?_
    have e7 : doX_J22 c from_ to e now = ((hurtD (⟨from_, now⟩ : Gdoer) ((ofX c to).1) e).2, ((hurtD (⟨from_, now⟩ : Gdoer) ((ofX c to).1) e).1)) := by
     unfold doX_J22
     try dsimp only
     rewrite [if_pos g4, if_pos g6]
     all_goals rfl
    exact cutW_n ((hurtD (⟨from_, now⟩ : Gdoer) ((ofX c to).1) e).2, ((hurtD (⟨from_, now⟩ : Gdoer) ((ofX c to).1) e).1)) e7 (Trans.ren [(0, 3), (1, 4), (2, 5), (3, 6), (4, 7), (5, 0), (6, 1), (7, 2)] (by decide +kernel) (by decide +kernel) rfl ⟨⟨rfl, rfl⟩, ⟨rfl, rfl⟩, ⟨rfl, rfl⟩, ⟨rfl, rfl⟩, ⟨rfl, rfl⟩, trivial⟩ ⟨⟨rfl, rfl, rfl⟩, ⟨rfl, rfl, rfl⟩, ⟨rfl, rfl, rfl⟩, ⟨rfl, rfl, rfl⟩, ⟨rfl, rfl, rfl⟩, trivial⟩ (by decide))
   ·by_cases g8 : e.Kind = 2
    ·refine step_call rfl rfl rfl rfl (does2_ok (⟨from_, now⟩ : Gdoer) e.Kind (by assumption)) rfl rfl rfl (step_r rfl rfl trivial (step_r (v := (.agg [_, _, _])) rfl rfl (Nat.le_of_ble_eq_true rfl) ?_))
     refine step_callM (Hin := [.box [.pv _, .pv _, .pv _, .pv _, .pv _, .pv _, .pv _, .pv _, .pv _, .pv _, .pv _, .pv _, .pv _, .pv _, .pv _, .pv _, .pv _, .pv _, .pv _, .pv _, .pv _, .pv _, .pv _, .pv _, .pv _, .pv _, .pv _, .pv _, .pv _, .pv _, .pv _, .pv _]]) (H' := [(7, .box [_, _, _, _, _]), (6, .box [_, _, _, _, _, _, _, _, _, _, _, _, _, _, _, _, _, _, _, _, _, _, _, _, _, _, _, _, _, _, _, _]), (5, .box [_, _, _, _, _]), (4, .box [_, _, _, _, _, _, _, _, _, _, _, _, _, _, _, _, _, _, _, _, _, _]), (3, .box [_, _, _]), (2, .box [_, _, _, _, _, _, _, _, _, _, _, _, _, _, _, _, _, _, _, _, _, _]), (1, .box [_, _, _, _, _, _, _, _, _, _, _, _, _, _, _, _, _, _, _, _, _, _]), (0, .box [_, _, _, _, _, _, _, _, _, _])]) (nx' := 8) [6] rfl rfl rfl rfl (.inr (by decide +kernel)) rfl rfl rfl rfl (healD_ok (⟨from_, now⟩ : Gdoer) ((ofX c to).1) e) rfl (by decide) rfl rfl rfl rfl rfl ?_
     refine step_storeB (H' := [(7, .box [_, _, _, _, _]), (6, _), (5, _), (4, _), (3, _), (2, _), (1, _), (0, _)]) rfl rfl rfl rfl rfl rfl (.inr (by decide +kernel)) rfl ?_
     refine step_nil ?_
     have e9 : doX_J22 c from_ to e now = ((healD (⟨from_, now⟩ : Gdoer) ((ofX c to).1) e).2, ((healD (⟨from_, now⟩ : Gdoer) ((ofX c to).1) e).1)) := by
      unfold doX_J22
      try dsimp only
      rewrite [if_pos g4, if_neg g6, if_pos g8]
      all_goals rfl
     exact cutW_n ((healD (⟨from_, now⟩ : Gdoer) ((ofX c to).1) e).2, ((healD (⟨from_, now⟩ : Gdoer) ((ofX c to).1) e).1)) e9 (Trans.ren [(0, 3), (1, 4), (2, 5), (3, 6), (4, 7), (5, 0), (6, 1), (7, 2)] (by decide +kernel) (by decide +kernel) rfl ⟨⟨rfl, rfl⟩, ⟨rfl, rfl⟩, ⟨rfl, rfl⟩, ⟨rfl, rfl⟩, ⟨rfl, rfl⟩, trivial⟩ ⟨⟨rfl, rfl, rfl⟩, ⟨rfl, rfl, rfl⟩, ⟨rfl, rfl, rfl⟩, ⟨rfl, rfl, rfl⟩, ⟨rfl, rfl, rfl⟩, trivial⟩ (by decide))
    ·by_cases g10 : e.Kind = 3
     ·refine step_call rfl rfl rfl rfl (does3_ok (⟨from_, now⟩ : Gdoer) e.Kind (by assumption)) rfl rfl rfl (step_r rfl rfl trivial (step_r (v := (.agg [_, _, _])) rfl rfl (Nat.le_of_ble_eq_true rfl) ?_))
      refine step_callM (Hin := [.box [.pv _, .pv _, .pv _, .pv _, .pv _, .pv _, .pv _, .pv _, .pv _, .pv _, .pv _, .pv _, .pv _, .pv _, .pv _, .pv _, .pv _, .pv _, .pv _, .pv _, .pv _, .pv _, .pv _, .pv _, .pv _, .pv _, .pv _, .pv _, .pv _, .pv _, .pv _, .pv _]]) (H' := [(7, .box [_, _, _, _, _]), (6, .box [_, _, _, _, _, _, _, _, _, _, _, _, _, _, _, _, _, _, _, _, _, _, _, _, _, _, _, _, _, _, _, _]), (5, .box [_, _, _, _, _]), (4, .box [_, _, _, _, _, _, _, _, _, _, _, _, _, _, _, _, _, _, _, _, _, _]), (3, .box [_, _, _]), (2, .box [_, _, _, _, _, _, _, _, _, _, _, _, _, _, _, _, _, _, _, _, _, _]), (1, .box [_, _, _, _, _, _, _, _, _, _, _, _, _, _, _, _, _, _, _, _, _, _]), (0, .box [_, _, _, _, _, _, _, _, _, _])]) (nx' := 8) [6] rfl rfl rfl rfl (.inr (by decide +kernel)) rfl rfl rfl rfl (powerD_ok (⟨from_, now⟩ : Gdoer) ((ofX c to).1) e) rfl (by decide) rfl rfl rfl rfl rfl ?_
      refine step_storeB (H' := [(7, .box [_, _, _, _, _]), (6, _), (5, _), (4, _), (3, _), (2, _), (1, _), (0, _)]) rfl rfl rfl rfl rfl rfl (.inr (by decide +kernel)) rfl ?_
      refine step_nil ?_
      have e11 : doX_J22 c from_ to e now = ((powerD (⟨from_, now⟩ : Gdoer) ((ofX c to).1) e).2, ((powerD (⟨from_, now⟩ : Gdoer) ((ofX c to).1) e).1)) := by
       unfold doX_J22
       try dsimp only
       rewrite [if_pos g4, if_neg g6, if_neg g8, if_pos g10]
       all_goals rfl
      exact cutW_n ((powerD (⟨from_, now⟩ : Gdoer) ((ofX c to).1) e).2, ((powerD (⟨from_, now⟩ : Gdoer) ((ofX c to).1) e).1)) e11 (Trans.ren [(0, 3), (1, 4), (2, 5), (3, 6), (4, 7), (5, 0), (6, 1), (7, 2)] (by decide +kernel) (by decide +kernel) rfl ⟨⟨rfl, rfl⟩, ⟨rfl, rfl⟩, ⟨rfl, rfl⟩, ⟨rfl, rfl⟩, ⟨rfl, rfl⟩, trivial⟩ ⟨⟨rfl, rfl, rfl⟩, ⟨rfl, rfl, rfl⟩, ⟨rfl, rfl, rfl⟩, ⟨rfl, rfl, rfl⟩, ⟨rfl, rfl, rfl⟩, trivial⟩ (by decide))
     ·by_cases g12 : e.Kind = 4
      ·refine step_call rfl rfl rfl rfl (does4_ok (⟨from_, now⟩ : Gdoer) e.Kind (by assumption)) rfl rfl rfl (step_r rfl rfl trivial (step_r (v := (.agg [_, _, _])) rfl rfl (Nat.le_of_ble_eq_true rfl) ?_))
       refine step_callM (Hin := [.box [.pv _, .pv _, .pv _, .pv _, .pv _, .pv _, .pv _, .pv _, .pv _, .pv _, .pv _, .pv _, .pv _, .pv _, .pv _, .pv _, .pv _, .pv _, .pv _, .pv _, .pv _, .pv _, .pv _, .pv _, .pv _, .pv _, .pv _, .pv _, .pv _, .pv _, .pv _, .pv _]]) (H' := [(7, .box [_, _, _, _, _]), (6, .box [_, _, _, _, _, _, _, _, _, _, _, _, _, _, _, _, _, _, _, _, _, _, _, _, _, _, _, _, _, _, _, _]), (5, .box [_, _, _, _, _]), (4, .box [_, _, _, _, _, _, _, _, _, _, _, _, _, _, _, _, _, _, _, _, _, _]), (3, .box [_, _, _]), (2, .box [_, _, _, _, _, _, _, _, _, _, _, _, _, _, _, _, _, _, _, _, _, _]), (1, .box [_, _, _, _, _, _, _, _, _, _, _, _, _, _, _, _, _, _, _, _, _, _]), (0, .box [_, _, _, _, _, _, _, _, _, _])]) (nx' := 8) [6] rfl rfl rfl rfl (.inr (by decide +kernel)) rfl rfl rfl rfl (layD_ok (⟨from_, now⟩ : Gdoer) ((ofX c to).1) e (by first | assumption | omega)) rfl (by decide) rfl rfl rfl rfl rfl ?_
       refine step_storeB (H' := [(7, .box [_, _, _, _, _]), (6, _), (5, _), (4, _), (3, _), (2, _), (1, _), (0, _)]) rfl rfl rfl rfl rfl rfl (.inr (by decide +kernel)) rfl ?_
       refine step_nil ?_
       have e13 : doX_J22 c from_ to e now = ((layD (⟨from_, now⟩ : Gdoer) ((ofX c to).1) e).2, ((layD (⟨from_, now⟩ : Gdoer) ((ofX c to).1) e).1)) := by
        unfold doX_J22
        try dsimp only
        rewrite [if_pos g4, if_neg g6, if_neg g8, if_neg g10, if_pos g12]
        all_goals rfl
       exact cutW_n ((layD (⟨from_, now⟩ : Gdoer) ((ofX c to).1) e).2, ((layD (⟨from_, now⟩ : Gdoer) ((ofX c to).1) e).1)) e13 (Trans.ren [(0, 3), (1, 4), (2, 5), (3, 6), (4, 7), (5, 0), (6, 1), (7, 2)] (by decide +kernel) (by decide +kernel) rfl ⟨⟨rfl, rfl⟩, ⟨rfl, rfl⟩, ⟨rfl, rfl⟩, ⟨rfl, rfl⟩, ⟨rfl, rfl⟩, trivial⟩ ⟨⟨rfl, rfl, rfl⟩, ⟨rfl, rfl, rfl⟩, ⟨rfl, rfl, rfl⟩, ⟨rfl, rfl, rfl⟩, ⟨rfl, rfl, rfl⟩, trivial⟩ (by decide))
      ·by_cases g14 : e.Kind = 6
       ·refine step_call rfl rfl rfl rfl (does6_ok (⟨from_, now⟩ : Gdoer) e.Kind (by assumption)) rfl rfl rfl (step_r rfl rfl trivial (step_r (v := (.agg [_, _, _])) rfl rfl (Nat.le_of_ble_eq_true rfl) ?_))
        refine step_callM (Hin := [.box [.pv _, .pv _, .pv _, .pv _, .pv _, .pv _, .pv _, .pv _, .pv _, .pv _, .pv _, .pv _, .pv _, .pv _, .pv _, .pv _, .pv _, .pv _, .pv _, .pv _, .pv _, .pv _, .pv _, .pv _, .pv _, .pv _, .pv _, .pv _, .pv _, .pv _, .pv _, .pv _]]) (H' := [(7, .box [_, _, _, _, _]), (6, .box [_, _, _, _, _, _, _, _, _, _, _, _, _, _, _, _, _, _, _, _, _, _, _, _, _, _, _, _, _, _, _, _]), (5, .box [_, _, _, _, _]), (4, .box [_, _, _, _, _, _, _, _, _, _, _, _, _, _, _, _, _, _, _, _, _, _]), (3, .box [_, _, _]), (2, .box [_, _, _, _, _, _, _, _, _, _, _, _, _, _, _, _, _, _, _, _, _, _]), (1, .box [_, _, _, _, _, _, _, _, _, _, _, _, _, _, _, _, _, _, _, _, _, _]), (0, .box [_, _, _, _, _, _, _, _, _, _])]) (nx' := 8) [6] rfl rfl rfl rfl (.inr (by decide +kernel)) rfl rfl rfl rfl (dispelD_ok (⟨from_, now⟩ : Gdoer) ((ofX c to).1) e (by first | assumption | omega)) rfl (by decide) rfl rfl rfl rfl rfl ?_
        refine step_storeB (H' := [(7, .box [_, _, _, _, _]), (6, _), (5, _), (4, _), (3, _), (2, _), (1, _), (0, _)]) rfl rfl rfl rfl rfl rfl (.inr (by decide +kernel)) rfl ?_
        refine step_nil ?_
        have e15 : doX_J22 c from_ to e now = ((dispelD (⟨from_, now⟩ : Gdoer) ((ofX c to).1) e).2, ((dispelD (⟨from_, now⟩ : Gdoer) ((ofX c to).1) e).1)) := by
         unfold doX_J22
         try dsimp only
         rewrite [if_pos g4, if_neg g6, if_neg g8, if_neg g10, if_neg g12, if_pos g14]
         all_goals rfl
        exact cutW_n ((dispelD (⟨from_, now⟩ : Gdoer) ((ofX c to).1) e).2, ((dispelD (⟨from_, now⟩ : Gdoer) ((ofX c to).1) e).1)) e15 (Trans.ren [(0, 3), (1, 4), (2, 5), (3, 6), (4, 7), (5, 0), (6, 1), (7, 2)] (by decide +kernel) (by decide +kernel) rfl ⟨⟨rfl, rfl⟩, ⟨rfl, rfl⟩, ⟨rfl, rfl⟩, ⟨rfl, rfl⟩, ⟨rfl, rfl⟩, trivial⟩ ⟨⟨rfl, rfl, rfl⟩, ⟨rfl, rfl, rfl⟩, ⟨rfl, rfl, rfl⟩, ⟨rfl, rfl, rfl⟩, ⟨rfl, rfl, rfl⟩, trivial⟩ (by decide))
       ·refine step_call rfl rfl rfl rfl (does0_ok (⟨from_, now⟩ : Gdoer) e.Kind (by refine ⟨?_, ?_, ?_, ?_, ?_⟩ <;> assumption)) rfl rfl rfl ?_
        refine step_r rfl rfl trivial (step_r (v := (.agg [_, _, _])) rfl rfl (Nat.le_of_ble_eq_true rfl) ?_)
        refine step_callM (Hin := [.box [.pv _, .pv _, .pv _, .pv _, .pv _, .pv _, .pv _, .pv _, .pv _, .pv _, .pv _, .pv _, .pv _, .pv _, .pv _, .pv _, .pv _, .pv _, .pv _, .pv _, .pv _, .pv _, .pv _, .pv _, .pv _, .pv _, .pv _, .pv _, .pv _, .pv _, .pv _, .pv _]]) (H' := [(7, .box [_, _, _, _, _]), (6, .box [_, _, _, _, _, _, _, _, _, _, _, _, _, _, _, _, _, _, _, _, _, _, _, _, _, _, _, _, _, _, _, _]), (5, .box [_, _, _, _, _]), (4, .box [_, _, _, _, _, _, _, _, _, _, _, _, _, _, _, _, _, _, _, _, _, _]), (3, .box [_, _, _]), (2, .box [_, _, _, _, _, _, _, _, _, _, _, _, _, _, _, _, _, _, _, _, _, _]), (1, .box [_, _, _, _, _, _, _, _, _, _, _, _, _, _, _, _, _, _, _, _, _, _]), (0, .box [_, _, _, _, _, _, _, _, _, _])]) (nx' := 8) [6] rfl rfl rfl rfl (.inr (by decide +kernel)) rfl rfl rfl rfl (nothingD_ok (⟨from_, now⟩ : Gdoer) ((ofX c to).1) e) rfl (by decide) rfl rfl rfl rfl rfl ?_
        refine step_storeB (H' := [(7, .box [_, _, _, _, _]), (6, _), (5, _), (4, _), (3, _), (2, _), (1, _), (0, _)]) rfl rfl rfl rfl rfl rfl (.inr (by decide +kernel)) rfl ?_
        refine step_nil ?_
        have e16 : doX_J22 c from_ to e now = ((nothingD (⟨from_, now⟩ : Gdoer) ((ofX c to).1) e).2, ((nothingD (⟨from_, now⟩ : Gdoer) ((ofX c to).1) e).1)) := by
         unfold doX_J22
         try dsimp only
         rewrite [if_pos g4, if_neg g6, if_neg g8, if_neg g10, if_neg g12, if_neg g14]
         all_goals rfl
        exact cutW_n ((nothingD (⟨from_, now⟩ : Gdoer) ((ofX c to).1) e).2, ((nothingD (⟨from_, now⟩ : Gdoer) ((ofX c to).1) e).1)) e16 (Trans.ren [(0, 3), (1, 4), (2, 5), (3, 6), (4, 7), (5, 0), (6, 1), (7, 2)] (by decide +kernel) (by decide +kernel) rfl ⟨⟨rfl, rfl⟩, ⟨rfl, rfl⟩, ⟨rfl, rfl⟩, ⟨rfl, rfl⟩, ⟨rfl, rfl⟩, trivial⟩ ⟨⟨rfl, rfl, rfl⟩, ⟨rfl, rfl, rfl⟩, ⟨rfl, rfl, rfl⟩, ⟨rfl, rfl, rfl⟩, ⟨rfl, rfl, rfl⟩, trivial⟩ (by decide))
  ·have g4 : ¬ ((ofX c to).2 = true) := boo_f h4
   refine sem_skip ?_
   have e17 : doX_J22 c from_ to e now = ((ofX c to).1, (⟨0, 0, 0, 0, 0⟩ : GBlow)) := by
    unfold doX_J22
    try dsimp only
    rewrite [if_neg g4]
    all_goals rfl
   exact cutW_n ((ofX c to).1, (⟨0, 0, 0, 0, 0⟩ : GBlow)) e17 (Trans.ren [(0, 3), (1, 4), (2, 5), (3, 6), (4, 7), (5, 0), (6, 1), (7, 2)] (by decide +kernel) (by decide +kernel) rfl ⟨⟨rfl, rfl⟩, ⟨rfl, rfl⟩, ⟨rfl, rfl⟩, ⟨rfl, rfl⟩, ⟨rfl, rfl⟩, trivial⟩ ⟨⟨rfl, rfl, rfl⟩, ⟨rfl, rfl, rfl⟩, ⟨rfl, rfl, rfl⟩, ⟨rfl, rfl, rfl⟩, ⟨rfl, rfl, rfl⟩, trivial⟩ (by decide))
 ·rintro ⟨x_22, b_22⟩ (hJ3 : doX_J22 c from_ to e now = (x_22, b_22))
  show seqK _ _ _ .normal (⟨[(8, .ptr 0 0), (10, .ptr 1 0), (11, .ptr 2 0), (12, .ptr 3 0), (14, .ptr 4 0)], [(0, .box [I e.Kind, I e.Amount, I e.Aura]), (1, .box [I 0, I 0, I 0, I 0, I 0, I 0, I 0, I 0, I 0, I 0, .pv (.str []), .pv (.slc 0 true []), .pv (.slc 0 true []), I 0, I 0, I 0, I 0, I 0, I 0, I 0, I 0, I 0]), (2, .box [I 0, I 0, I 0, I 0, I 0]), (3, .box [I x_22.Actor.Unit.Id, I x_22.Actor.Unit.Kind, I x_22.Actor.Unit.Group, I x_22.Actor.Unit.Health, I x_22.Actor.Unit.MaxHealth, I x_22.Actor.Unit.Power, I x_22.Actor.Unit.MaxPower, I x_22.Actor.Unit.At.X, I x_22.Actor.Unit.At.Y, I x_22.Actor.Unit.Casting, .pv (.str x_22.Actor.Name), .pv (.slc x_22.Actor.Auras.length false (x_22.Actor.Auras.flatMap encGActive)), .pv (.slc x_22.Actor.Cools.length false (x_22.Actor.Cools.flatMap encGCool)), I x_22.Actor.Casting.Now.Ability, I x_22.Actor.Casting.Now.Target, I x_22.Actor.Casting.Now.Since, I x_22.Actor.Casting.Now.Until, I x_22.Actor.Casting.Next.Ability, I x_22.Actor.Casting.Next.Target, I x_22.Actor.Casting.Next.Since, I x_22.Actor.Casting.Next.Until, I x_22.Actor.Casting.Wait, .pv (.slc x_22.content.Abilities.length false (x_22.content.Abilities.flatMap encGAbility)), .pv (.slc x_22.content.Auras.length false (x_22.content.Auras.flatMap encGAura)), .pv (.slc x_22.content.Foes.length false (x_22.content.Foes.flatMap encGFoe)), I x_22.content.Map.W, I x_22.content.Map.H, .pv (.slc x_22.content.Map.Wall.length false (encB x_22.content.Map.Wall)), I x_22.content.Door.X, I x_22.content.Door.Y, I x_22.content.Lair.X, I x_22.content.Lair.Y]), (4, .box [I b_22.Kind, I b_22.Aura, I b_22.Amount, I b_22.Kept, I b_22.Done])], 5, [], 40, 0⟩ : St)
  refine seqK_n (sem_seq (sem_region rfl (step_r rfl rfl (by decide) (step_r rfl rfl trivial (step_r rfl rfl (by decide) ?_)))))
  refine step_storeB (H' := [(0, _), (1, _), (2, _), (3, _), (4, .box [_, _, _, _, _])]) rfl rfl rfl rfl rfl rfl (.inl rfl) rfl ?_
  refine step_nil (seqK_n (sem_seq ?_))
  refine sem_drawW rfl (draw_split 5 4 (by decide +kernel) ?_ ?_)
  ·refine draw_walk (by decide +kernel) rfl ?_
   refine step_r rfl rfl trivial (step_r rfl rfl trivial (step_r rfl rfl (by decide) (step_r (v := (.agg [_, _, _, _, _, _, _, _, _, _, _, _, _, _, _, _, _, _, _, _, _, _])) rfl rfl (Nat.le_of_ble_eq_true rfl) (step_r (v := (.agg [_, _, _, _, _])) rfl rfl (Nat.le_of_ble_eq_true rfl) ?_))))
   refine step_storeB (H' := [(0, _), (1, .box [_, _, _, _, _, _, _, _, _, _, _, _, _, _, _, _, _, _, _, _, _, _]), (2, _), (3, _), (4, _)]) rfl rfl rfl rfl rfl rfl (.inr (by decide +kernel)) rfl ?_
   refine step_storeB (H' := [(0, _), (1, _), (2, .box [_, _, _, _, _]), (3, _), (4, _)]) rfl rfl rfl rfl rfl rfl (.inr (by decide +kernel)) rfl ?_
   refine step_nil (seqK_n (sem_ret ?_))
   have e18 : doX c from_ to e now = (x_22.Actor, (⟨e.Kind, b_22.Aura, b_22.Amount, b_22.Kept, b_22.Done⟩ : GBlow)) := by
    unfold doX
    try dsimp only
    rewrite [hJ3]
    try dsimp only
    all_goals rfl
   rw [e18]
   exact answersR rfl ⟨Nat.le_of_ble_eq_true rfl, Nat.le_of_ble_eq_true rfl, trivial⟩ (rfl) rfl
  ·refine draw_perm [0, 1, 2, 3, 5, 4, 6] (by decide +kernel) (draw_walk (by decide +kernel) rfl ?_)
   refine step_r rfl rfl trivial (step_r rfl rfl trivial (step_r rfl rfl (by decide) (step_r (v := (.agg [_, _, _, _, _, _, _, _, _, _, _, _, _, _, _, _, _, _, _, _, _, _])) rfl rfl (Nat.le_of_ble_eq_true rfl) ?_)))
   refine step_storeB (H' := [(0, _), (1, .box [_, _, _, _, _, _, _, _, _, _, _, _, _, _, _, _, _, _, _, _, _, _]), (2, _), (3, _), (4, _)]) rfl rfl rfl rfl rfl rfl (.inr (by decide +kernel)) rfl ?_
   refine step_r (v := (.agg [_, _, _, _, _])) rfl rfl (Nat.le_of_ble_eq_true rfl) ?_
   refine step_storeB (H' := [(0, _), (1, _), (2, .box [_, _, _, _, _]), (3, _), (4, _)]) rfl rfl rfl rfl rfl rfl (.inr (by decide +kernel)) rfl ?_
   refine step_nil (seqK_n (sem_ret ?_))
   have e19 : doX c from_ to e now = (x_22.Actor, (⟨e.Kind, b_22.Aura, b_22.Amount, b_22.Kept, b_22.Done⟩ : GBlow)) := by
    unfold doX
    try dsimp only
    rewrite [hJ3]
    try dsimp only
    all_goals rfl
   rw [e19]
   exact answersR rfl ⟨Nat.le_of_ble_eq_true rfl, Nat.le_of_ble_eq_true rfl, trivial⟩ (rfl) rfl

theorem hitX_auras (x : Gactor) (n : Int) (l : List Int) : (hitX x n l).2.Actor.Auras.length ≤ x.Actor.Auras.length := by
  unfold hitX; exact take15_len _ _ _

def tickX (x_ : Gactor) (a : GAura) (stacks : Int) : GBlow × Bool × Gactor :=
  if (a.Kind : Int) = 1 then (((hitX x_ (mul1 a.Amount stacks) ([(sumX x_ 4)])).1), true, (hitX x_ (mul1 a.Amount stacks) ([(sumX x_ 4)])).2) else if (a.Kind : Int) = 2 then (((cureN x_ (mul1 a.Amount stacks) ([])).1), true, (cureN x_ (mul1 a.Amount stacks) ([])).2) else ((⟨0, 0, 0, 0, 0⟩ : GBlow), false, x_)
theorem tickX_ok (x_ : Gactor) (a : GAura) (stacks : Int) (hx : x_.Actor.Auras.length ≤ 1000) : Ok Try.prog 18 [.ptr 0 0, aGAura a, I stacks] [.box [I x_.Actor.Unit.Id, I x_.Actor.Unit.Kind, I x_.Actor.Unit.Group, I x_.Actor.Unit.Health, I x_.Actor.Unit.MaxHealth, I x_.Actor.Unit.Power, I x_.Actor.Unit.MaxPower, I x_.Actor.Unit.At.X, I x_.Actor.Unit.At.Y, I x_.Actor.Unit.Casting, .pv (.str x_.Actor.Name), .pv (.slc x_.Actor.Auras.length false (x_.Actor.Auras.flatMap encGActive)), .pv (.slc x_.Actor.Cools.length false (x_.Actor.Cools.flatMap encGCool)), I x_.Actor.Casting.Now.Ability, I x_.Actor.Casting.Now.Target, I x_.Actor.Casting.Now.Since, I x_.Actor.Casting.Now.Until, I x_.Actor.Casting.Next.Ability, I x_.Actor.Casting.Next.Target, I x_.Actor.Casting.Next.Since, I x_.Actor.Casting.Next.Until, I x_.Actor.Casting.Wait, .pv (.slc x_.content.Abilities.length false (x_.content.Abilities.flatMap encGAbility)), .pv (.slc x_.content.Auras.length false (x_.content.Auras.flatMap encGAura)), .pv (.slc x_.content.Foes.length false (x_.content.Foes.flatMap encGFoe)), I x_.content.Map.W, I x_.content.Map.H, .pv (.slc x_.content.Map.Wall.length false (encB x_.content.Map.Wall)), I x_.content.Door.X, I x_.content.Door.Y, I x_.content.Lair.X, I x_.content.Lair.Y]] (.tup [aGBlow (tickX x_ a stacks).1, B (tickX x_ a stacks).2.1]) [.box [I (tickX x_ a stacks).2.2.Actor.Unit.Id, I (tickX x_ a stacks).2.2.Actor.Unit.Kind, I (tickX x_ a stacks).2.2.Actor.Unit.Group, I (tickX x_ a stacks).2.2.Actor.Unit.Health, I (tickX x_ a stacks).2.2.Actor.Unit.MaxHealth, I (tickX x_ a stacks).2.2.Actor.Unit.Power, I (tickX x_ a stacks).2.2.Actor.Unit.MaxPower, I (tickX x_ a stacks).2.2.Actor.Unit.At.X, I (tickX x_ a stacks).2.2.Actor.Unit.At.Y, I (tickX x_ a stacks).2.2.Actor.Unit.Casting, .pv (.str (tickX x_ a stacks).2.2.Actor.Name), .pv (.slc (tickX x_ a stacks).2.2.Actor.Auras.length false ((tickX x_ a stacks).2.2.Actor.Auras.flatMap encGActive)), .pv (.slc (tickX x_ a stacks).2.2.Actor.Cools.length false ((tickX x_ a stacks).2.2.Actor.Cools.flatMap encGCool)), I (tickX x_ a stacks).2.2.Actor.Casting.Now.Ability, I (tickX x_ a stacks).2.2.Actor.Casting.Now.Target, I (tickX x_ a stacks).2.2.Actor.Casting.Now.Since, I (tickX x_ a stacks).2.2.Actor.Casting.Now.Until, I (tickX x_ a stacks).2.2.Actor.Casting.Next.Ability, I (tickX x_ a stacks).2.2.Actor.Casting.Next.Target, I (tickX x_ a stacks).2.2.Actor.Casting.Next.Since, I (tickX x_ a stacks).2.2.Actor.Casting.Next.Until, I (tickX x_ a stacks).2.2.Actor.Casting.Wait, .pv (.slc (tickX x_ a stacks).2.2.content.Abilities.length false ((tickX x_ a stacks).2.2.content.Abilities.flatMap encGAbility)), .pv (.slc (tickX x_ a stacks).2.2.content.Auras.length false ((tickX x_ a stacks).2.2.content.Auras.flatMap encGAura)), .pv (.slc (tickX x_ a stacks).2.2.content.Foes.length false ((tickX x_ a stacks).2.2.content.Foes.flatMap encGFoe)), I (tickX x_ a stacks).2.2.content.Map.W, I (tickX x_ a stacks).2.2.content.Map.H, .pv (.slc (tickX x_ a stacks).2.2.content.Map.Wall.length false (encB (tickX x_ a stacks).2.2.content.Map.Wall)), I (tickX x_ a stacks).2.2.content.Door.X, I (tickX x_ a stacks).2.2.content.Door.Y, I (tickX x_ a stacks).2.2.content.Lair.X, I (tickX x_ a stacks).2.2.content.Lair.Y]] [] := by
 refine ok_of_sem Try.func18 rfl ?_
 show Walks Try.prog _ _ ⟨[(0, .ptr 0 0), (1, aGAura a), (2, I stacks)], [(0, .box [I x_.Actor.Unit.Id, I x_.Actor.Unit.Kind, I x_.Actor.Unit.Group, I x_.Actor.Unit.Health, I x_.Actor.Unit.MaxHealth, I x_.Actor.Unit.Power, I x_.Actor.Unit.MaxPower, I x_.Actor.Unit.At.X, I x_.Actor.Unit.At.Y, I x_.Actor.Unit.Casting, .pv (.str x_.Actor.Name), .pv (.slc x_.Actor.Auras.length false (x_.Actor.Auras.flatMap encGActive)), .pv (.slc x_.Actor.Cools.length false (x_.Actor.Cools.flatMap encGCool)), I x_.Actor.Casting.Now.Ability, I x_.Actor.Casting.Now.Target, I x_.Actor.Casting.Now.Since, I x_.Actor.Casting.Now.Until, I x_.Actor.Casting.Next.Ability, I x_.Actor.Casting.Next.Target, I x_.Actor.Casting.Next.Since, I x_.Actor.Casting.Next.Until, I x_.Actor.Casting.Wait, .pv (.slc x_.content.Abilities.length false (x_.content.Abilities.flatMap encGAbility)), .pv (.slc x_.content.Auras.length false (x_.content.Auras.flatMap encGAura)), .pv (.slc x_.content.Foes.length false (x_.content.Foes.flatMap encGFoe)), I x_.content.Map.W, I x_.content.Map.H, .pv (.slc x_.content.Map.Wall.length false (encB x_.content.Map.Wall)), I x_.content.Door.X, I x_.content.Door.Y, I x_.content.Lair.X, I x_.content.Lair.Y])], 1, [], 29, 1⟩
 refine sem_seq (sem_region rfl (step_n (o := .box [_, _, _, _, _, _, _]) (nx' := 2) rfl rfl rfl trivial (step_n (o := .box [_, _, _, _, _]) (nx' := 3) rfl rfl rfl trivial (step_r rfl rfl trivial (step_nil (seqK_n (sem_seq (sem_region rfl (step_r rfl rfl (by decide) (step_r rfl rfl trivial (step_r rfl rfl trivial ?_)))))))))))
 refine step_call rfl rfl rfl rfl (mul1_ok a.Amount stacks) rfl rfl rfl (step_r rfl rfl trivial (step_nil (seqK_n (sem_seq (sem_seq (sem_region rfl (step_r rfl rfl (by decide) (step_r rfl rfl trivial (step_nil (seqK_n (sem_block ?_)))))))))))
 refine sem_seq (sem_region rfl (step_bin rfl rfl rfl rfl rfl trivial (step_r rfl rfl trivial (step_nil (seqK_n ?_)))))
 refine sem_cond rfl (fun h4 => ?_) (fun h4 => ?_)
 ·have g4 : (a.Kind : Int) = 1 := beq_t h4
  refine sem_seq (sem_region rfl (step_r rfl rfl trivial (step_r rfl rfl trivial (step_r rfl rfl trivial ?_))))
  refine step_callJ (Hin := [.box [.pv _, .pv _, .pv _, .pv _, .pv _, .pv _, .pv _, .pv _, .pv _, .pv _, .pv _, .pv _, .pv _, .pv _, .pv _, .pv _, .pv _, .pv _, .pv _, .pv _, .pv _, .pv _, .pv _, .pv _, .pv _, .pv _, .pv _, .pv _, .pv _, .pv _, .pv _, .pv _]]) (H' := [(2, _), (1, _), (0, _)]) (nx' := 3) [0] rfl rfl rfl rfl rfl rfl rfl rfl rfl (by (repeat' apply And.intro) <;> first | trivial | rfl | exact flat_len (fun _ => rfl) _ | exact encI_len _ | exact Nat.le_of_ble_eq_true rfl | assumption) (sumX_ok x_ 4) rfl (by decide) rfl rfl trivial rfl rfl rfl rfl ?_
  refine step_n (o := .row _ _ [_]) (nx' := 4) rfl rfl rfl (by decide) ?_
  refine step_callM (Hin := [.box [.pv _, .pv _, .pv _, .pv _, .pv _, .pv _, .pv _, .pv _, .pv _, .pv _, .pv _, .pv _, .pv _, .pv _, .pv _, .pv _, .pv _, .pv _, .pv _, .pv _, .pv _, .pv _, .pv _, .pv _, .pv _, .pv _, .pv _, .pv _, .pv _, .pv _, .pv _, .pv _], .row _ _ _]) (H' := [(3, .row _ _ _), (2, .box [_, _, _, _, _]), (1, .box [_, _, _, _, _, _, _]), (0, .box [_, _, _, _, _, _, _, _, _, _, _, _, _, _, _, _, _, _, _, _, _, _, _, _, _, _, _, _, _, _, _, _])]) (nx' := 4) [0, 3] rfl rfl rfl rfl (.inl rfl) rfl rfl rfl rfl (hitX_ok x_ (mul1 a.Amount stacks) ([(sumX x_ 4)]) (by first | assumption | omega)) rfl (by decide) rfl rfl rfl rfl rfl ?_
  refine step_storeB (H' := [(3, _), (2, .box [_, _, _, _, _]), (1, _), (0, _)]) rfl rfl rfl rfl rfl rfl (.inl rfl) rfl ?_
  refine step_r rfl rfl trivial (step_nil (seqK_n (sem_ret (blkK_r (seqK_r ?_)))))
  have e5 : tickX x_ a stacks = (((hitX x_ (mul1 a.Amount stacks) ([(sumX x_ 4)])).1), true, (hitX x_ (mul1 a.Amount stacks) ([(sumX x_ 4)])).2) := by
   unfold tickX
   try dsimp only
   rewrite [if_pos g4]
   all_goals rfl
  rw [e5]
  exact answersGR [] [] rfl ⟨Nat.le_of_ble_eq_true rfl, trivial, trivial⟩ rfl (by (repeat' apply And.intro) <;> first | trivial | rfl | exact flat_len (fun _ => rfl) _ | exact encI_len _ | assumption) (rfl) rfl rfl rfl (by decide) rfl rfl ⟨⟨rfl, rfl⟩, trivial⟩
 ·have g4 : ¬ ((a.Kind : Int) = 1) := beq_f h4
  refine sem_seq (sem_region rfl (step_bin rfl rfl rfl rfl rfl trivial (step_r rfl rfl trivial (step_nil (seqK_n ?_)))))
  refine sem_cond rfl (fun h7 => ?_) (fun h7 => ?_)
  ·have g7 : (a.Kind : Int) = 2 := beq_t h7
   refine sem_seq (sem_region rfl (step_r rfl rfl trivial (step_r rfl rfl trivial ?_)))
   refine step_callM (Hin := [.box [.pv _, .pv _, .pv _, .pv _, .pv _, .pv _, .pv _, .pv _, .pv _, .pv _, .pv _, .pv _, .pv _, .pv _, .pv _, .pv _, .pv _, .pv _, .pv _, .pv _, .pv _, .pv _, .pv _, .pv _, .pv _, .pv _, .pv _, .pv _, .pv _, .pv _, .pv _, .pv _]]) (H' := [(2, .box [_, _, _, _, _]), (1, .box [_, _, _, _, _, _, _]), (0, .box [_, _, _, _, _, _, _, _, _, _, _, _, _, _, _, _, _, _, _, _, _, _, _, _, _, _, _, _, _, _, _, _])]) (nx' := 3) [0] rfl rfl rfl rfl (.inl rfl) rfl rfl rfl rfl (cureN_ok x_ (mul1 a.Amount stacks) ([]) true) rfl (by decide) rfl rfl rfl rfl rfl ?_
   refine step_storeB (H' := [(2, .box [_, _, _, _, _]), (1, _), (0, _)]) rfl rfl rfl rfl rfl rfl (.inl rfl) rfl ?_
   refine step_r rfl rfl trivial (step_nil (seqK_n (sem_ret (blkK_r (seqK_r ?_)))))
   have e8 : tickX x_ a stacks = (((cureN x_ (mul1 a.Amount stacks) ([])).1), true, (cureN x_ (mul1 a.Amount stacks) ([])).2) := by
    unfold tickX
    try dsimp only
    rewrite [if_neg g4, if_pos g7]
    all_goals rfl
   rw [e8]
   exact answersGR [] [] rfl ⟨Nat.le_of_ble_eq_true rfl, trivial, trivial⟩ rfl (by (repeat' apply And.intro) <;> first | trivial | rfl | exact flat_len (fun _ => rfl) _ | exact encI_len _ | assumption) (rfl) rfl rfl rfl (by decide) rfl rfl ⟨⟨rfl, rfl⟩, trivial⟩
  ·have g7 : ¬ ((a.Kind : Int) = 2) := beq_f h7
   refine sem_skip (blkK_n (seqK_n (sem_seq (sem_region rfl (step_r (v := (.agg [_, _, _, _, _])) rfl rfl trivial ?_)))))
   refine step_storeB (H' := [(2, .box [_, _, _, _, _]), (1, _), (0, _)]) rfl rfl rfl rfl rfl rfl (.inl rfl) rfl ?_
   refine step_r rfl rfl trivial (step_nil (seqK_n (sem_ret ?_)))
   have e9 : tickX x_ a stacks = ((⟨0, 0, 0, 0, 0⟩ : GBlow), false, x_) := by
    unfold tickX
    try dsimp only
    rewrite [if_neg g4, if_neg g7]
    all_goals rfl
   rw [e9]
   exact answersGR [] [] rfl ⟨Nat.le_of_ble_eq_true rfl, trivial, trivial⟩ rfl (by (repeat' apply And.intro) <;> first | trivial | rfl | exact flat_len (fun _ => rfl) _ | exact encI_len _ | assumption) (rfl) rfl rfl rfl (by decide) rfl rfl ⟨⟨rfl, rfl⟩, trivial⟩

theorem tickX_auras (x : Gactor) (a : GAura) (n : Int) : (tickX x a n).2.2.Actor.Auras.length ≤ x.Actor.Auras.length := by
  unfold tickX
  split
  · exact hitX_auras _ _ _
  · split
    · unfold cureN; exact Nat.le_refl _
    · exact Nat.le_refl _

def tickE_L0 (c : GContent) : List GActive → Nat → (List GBlow) → Gactor → (List GBlow) × Gactor
  | [], k0, out0, x0' => (out0, x0')
  | x0 :: l_, k0, out0, x0' => if (x0'.Actor.Unit).Health < 1 then (out0, x0') else if (tickX (x0') ((getU c x0.Aura).1) x0.Stacks).2.1 = true then tickE_L0 c l_ (k0 + 1) (out0 ++ [(⟨((tickX (x0') ((getU c x0.Aura).1) x0.Stacks).1).Kind, x0.Aura, ((tickX (x0') ((getU c x0.Aura).1) x0.Stacks).1).Amount, ((tickX (x0') ((getU c x0.Aura).1) x0.Stacks).1).Kept, ((tickX (x0') ((getU c x0.Aura).1) x0.Stacks).1).Done⟩ : GBlow)]) ((tickX (x0') ((getU c x0.Aura).1) x0.Stacks).2.2) else tickE_L0 c l_ (k0 + 1) out0 ((tickX (x0') ((getU c x0.Aura).1) x0.Stacks).2.2)
def tickE (c : GContent) (to : GActor) (now : Int) : GActor × (List GBlow) :=
  if (ofX c to).2 = true then (match tickE_L0 c ((tick15 c ((ofX c to).1.Actor.Auras) now).2) 0 ([]) (⟨(⟨(ofX c to).1.Actor.Unit, (ofX c to).1.Actor.Name, (tick15 c ((ofX c to).1.Actor.Auras) now).1, (ofX c to).1.Actor.Cools, (ofX c to).1.Actor.Casting⟩ : GActor), (ofX c to).1.content⟩ : Gactor) with
    | (out_0, x_0) => ((⟨x_0.Actor.Unit, x_0.Actor.Name, (expire15 x_0.Actor.Auras now).1, x_0.Actor.Cools, x_0.Actor.Casting⟩ : GActor), out_0)) else ((ofX c to).1.Actor, [])
theorem tickE_ok (c : GContent) (to : GActor) (now : Int) (hX : FewX to) : Ok Try.prog 8 [aGContent c, aGActor to, I now] [] (.tup [aGActor (tickE c to now).1, .ref 0 5 0 (tickE c to now).2.length]) [.row 48 5 ((tickE c to now).2.flatMap encGBlow)] [] := by
 refine Ok.len fun hlen => ?_
 have hl_c_Abilities : c.Abilities.length ≤ maxLen := hlen _ (by simp [lensL, lens, lensP])
 have hl_c_Auras : c.Auras.length ≤ maxLen := hlen _ (by simp [lensL, lens, lensP])
 have hl_c_Foes : c.Foes.length ≤ maxLen := hlen _ (by simp [lensL, lens, lensP])
 have hl_c_Map_Wall : c.Map.Wall.length ≤ maxLen := hlen _ (by simp [lensL, lens, lensP])
 have hl_to_Auras : to.Auras.length ≤ maxLen := hlen _ (by simp [lensL, lens, lensP])
 have hl_to_Cools : to.Cools.length ≤ maxLen := hlen _ (by simp [lensL, lens, lensP])
 unfold maxLen at hl_c_Abilities hl_c_Auras hl_c_Foes hl_c_Map_Wall hl_to_Auras hl_to_Cools
 refine ok_of_sem Try.func8 rfl ?_
 show Walks Try.prog _ _ ⟨[(0, aGContent c), (1, aGActor to), (2, I now)], [], 0, [], 102, 0⟩
 refine sem_seq (sem_region rfl (step_n (o := .box [_, _, _, _, _, _, _, _, _, _]) (nx' := 1) rfl rfl rfl trivial (step_n (o := .box [_, _, _, _, _, _, _, _, _, _, _, _, _, _, _, _, _, _, _, _, _, _]) (nx' := 2) rfl rfl rfl trivial (step_n (o := .box [_, _, _, _, _, _, _, _, _, _, _, _, _, _, _, _, _, _, _, _, _, _]) (nx' := 3) rfl rfl rfl trivial (step_n (nx' := 4) rfl rfl rfl trivial (step_nil (seqK_n (sem_seq (sem_region rfl (step_r (v := (.agg [_, _, _, _, _, _, _, _, _, _])) rfl rfl (Nat.le_of_ble_eq_true rfl) (step_r (v := (.agg [_, _, _, _, _, _, _, _, _, _, _, _, _, _, _, _, _, _, _, _, _, _])) rfl rfl (Nat.le_of_ble_eq_true rfl) ?_)))))))))))
 refine step_callN (out' := .tup [.ptr 4 _, _]) (H' := [(4, .box [_, _, _, _, _, _, _, _, _, _, _, _, _, _, _, _, _, _, _, _, _, _, _, _, _, _, _, _, _, _, _, _]), (3, _), (2, _), (1, _), (0, _)]) (nx' := 5) rfl rfl rfl rfl rfl rfl rfl (by (repeat' apply And.intro) <;> first | trivial | rfl | exact flat_len (fun _ => rfl) _ | exact encI_len _ | exact Nat.le_of_ble_eq_true rfl | assumption) (ofX_ok c to (by first | assumption)) rfl rfl rfl rfl ?_
 have p1 := ofX_few (c := c) (x := to) (by assumption)
 refine step_r rfl rfl trivial (step_r rfl rfl trivial (step_r rfl rfl trivial (step_r rfl rfl trivial (step_r rfl rfl trivial (step_nil (seqK_n (sem_seq (sem_seq (sem_region rfl (step_r rfl rfl trivial (step_r rfl rfl trivial ?_)))))))))))
 refine step_nil (seqK_n ?_)
 refine sem_cond rfl (fun h3 => ?_) (fun h3 => ?_)
 ·have g3 : ¬ ((ofX c to).2 = true) := boo_f (not_t h3)
  refine sem_seq (sem_region rfl (step_r rfl rfl trivial (step_r rfl rfl trivial (step_r rfl rfl (by decide) (step_r (v := (.agg [_, _, _, _, _, _, _, _, _, _, _, _, _, _, _, _, _, _, _, _, _, _])) rfl rfl (Nat.le_of_ble_eq_true rfl) ?_)))))
  refine step_storeB (H' := [(4, _), (3, _), (2, .box [_, _, _, _, _, _, _, _, _, _, _, _, _, _, _, _, _, _, _, _, _, _]), (1, _), (0, _)]) rfl rfl rfl rfl rfl rfl (.inl rfl) rfl ?_
  refine step_n (nx' := 6) rfl rfl rfl trivial (step_nil (seqK_n (sem_ret (seqK_r ?_))))
  have e4 : tickE c to now = ((ofX c to).1.Actor, []) := by
   unfold tickE
   try dsimp only
   rewrite [if_neg g3]
   all_goals rfl
  rw [e4]
  exact answersGR [] [5] rfl ⟨Nat.le_of_ble_eq_true rfl, trivial, trivial⟩ rfl (by (repeat' apply And.intro) <;> first | trivial | rfl | exact flat_len (fun _ => rfl) _ | exact encI_len _ | assumption) (rfl) rfl rfl rfl (by decide) rfl rfl ⟨⟨rfl, rfl⟩, trivial⟩
 ·have g3 : (ofX c to).2 = true := (not_f h3)
  refine sem_skip (seqK_n (sem_seq (sem_region rfl (step_n (nx' := 6) rfl rfl rfl trivial (step_nil (seqK_n (sem_seq ?_)))))))
  refine sem_drawn rfl (by decide +kernel) rfl ?_
  refine step_r (v := (.agg [_, _, _, _, _, _, _, _, _, _])) rfl rfl (Nat.le_of_ble_eq_true rfl) (step_r rfl rfl trivial (step_r rfl rfl trivial (step_r rfl rfl (by decide) (step_r rfl rfl (by decide) (step_r rfl rfl trivial (step_r rfl rfl trivial ?_))))))
  refine step_callN (out' := .tup [_, _]) (H' := [(5, _), (4, _), (3, _), (2, _), (1, _), (0, _)]) (nx' := 6) rfl rfl rfl rfl rfl rfl rfl (by (repeat' apply And.intro) <;> first | trivial | rfl | exact flat_len (fun _ => rfl) _ | exact encI_len _ | exact Nat.le_of_ble_eq_true rfl | assumption) (Ok.frz (tick15_ok c ((ofX c to).1.Actor.Auras) false now (by first | assumption | omega | (simp only [List.length_nil, List.length_cons, List.length_append] at *; omega) | (simp; done) | (simp; omega))) rfl rfl (by (repeat' apply And.intro) <;> first | trivial | rfl | exact flat_len (s := 6) (enc := encGActive) (fun _ => rfl) _ | exact flat_len (fun _ => rfl) _ | exact encI_len _ | exact Nat.le_of_ble_eq_true rfl | assumption)) rfl rfl rfl rfl ?_
  have p6 := tick15_len c ((ofX c to).1.Actor.Auras) now
  refine step_r rfl rfl trivial (step_r rfl rfl trivial (step_r rfl rfl trivial (step_r rfl rfl trivial (step_r rfl rfl trivial (step_nil (seqK_n (sem_seq (sem_region rfl (step_r rfl rfl trivial (step_r rfl rfl trivial (step_r rfl rfl trivial ?_)))))))))))
  refine step_r rfl rfl (by decide) (step_r rfl rfl (by decide) ?_)
  refine step_storeB (H' := [(5, _), (4, .box [_, _, _, _, _, _, _, _, _, _, _, _, _, _, _, _, _, _, _, _, _, _, _, _, _, _, _, _, _, _, _, _]), (3, _), (2, _), (1, _), (0, _)]) rfl rfl rfl rfl rfl rfl (.inl rfl) rfl ?_
  refine step_nil (seqK_n (sem_seq (sem_seq (sem_region rfl (step_r rfl rfl trivial (step_r rfl rfl trivial (step_r rfl rfl trivial (step_nil (seqK_n ?_)))))))))
  refine sem_cutW (fun w_ : (List GBlow) × Gactor => match w_ with | (out_0, x_0) => (⟨[(2, I now), (6, .ptr 0 0), (8, .ptr 1 0), (10, .ref 2 5 0 out_0.length)], [(0, .box [I 0, I 0, I 0, I 0, I 0, I 0, I 0, I 0, I 0, I 0, .pv (.str []), .pv (.slc 0 true []), .pv (.slc 0 true []), I 0, I 0, I 0, I 0, I 0, I 0, I 0, I 0, I 0]), (1, .box [I x_0.Actor.Unit.Id, I x_0.Actor.Unit.Kind, I x_0.Actor.Unit.Group, I x_0.Actor.Unit.Health, I x_0.Actor.Unit.MaxHealth, I x_0.Actor.Unit.Power, I x_0.Actor.Unit.MaxPower, I x_0.Actor.Unit.At.X, I x_0.Actor.Unit.At.Y, I x_0.Actor.Unit.Casting, .pv (.str x_0.Actor.Name), .pv (.slc x_0.Actor.Auras.length false (x_0.Actor.Auras.flatMap encGActive)), .pv (.slc x_0.Actor.Cools.length false (x_0.Actor.Cools.flatMap encGCool)), I x_0.Actor.Casting.Now.Ability, I x_0.Actor.Casting.Now.Target, I x_0.Actor.Casting.Now.Since, I x_0.Actor.Casting.Now.Until, I x_0.Actor.Casting.Next.Ability, I x_0.Actor.Casting.Next.Target, I x_0.Actor.Casting.Next.Since, I x_0.Actor.Casting.Next.Until, I x_0.Actor.Casting.Wait, .pv (.slc x_0.content.Abilities.length false (x_0.content.Abilities.flatMap encGAbility)), .pv (.slc x_0.content.Auras.length false (x_0.content.Auras.flatMap encGAura)), .pv (.slc x_0.content.Foes.length false (x_0.content.Foes.flatMap encGFoe)), I x_0.content.Map.W, I x_0.content.Map.H, .pv (.slc x_0.content.Map.Wall.length false (encB x_0.content.Map.Wall)), I x_0.content.Door.X, I x_0.content.Door.Y, I x_0.content.Lair.X, I x_0.content.Lair.Y]), (2, .row 48 5 (out_0.flatMap encGBlow))], 3, [], 102, 0⟩ : St)) (fun w_ : (List GBlow) × Gactor => match w_ with | (out_0, x_0) => tickE_L0 c ((tick15 c ((ofX c to).1.Actor.Auras) now).2) 0 ([]) (⟨(⟨(ofX c to).1.Actor.Unit, (ofX c to).1.Actor.Name, (tick15 c ((ofX c to).1.Actor.Auras) now).1, (ofX c to).1.Actor.Cools, (ofX c to).1.Actor.Casting⟩ : GActor), (ofX c to).1.content⟩ : Gactor) = (out_0, x_0) ∧ (x_0.Actor.Auras.length ≤ 1000)) ?_ ?_
  ·refine sem_block ?_
   refine sem_loopT (fun w_ : Nat × (List GBlow) × Gactor => match w_ with | (k0, out0, x0') => (⟨[(2, I now), (3, .ptr 0 0), (6, .ptr 1 0), (8, .ptr 2 0), (10, .ref 3 5 0 out0.length), (47, .pv (.slc ((tick15 c ((ofX c to).1.Actor.Auras) now).2).length false ((tick15 c ((ofX c to).1.Actor.Auras) now).2.flatMap encGActive))), (48, I (tick15 c ((ofX c to).1.Actor.Auras) now).2.length), (49, I k0)], [(0, .box [.pv (.slc c.Abilities.length false (c.Abilities.flatMap encGAbility)), .pv (.slc c.Auras.length false (c.Auras.flatMap encGAura)), .pv (.slc c.Foes.length false (c.Foes.flatMap encGFoe)), I c.Map.W, I c.Map.H, .pv (.slc c.Map.Wall.length false (encB c.Map.Wall)), I c.Door.X, I c.Door.Y, I c.Lair.X, I c.Lair.Y]), (1, .box [I 0, I 0, I 0, I 0, I 0, I 0, I 0, I 0, I 0, I 0, .pv (.str []), .pv (.slc 0 true []), .pv (.slc 0 true []), I 0, I 0, I 0, I 0, I 0, I 0, I 0, I 0, I 0]), (2, .box [I x0'.Actor.Unit.Id, I x0'.Actor.Unit.Kind, I x0'.Actor.Unit.Group, I x0'.Actor.Unit.Health, I x0'.Actor.Unit.MaxHealth, I x0'.Actor.Unit.Power, I x0'.Actor.Unit.MaxPower, I x0'.Actor.Unit.At.X, I x0'.Actor.Unit.At.Y, I x0'.Actor.Unit.Casting, .pv (.str x0'.Actor.Name), .pv (.slc x0'.Actor.Auras.length false (x0'.Actor.Auras.flatMap encGActive)), .pv (.slc x0'.Actor.Cools.length false (x0'.Actor.Cools.flatMap encGCool)), I x0'.Actor.Casting.Now.Ability, I x0'.Actor.Casting.Now.Target, I x0'.Actor.Casting.Now.Since, I x0'.Actor.Casting.Now.Until, I x0'.Actor.Casting.Next.Ability, I x0'.Actor.Casting.Next.Target, I x0'.Actor.Casting.Next.Since, I x0'.Actor.Casting.Next.Until, I x0'.Actor.Casting.Wait, .pv (.slc x0'.content.Abilities.length false (x0'.content.Abilities.flatMap encGAbility)), .pv (.slc x0'.content.Auras.length false (x0'.content.Auras.flatMap encGAura)), .pv (.slc x0'.content.Foes.length false (x0'.content.Foes.flatMap encGFoe)), I x0'.content.Map.W, I x0'.content.Map.H, .pv (.slc x0'.content.Map.Wall.length false (encB x0'.content.Map.Wall)), I x0'.content.Door.X, I x0'.content.Door.Y, I x0'.content.Lair.X, I x0'.content.Lair.Y]), (3, .row 48 5 (out0.flatMap encGBlow))], 4, [], 102, 0⟩ : St)) (fun w_ : Nat × (List GBlow) × Gactor => match w_ with | (k0, out0, x0') => tickE_L0 c (((tick15 c ((ofX c to).1.Actor.Auras) now).2).drop k0) k0 out0 (x0') = tickE_L0 c ((tick15 c ((ofX c to).1.Actor.Auras) now).2) 0 ([]) (⟨(⟨(ofX c to).1.Actor.Unit, (ofX c to).1.Actor.Name, (tick15 c ((ofX c to).1.Actor.Auras) now).1, (ofX c to).1.Actor.Cools, (ofX c to).1.Actor.Casting⟩ : GActor), (ofX c to).1.content⟩ : Gactor) ∧ k0 ≤ ((tick15 c ((ofX c to).1.Actor.Auras) now).2).length ∧ x0'.Actor.Auras.length ≤ 1000 ∧ out0.length ≤ k0) (fun w_ : Nat × (List GBlow) × Gactor => match w_ with | (k0, out0, x0') => ((tick15 c ((ofX c to).1.Actor.Auras) now).2).length - k0) (0, [], (⟨(⟨(ofX c to).1.Actor.Unit, (ofX c to).1.Actor.Name, (tick15 c ((ofX c to).1.Actor.Auras) now).1, (ofX c to).1.Actor.Cools, (ofX c to).1.Actor.Casting⟩ : GActor), (ofX c to).1.content⟩ : Gactor)) (⟨rfl, Nat.zero_le _, by refine ⟨?_, by simp⟩; have h6 := (tick15_len c (ofX c to).1.Actor.Auras now).1; simp only [] at *; omega⟩) ?_ (fun w_ hh_ => ?_)
   ·exact (Trans.ren [(1, 2), (2, 4), (3, 5), (4, 1), (5, 3)] (by decide +kernel) (by decide +kernel) rfl ⟨⟨rfl, rfl⟩, ⟨rfl, rfl⟩, ⟨rfl, rfl⟩, ⟨rfl, rfl⟩, ⟨congrArg (fun n => some (AV.ref 5 5 0 n)) (by first | rfl | simp only [List.length_set] | simp | omega | (simp; omega)), rfl⟩, ⟨rfl, rfl⟩, ⟨rfl, rfl⟩, ⟨rfl, rfl⟩, trivial⟩ ⟨⟨rfl, rfl, rfl⟩, ⟨rfl, rfl, rfl⟩, ⟨rfl, rfl, rfl⟩, ⟨rfl, rfl, rfl⟩, trivial⟩ (by decide))
   obtain ⟨k0, out0, x0'⟩ := w_
   obtain ⟨hI0, hb0, hv0⟩ := hh_
   show Walks Try.prog _ _ (⟨[(2, I now), (3, .ptr 0 0), (6, .ptr 1 0), (8, .ptr 2 0), (10, .ref 3 5 0 out0.length), (47, .pv (.slc ((tick15 c ((ofX c to).1.Actor.Auras) now).2).length false ((tick15 c ((ofX c to).1.Actor.Auras) now).2.flatMap encGActive))), (48, I (tick15 c ((ofX c to).1.Actor.Auras) now).2.length), (49, I k0)], [(0, .box [.pv (.slc c.Abilities.length false (c.Abilities.flatMap encGAbility)), .pv (.slc c.Auras.length false (c.Auras.flatMap encGAura)), .pv (.slc c.Foes.length false (c.Foes.flatMap encGFoe)), I c.Map.W, I c.Map.H, .pv (.slc c.Map.Wall.length false (encB c.Map.Wall)), I c.Door.X, I c.Door.Y, I c.Lair.X, I c.Lair.Y]), (1, .box [I 0, I 0, I 0, I 0, I 0, I 0, I 0, I 0, I 0, I 0, .pv (.str []), .pv (.slc 0 true []), .pv (.slc 0 true []), I 0, I 0, I 0, I 0, I 0, I 0, I 0, I 0, I 0]), (2, .box [I x0'.Actor.Unit.Id, I x0'.Actor.Unit.Kind, I x0'.Actor.Unit.Group, I x0'.Actor.Unit.Health, I x0'.Actor.Unit.MaxHealth, I x0'.Actor.Unit.Power, I x0'.Actor.Unit.MaxPower, I x0'.Actor.Unit.At.X, I x0'.Actor.Unit.At.Y, I x0'.Actor.Unit.Casting, .pv (.str x0'.Actor.Name), .pv (.slc x0'.Actor.Auras.length false (x0'.Actor.Auras.flatMap encGActive)), .pv (.slc x0'.Actor.Cools.length false (x0'.Actor.Cools.flatMap encGCool)), I x0'.Actor.Casting.Now.Ability, I x0'.Actor.Casting.Now.Target, I x0'.Actor.Casting.Now.Since, I x0'.Actor.Casting.Now.Until, I x0'.Actor.Casting.Next.Ability, I x0'.Actor.Casting.Next.Target, I x0'.Actor.Casting.Next.Since, I x0'.Actor.Casting.Next.Until, I x0'.Actor.Casting.Wait, .pv (.slc x0'.content.Abilities.length false (x0'.content.Abilities.flatMap encGAbility)), .pv (.slc x0'.content.Auras.length false (x0'.content.Auras.flatMap encGAura)), .pv (.slc x0'.content.Foes.length false (x0'.content.Foes.flatMap encGFoe)), I x0'.content.Map.W, I x0'.content.Map.H, .pv (.slc x0'.content.Map.Wall.length false (encB x0'.content.Map.Wall)), I x0'.content.Door.X, I x0'.content.Door.Y, I x0'.content.Lair.X, I x0'.content.Lair.Y]), (3, .row 48 5 (out0.flatMap encGBlow))], 4, [], 102, 0⟩ : St)
   refine sem_seq (sem_region rfl (step_bin rfl rfl rfl rfl rfl trivial (step_nil (seqK_n (sem_seq ?_)))))
   refine sem_cond rfl (fun h8 => ?_) (fun h8 => ?_)
   ·have g8 : (k0 : Int) < ((tick15 c ((ofX c to).1.Actor.Auras) now).2.length) := of_decide_eq_true h8
    have hk0 : k0 < ((tick15 c ((ofX c to).1.Actor.Auras) now).2).length := by omega
    obtain ⟨x0, hx0⟩ : ∃ z_, ((tick15 c ((ofX c to).1.Actor.Auras) now).2)[k0]? = some z_ := ⟨_, List.getElem?_eq_getElem hk0⟩
    refine sem_skip (seqK_n (sem_seq (sem_block (sem_seq (sem_region rfl (step_idxS (k := k0) rfl rfl rfl rfl hk0 (flat_ne (s := 6) (enc := encGActive) (fun _ => rfl) (by decide) hk0) rfl (step_load_row rfl rfl rfl (flat_lt (s := 6) (enc := encGActive) (fun _ => rfl) hk0) (flat_take (s := 6) (enc := encGActive) (fun _ => rfl) hx0) rfl (step_n (o := .box [_, _, _, _, _, _]) (nx' := 5) rfl rfl rfl trivial ?_))))))))
    refine step_storeB (H' := [(4, .box [_, _, _, _, _, _]), (0, _), (1, _), (2, _), (3, _)]) rfl rfl rfl rfl rfl rfl (.inl rfl) rfl ?_
    refine step_nil (seqK_n (sem_seq (sem_seq (sem_region rfl (step_r rfl rfl trivial (step_r rfl rfl trivial (step_r rfl rfl (by decide) (step_r rfl rfl (by decide) (step_r (v := (.agg [_, _, _, _, _, _, _, _, _, _])) rfl rfl (Nat.le_of_ble_eq_true rfl) (step_call rfl rfl rfl rfl (dead_ok (x0'.Actor.Unit)) rfl rfl rfl (step_nil ?_)))))))))))
    refine seqK_n ?_
    refine sem_cond rfl (fun h9 => ?_) (fun h9 => ?_)
    ·have g9 : (x0'.Actor.Unit).Health < 1 := of_decide_eq_true h9
     refine sem_exit (seqK_e ?_)
     refine blkK_f rfl ?_
     refine seqK_e (lupK_e (blkK_t rfl ?_))
     have e10 : tickE_L0 c ((tick15 c ((ofX c to).1.Actor.Auras) now).2) 0 ([]) (⟨(⟨(ofX c to).1.Actor.Unit, (ofX c to).1.Actor.Name, (tick15 c ((ofX c to).1.Actor.Auras) now).1, (ofX c to).1.Actor.Cools, (ofX c to).1.Actor.Casting⟩ : GActor), (ofX c to).1.content⟩ : Gactor) = (out0, x0') := by
      rewrite [← hI0, drop_cons hx0]
      rewrite [tickE_L0]
      try dsimp only
      rewrite [if_pos g9]
      all_goals rfl
     exact cutW_n (out0, x0') ⟨e10, by first | assumption | omega | (simp; omega) | simp_all | grind⟩ (Trans.ren [(0, 1), (1, 2), (2, 3), (3, 0)] (by decide +kernel) (by decide +kernel) rfl ⟨⟨rfl, rfl⟩, ⟨rfl, rfl⟩, ⟨rfl, rfl⟩, ⟨rfl, rfl⟩, trivial⟩ ⟨⟨rfl, rfl, rfl⟩, ⟨rfl, rfl, rfl⟩, ⟨rfl, rfl, rfl⟩, trivial⟩ (by decide))
    ·have g9 : ¬ ((x0'.Actor.Unit).Health < 1) := of_decide_eq_false h9
     refine sem_skip (seqK_n (sem_seq (sem_region rfl (step_r (v := (.agg [_, _, _, _, _, _, _, _, _, _])) rfl rfl (Nat.le_of_ble_eq_true rfl) (step_r rfl rfl (by decide) (step_r rfl rfl trivial (step_call rfl rfl rfl rfl (getU_ok c x0.Aura) rfl rfl rfl (step_r rfl rfl trivial (step_r rfl rfl trivial (step_r rfl rfl trivial (step_n (o := .box [_, _, _, _, _, _, _]) (nx' := 6) rfl rfl rfl trivial ?_)))))))))))
     refine step_storeB (H' := [(5, .box [_, _, _, _, _, _, _]), (4, _), (0, _), (1, _), (2, _), (3, _)]) rfl rfl rfl rfl rfl rfl (.inl rfl) rfl ?_
     refine step_r rfl rfl trivial (step_nil (seqK_n (sem_seq (sem_region rfl (step_r rfl rfl trivial (step_r (v := (.agg [_, _, _, _, _, _, _])) rfl rfl (Nat.le_of_ble_eq_true rfl) (step_r rfl rfl (by decide) (step_r rfl rfl trivial ?_))))))))
     refine step_callM (Hin := [.box [.pv _, .pv _, .pv _, .pv _, .pv _, .pv _, .pv _, .pv _, .pv _, .pv _, .pv _, .pv _, .pv _, .pv _, .pv _, .pv _, .pv _, .pv _, .pv _, .pv _, .pv _, .pv _, .pv _, .pv _, .pv _, .pv _, .pv _, .pv _, .pv _, .pv _, .pv _, .pv _]]) (out' := .tup [(.agg [_, _, _, _, _]), _]) (H' := [(5, .box [_, _, _, _, _, _, _]), (4, .box [_, _, _, _, _, _]), (0, .box [_, _, _, _, _, _, _, _, _, _]), (1, .box [_, _, _, _, _, _, _, _, _, _, _, _, _, _, _, _, _, _, _, _, _, _]), (2, .box [_, _, _, _, _, _, _, _, _, _, _, _, _, _, _, _, _, _, _, _, _, _, _, _, _, _, _, _, _, _, _, _]), (3, .row _ _ _)]) (nx' := 6) [2] rfl rfl rfl rfl (.inl rfl) rfl rfl rfl rfl (tickX_ok (x0') ((getU c x0.Aura).1) x0.Stacks (by first | assumption | omega)) rfl (by decide) rfl rfl rfl rfl rfl ?_
     have p12 := tickX_auras (x0') ((getU c x0.Aura).1) x0.Stacks
     refine step_r rfl rfl trivial (step_r rfl rfl trivial (step_r rfl rfl trivial (step_n (o := .box [_, _, _, _, _]) (nx' := 7) rfl rfl rfl trivial ?_)))
     refine step_storeB (H' := [(6, .box [_, _, _, _, _]), (5, _), (4, _), (0, _), (1, _), (2, _), (3, _)]) rfl rfl rfl rfl rfl rfl (.inl rfl) rfl ?_
     refine step_r rfl rfl trivial (step_nil (seqK_n (sem_seq (sem_region rfl (step_r rfl rfl trivial (step_nil (seqK_n ?_)))))))
     refine sem_cond rfl (fun h14 => ?_) (fun h14 => ?_)
     ·have g14 : (tickX (x0') ((getU c x0.Aura).1) x0.Stacks).2.1 = true := h14
      refine sem_seq (sem_region rfl (step_r rfl rfl (by decide) (step_r rfl rfl trivial (step_r rfl rfl (by decide) ?_))))
      refine step_storeB (H' := [(6, .box [_, _, _, _, _]), (5, _), (4, _), (0, _), (1, _), (2, _), (3, _)]) rfl rfl rfl rfl rfl rfl (.inl rfl) rfl ?_
      refine step_nil (seqK_n (sem_region rfl (step_r rfl rfl trivial (step_r (v := (.agg [_, _, _, _, _])) rfl rfl (Nat.le_of_ble_eq_true rfl) (step_n (o := .row _ _ [_, _, _, _, _]) (nx' := 8) rfl rfl rfl (by decide) ?_)))))
      refine step_appendC (m := 1) (new := [_, _, _, _, _]) (cs' := (out0 ++ [(⟨((tickX (x0') ((getU c x0.Aura).1) x0.Stacks).1).Kind, x0.Aura, ((tickX (x0') ((getU c x0.Aura).1) x0.Stacks).1).Amount, ((tickX (x0') ((getU c x0.Aura).1) x0.Stacks).1).Kept, ((tickX (x0') ((getU c x0.Aura).1) x0.Stacks).1).Done⟩ : GBlow)]).flatMap encGBlow) (n' := (out0 ++ [(⟨((tickX (x0') ((getU c x0.Aura).1) x0.Stacks).1).Kind, x0.Aura, ((tickX (x0') ((getU c x0.Aura).1) x0.Stacks).1).Amount, ((tickX (x0') ((getU c x0.Aura).1) x0.Stacks).1).Kept, ((tickX (x0') ((getU c x0.Aura).1) x0.Stacks).1).Done⟩ : GBlow)]).length) (H' := [(7, .row _ _ _), (6, .box [_, _, _, _, _]), (5, .box [_, _, _, _, _, _, _]), (4, .box [_, _, _, _, _, _]), (0, .box [_, _, _, _, _, _, _, _, _, _]), (1, .box [_, _, _, _, _, _, _, _, _, _, _, _, _, _, _, _, _, _, _, _, _, _]), (2, .box [_, _, _, _, _, _, _, _, _, _, _, _, _, _, _, _, _, _, _, _, _, _, _, _, _, _, _, _, _, _, _, _]), (3, .row _ _ _)]) rfl rfl rfl (rfl) rfl rfl rfl rfl rfl rfl (flat_len (s := 5) (enc := encGBlow) (fun _ => rfl) out0) (rfl) (by first | decide | (unfold maxGrow; omega) | (unfold maxGrow; simp; omega) | (unfold maxGrow; simp only [List.length_append, List.length_take, List.length_drop, List.length_cons, List.length_nil, IntKind.wrap_i64] at *; omega)) (len_snoc out0 _) (((flat_snoc (enc := encGBlow) (l := out0) (⟨((tickX (x0') ((getU c x0.Aura).1) x0.Stacks).1).Kind, x0.Aura, ((tickX (x0') ((getU c x0.Aura).1) x0.Stacks).1).Amount, ((tickX (x0') ((getU c x0.Aura).1) x0.Stacks).1).Kept, ((tickX (x0') ((getU c x0.Aura).1) x0.Stacks).1).Done⟩ : GBlow))).symm) (.inl rfl) rfl rfl (.keep rfl (.keep rfl (.keep rfl (.keep rfl (.keep rfl (.keep rfl (.keep rfl (.keep rfl .nil)))))))) (.keep rfl (.keep rfl (.lose (v' := .undef) rfl (.keep rfl (.keep rfl (.keep rfl (.keep rfl (.keep rfl (.keep rfl (.keep rfl (.keep rfl (.keep rfl (.keep rfl (.keep rfl (.keep rfl (.keep rfl (.keep rfl (.keep rfl (.keep rfl (.keep rfl (.keep rfl (.keep rfl (.keep rfl (.keep rfl (.keep rfl (.keep rfl (.keep rfl (.keep rfl (.keep rfl (.keep rfl (.keep rfl (.keep rfl (.keep rfl (.keep rfl (.keep rfl (.keep rfl (.keep rfl (.keep rfl (.keep rfl (.keep rfl (.lose (v' := .undef) rfl (.keep rfl (.keep rfl (.keep rfl .nil)))))))))))))))))))))))))))))))))))))))))))) ?_
      refine step_r rfl rfl trivial (step_nil (blkK_n (seqK_n (sem_region rfl (step_bin rfl rfl rfl rfl rfl trivial (step_r rfl rfl trivial (step_nil ?_)))))))
      have e16 : tickE_L0 c (((tick15 c ((ofX c to).1.Actor.Auras) now).2).drop k0) k0 out0 (x0') = tickE_L0 c (((tick15 c ((ofX c to).1.Actor.Auras) now).2).drop (k0 + 1)) (k0 + 1) (out0 ++ [(⟨((tickX (x0') ((getU c x0.Aura).1) x0.Stacks).1).Kind, x0.Aura, ((tickX (x0') ((getU c x0.Aura).1) x0.Stacks).1).Amount, ((tickX (x0') ((getU c x0.Aura).1) x0.Stacks).1).Kept, ((tickX (x0') ((getU c x0.Aura).1) x0.Stacks).1).Done⟩ : GBlow)]) ((tickX (x0') ((getU c x0.Aura).1) x0.Stacks).2.2) := by
       rewrite [drop_cons hx0]
       rewrite [tickE_L0]
       try dsimp only
       rewrite [if_neg g9, if_pos g14]
       all_goals rfl
      exact lup_againT (k0 + 1, (out0 ++ [(⟨((tickX (x0') ((getU c x0.Aura).1) x0.Stacks).1).Kind, x0.Aura, ((tickX (x0') ((getU c x0.Aura).1) x0.Stacks).1).Amount, ((tickX (x0') ((getU c x0.Aura).1) x0.Stacks).1).Kept, ((tickX (x0') ((getU c x0.Aura).1) x0.Stacks).1).Done⟩ : GBlow)]), (tickX (x0') ((getU c x0.Aura).1) x0.Stacks).2.2) ⟨e16.symm.trans hI0, hk0, by first | omega | assumption | (simp only [List.length_append, List.length_cons, List.length_nil, List.length_set]; omega) | (simp; omega) | grind⟩ (by show ((tick15 c ((ofX c to).1.Actor.Auras) now).2).length - (k0 + 1) < ((tick15 c ((ofX c to).1.Actor.Auras) now).2).length - k0; omega) (Trans.ren [] (by decide +kernel) (by decide +kernel) rfl ⟨⟨rfl, rfl⟩, ⟨rfl, rfl⟩, ⟨rfl, rfl⟩, ⟨rfl, rfl⟩, ⟨rfl, rfl⟩, ⟨rfl, rfl⟩, ⟨rfl, rfl⟩, ⟨congrArg (fun n => some (I n)) (wrapI (k := k0) (by first | omega | (simp; omega))), rfl⟩, trivial⟩ ⟨⟨rfl, rfl, rfl⟩, ⟨rfl, rfl, rfl⟩, ⟨rfl, rfl, rfl⟩, ⟨rfl, rfl, rfl⟩, trivial⟩ (by decide))
     ·have g14 : ¬ ((tickX (x0') ((getU c x0.Aura).1) x0.Stacks).2.1 = true) := boo_f h14
      refine sem_skip (blkK_n (seqK_n (sem_region rfl (step_bin rfl rfl rfl rfl rfl trivial (step_r rfl rfl trivial (step_nil ?_))))))
      have e18 : tickE_L0 c (((tick15 c ((ofX c to).1.Actor.Auras) now).2).drop k0) k0 out0 (x0') = tickE_L0 c (((tick15 c ((ofX c to).1.Actor.Auras) now).2).drop (k0 + 1)) (k0 + 1) out0 ((tickX (x0') ((getU c x0.Aura).1) x0.Stacks).2.2) := by
       rewrite [drop_cons hx0]
       rewrite [tickE_L0]
       try dsimp only
       rewrite [if_neg g9, if_neg g14]
       all_goals rfl
      exact lup_againT (k0 + 1, out0, (tickX (x0') ((getU c x0.Aura).1) x0.Stacks).2.2) ⟨e18.symm.trans hI0, hk0, by first | omega | assumption | (simp only [List.length_append, List.length_cons, List.length_nil, List.length_set]; omega) | (simp; omega) | grind⟩ (by show ((tick15 c ((ofX c to).1.Actor.Auras) now).2).length - (k0 + 1) < ((tick15 c ((ofX c to).1.Actor.Auras) now).2).length - k0; omega) (Trans.ren [] (by decide +kernel) (by decide +kernel) rfl ⟨⟨rfl, rfl⟩, ⟨rfl, rfl⟩, ⟨rfl, rfl⟩, ⟨rfl, rfl⟩, ⟨rfl, rfl⟩, ⟨rfl, rfl⟩, ⟨rfl, rfl⟩, ⟨congrArg (fun n => some (I n)) (wrapI (k := k0) (by first | omega | (simp; omega))), rfl⟩, trivial⟩ ⟨⟨rfl, rfl, rfl⟩, ⟨rfl, rfl, rfl⟩, ⟨rfl, rfl, rfl⟩, ⟨rfl, rfl, rfl⟩, trivial⟩ (by decide))
   ·have g8 : ¬ ((k0 : Int) < ((tick15 c ((ofX c to).1.Actor.Auras) now).2.length)) := of_decide_eq_false h8
    have hk0 : k0 = ((tick15 c ((ofX c to).1.Actor.Auras) now).2).length := by omega
    refine sem_exit (seqK_e (lupK_e (blkK_t rfl ?_)))
    have e19 : tickE_L0 c ((tick15 c ((ofX c to).1.Actor.Auras) now).2) 0 ([]) (⟨(⟨(ofX c to).1.Actor.Unit, (ofX c to).1.Actor.Name, (tick15 c ((ofX c to).1.Actor.Auras) now).1, (ofX c to).1.Actor.Cools, (ofX c to).1.Actor.Casting⟩ : GActor), (ofX c to).1.content⟩ : Gactor) = (out0, x0') := by
     rewrite [← hI0, hk0, List.drop_length]
     rewrite [tickE_L0]
     try dsimp only
     all_goals rfl
    exact cutW_n (out0, x0') ⟨e19, by first | assumption | omega | (simp; omega) | simp_all | grind⟩ (Trans.ren [(0, 1), (1, 2), (2, 3), (3, 0)] (by decide +kernel) (by decide +kernel) rfl ⟨⟨rfl, rfl⟩, ⟨rfl, rfl⟩, ⟨rfl, rfl⟩, ⟨rfl, rfl⟩, trivial⟩ ⟨⟨rfl, rfl, rfl⟩, ⟨rfl, rfl, rfl⟩, ⟨rfl, rfl, rfl⟩, trivial⟩ (by decide))
  ·rintro ⟨out_0, x_0⟩ ⟨(hJ7 : tickE_L0 c ((tick15 c ((ofX c to).1.Actor.Auras) now).2) 0 ([]) (⟨(⟨(ofX c to).1.Actor.Unit, (ofX c to).1.Actor.Name, (tick15 c ((ofX c to).1.Actor.Auras) now).1, (ofX c to).1.Actor.Cools, (ofX c to).1.Actor.Casting⟩ : GActor), (ofX c to).1.content⟩ : Gactor) = (out_0, x_0)), hE0⟩
   show seqK _ _ _ .normal (⟨[(2, I now), (6, .ptr 0 0), (8, .ptr 1 0), (10, .ref 2 5 0 out_0.length)], [(0, .box [I 0, I 0, I 0, I 0, I 0, I 0, I 0, I 0, I 0, I 0, .pv (.str []), .pv (.slc 0 true []), .pv (.slc 0 true []), I 0, I 0, I 0, I 0, I 0, I 0, I 0, I 0, I 0]), (1, .box [I x_0.Actor.Unit.Id, I x_0.Actor.Unit.Kind, I x_0.Actor.Unit.Group, I x_0.Actor.Unit.Health, I x_0.Actor.Unit.MaxHealth, I x_0.Actor.Unit.Power, I x_0.Actor.Unit.MaxPower, I x_0.Actor.Unit.At.X, I x_0.Actor.Unit.At.Y, I x_0.Actor.Unit.Casting, .pv (.str x_0.Actor.Name), .pv (.slc x_0.Actor.Auras.length false (x_0.Actor.Auras.flatMap encGActive)), .pv (.slc x_0.Actor.Cools.length false (x_0.Actor.Cools.flatMap encGCool)), I x_0.Actor.Casting.Now.Ability, I x_0.Actor.Casting.Now.Target, I x_0.Actor.Casting.Now.Since, I x_0.Actor.Casting.Now.Until, I x_0.Actor.Casting.Next.Ability, I x_0.Actor.Casting.Next.Target, I x_0.Actor.Casting.Next.Since, I x_0.Actor.Casting.Next.Until, I x_0.Actor.Casting.Wait, .pv (.slc x_0.content.Abilities.length false (x_0.content.Abilities.flatMap encGAbility)), .pv (.slc x_0.content.Auras.length false (x_0.content.Auras.flatMap encGAura)), .pv (.slc x_0.content.Foes.length false (x_0.content.Foes.flatMap encGFoe)), I x_0.content.Map.W, I x_0.content.Map.H, .pv (.slc x_0.content.Map.Wall.length false (encB x_0.content.Map.Wall)), I x_0.content.Door.X, I x_0.content.Door.Y, I x_0.content.Lair.X, I x_0.content.Lair.Y]), (2, .row 48 5 (out_0.flatMap encGBlow))], 3, [], 102, 0⟩ : St)
   refine seqK_n (sem_seq (sem_region rfl (step_r rfl rfl trivial (step_r rfl rfl trivial (step_r rfl rfl trivial (step_r rfl rfl (by decide) (step_r rfl rfl (by decide) (step_r rfl rfl trivial (step_r rfl rfl trivial ?_)))))))))
   refine step_callN (out' := .tup [_, _]) (H' := [(0, _), (1, _), (2, _)]) (nx' := 3) rfl rfl rfl rfl rfl rfl rfl (by (repeat' apply And.intro) <;> first | trivial | rfl | exact flat_len (fun _ => rfl) _ | exact encI_len _ | exact Nat.le_of_ble_eq_true rfl | assumption) (Ok.frz (expire15_ok x_0.Actor.Auras false now (by first | assumption | omega | (simp only [List.length_nil, List.length_cons, List.length_append] at *; omega) | (simp; done) | (simp; omega))) rfl rfl (by (repeat' apply And.intro) <;> first | trivial | rfl | exact flat_len (s := 6) (enc := encGActive) (fun _ => rfl) _ | exact flat_len (fun _ => rfl) _ | exact encI_len _ | exact Nat.le_of_ble_eq_true rfl | assumption)) rfl rfl rfl rfl ?_
   have p21 := expire15_len x_0.Actor.Auras now
   refine step_r rfl rfl trivial (step_r rfl rfl trivial (step_r rfl rfl trivial (step_r rfl rfl trivial (step_r rfl rfl (by decide) (step_r rfl rfl (by decide) ?_)))))
   refine step_storeB (H' := [(0, _), (1, .box [_, _, _, _, _, _, _, _, _, _, _, _, _, _, _, _, _, _, _, _, _, _, _, _, _, _, _, _, _, _, _, _]), (2, _)]) rfl rfl rfl rfl rfl rfl (.inl rfl) rfl ?_
   refine step_nil (seqK_n (sem_seq (sem_region rfl (step_r rfl rfl trivial (step_r rfl rfl trivial (step_r rfl rfl (by decide) (step_r (v := (.agg [_, _, _, _, _, _, _, _, _, _, _, _, _, _, _, _, _, _, _, _, _, _])) rfl rfl (Nat.le_of_ble_eq_true rfl) (step_r rfl rfl trivial ?_))))))))
   refine step_storeB (H' := [(0, .box [_, _, _, _, _, _, _, _, _, _, _, _, _, _, _, _, _, _, _, _, _, _]), (1, _), (2, _)]) rfl rfl rfl rfl rfl rfl (.inl rfl) rfl ?_
   refine step_r rfl rfl trivial (step_nil (seqK_n (sem_ret ?_)))
   have e22 : tickE c to now = ((⟨x_0.Actor.Unit, x_0.Actor.Name, (expire15 x_0.Actor.Auras now).1, x_0.Actor.Cools, x_0.Actor.Casting⟩ : GActor), out_0) := by
    unfold tickE
    try dsimp only
    rewrite [if_pos g3, hJ7]
    try dsimp only
    all_goals rfl
   rw [e22]
   exact answersGR [] [2] rfl ⟨Nat.le_of_ble_eq_true rfl, trivial, trivial⟩ rfl (by (repeat' apply And.intro) <;> first | trivial | rfl | exact flat_len (fun _ => rfl) _ | exact encI_len _ | assumption) (rfl) rfl rfl rfl (by decide) rfl rfl ⟨⟨rfl, rfl⟩, trivial⟩

def sameCool (x_ : GCool) (y_ : GCool) : Bool :=
  if (x_.Ability : Int) = y_.Ability then (decide (x_.Back = y_.Back)) else false
theorem sameCool_ok (x_ : GCool) (y_ : GCool) : Ok Try.prog 23 [aGCool x_, aGCool y_] [] (B (sameCool x_ y_)) [] [] := by
 refine Ok.len fun hlen => ?_
 have hl_x__Back : x_.Back.length ≤ maxLen := hlen _ (by simp [lensL, lens, lensP])
 have hl_y__Back : y_.Back.length ≤ maxLen := hlen _ (by simp [lensL, lens, lensP])
 unfold maxLen at hl_x__Back hl_y__Back
 refine ok_of_sem Try.func23 rfl ?_
 show Walks Try.prog _ _ ⟨[(0, aGCool x_), (1, aGCool y_)], [], 0, [], 17, 0⟩
 refine sem_seq (sem_region rfl (step_n (o := .box [_, _]) (nx' := 1) rfl rfl rfl trivial (step_n (o := .box [_, _]) (nx' := 2) rfl rfl rfl trivial (step_r rfl rfl trivial (step_nil (seqK_n (sem_seq (sem_region rfl (step_r rfl rfl (by decide) (step_r rfl rfl trivial (step_r rfl rfl (by decide) ?_)))))))))))
 refine step_r rfl rfl trivial (step_bin rfl rfl rfl rfl rfl trivial (step_r rfl rfl trivial ?_))
 refine step_gs rfl (fun h2 => ?_) (fun h2 => ?_)
 ·have g2 : (x_.Ability : Int) = y_.Ability := beq_t h2
  refine step_g1 rfl h2 (step_r rfl rfl (by decide) (step_g1 rfl h2 (step_r rfl rfl trivial (step_g1 rfl h2 (step_r rfl rfl (by decide) (step_g1 rfl h2 (step_r rfl rfl trivial (step_g1 rfl h2 (step_call rfl rfl rfl rfl (equal_Int x_.Back false y_.Back false) rfl rfl rfl (step_pickT rfl h2 rfl rfl (step_r rfl rfl trivial ?_)))))))))))
  refine step_nil (seqK_n (sem_ret ?_))
  have e4 : sameCool x_ y_ = (decide (x_.Back = y_.Back)) := by
   unfold sameCool
   try dsimp only
   rewrite [if_pos g2]
   all_goals rfl
  rw [e4]
  exact answersR rfl ⟨trivial, trivial⟩ (rfl) rfl
 ·have g2 : ¬ ((x_.Ability : Int) = y_.Ability) := beq_f h2
  refine step_g0 rfl h2 rfl (step_g0 rfl h2 rfl (step_g0 rfl h2 rfl (step_g0 rfl h2 rfl (step_g0 rfl h2 rfl (step_pickF rfl h2 rfl rfl (step_r rfl rfl trivial (step_nil (seqK_n (sem_ret ?_)))))))))
  have e5 : sameCool x_ y_ = false := by
   unfold sameCool
   try dsimp only
   rewrite [if_neg g2]
   all_goals rfl
  rw [e5]
  exact answersR rfl ⟨trivial, trivial⟩ (rfl) rfl

def equalCools_L0 (s2 : List GCool) : List GCool → Nat → Sum Bool Unit
  | [], k0 => .inr ()
  | x0 :: l_, k0 => if sameCool x0 (s2.getD k0 default) = true then equalCools_L0 s2 l_ (k0 + 1) else .inl false
def equalCools (s1 : List GCool) (s2 : List GCool) : Bool :=
  if (s1.length : Int) = s2.length then (match equalCools_L0 s2 s1 0 with
    | .inl r_ => r_
    | .inr () => true) else false
theorem equalCools_ok (s1 : List GCool) (s1_f : Bool) (s2 : List GCool) (s2_f : Bool) : Ok Try.prog 26 [.pv (.slc s1.length s1_f (s1.flatMap encGCool)), .pv (.slc s2.length s2_f (s2.flatMap encGCool)), .fnc 23 []] [] (B (equalCools s1 s2)) [] [] := by
 refine Ok.len fun hlen => ?_
 have hl_s1 : s1.length ≤ maxLen := hlen _ (by simp [lensL, lens, lensP])
 have hl_s2 : s2.length ≤ maxLen := hlen _ (by simp [lensL, lens, lensP])
 unfold maxLen at hl_s1 hl_s2
 refine ok_of_sem Try.func26 rfl ?_
 show Walks Try.prog _ _ ⟨[(0, .pv (.slc s1.length s1_f (s1.flatMap encGCool))), (1, .pv (.slc s2.length s2_f (s2.flatMap encGCool))), (2, .fnc 23 [])], [], 0, [], 32, 0⟩
 refine sem_trans (Trans.loose (T' := [(0, .pv (.slc s1.length s1_f (s1.flatMap encGCool))), (1, .pv (.slc s2.length s2_f (s2.flatMap encGCool))), (2, .pv (.fn 23))]) (H' := []) ⟨⟨_, rfl, .inl rfl⟩, ⟨_, rfl, .inl rfl⟩, ⟨_, rfl, .inr rfl⟩, trivial⟩ trivial) ?_
 refine sem_seq (sem_region rfl (step_r rfl rfl trivial (step_nil (seqK_n (sem_seq (sem_seq (sem_region rfl (step_r rfl rfl trivial (step_r rfl rfl trivial (step_r rfl rfl trivial (step_r rfl rfl trivial ?_)))))))))))
 refine step_bin rfl rfl rfl rfl rfl trivial (step_nil (seqK_n ?_))
 refine sem_cond rfl (fun h1 => ?_) (fun h1 => ?_)
 ·have g1 : ¬ ((s1.length : Int) = s2.length) := bne_t h1
  refine sem_seq (sem_region rfl (step_r rfl rfl trivial (step_nil (seqK_n (sem_ret (seqK_r ?_))))))
  have e2 : equalCools s1 s2 = false := by
   unfold equalCools
   try dsimp only
   rewrite [if_neg g1]
   all_goals rfl
  rw [e2]
  exact answersR rfl ⟨trivial, trivial⟩ (rfl) rfl
 ·have g1 : (s1.length : Int) = s2.length := bne_f h1
  refine sem_skip (seqK_n (sem_seq (sem_seq (sem_region rfl (step_r rfl rfl trivial (step_r rfl rfl trivial (step_r rfl rfl trivial (step_nil (seqK_n ?_)))))))))
  refine sem_cutW (fun w_ : Unit => match w_ with | () => (⟨[], [], 0, [], 32, 0⟩ : St)) (fun w_ => equalCools_L0 s2 s1 0 = .inr w_) ?_ ?_
  ·refine sem_block ?_
   refine sem_loopT (fun k0 : Nat => (⟨[(1, .pv (.slc s2.length s2_f (s2.flatMap encGCool))), (2, .pv (.fn 23)), (15, .pv (.slc s1.length s1_f (s1.flatMap encGCool))), (16, I s1.length), (17, I k0)], [], 0, [], 32, 0⟩ : St)) (fun k0 : Nat => equalCools_L0 s2 (s1.drop k0) k0 = equalCools_L0 s2 s1 0 ∧ k0 ≤ s1.length) (fun k0 : Nat => s1.length - k0) 0 (⟨rfl, Nat.zero_le _⟩) ?_ (fun k0 hh_ => ?_)
   ·exact (Trans.ren [] (by decide +kernel) (by decide +kernel) rfl ⟨⟨rfl, rfl⟩, ⟨rfl, rfl⟩, ⟨rfl, rfl⟩, ⟨rfl, rfl⟩, ⟨rfl, rfl⟩, trivial⟩ trivial (by decide))
   obtain ⟨hI0, hb0⟩ := hh_
   show Walks Try.prog _ _ (⟨[(1, .pv (.slc s2.length s2_f (s2.flatMap encGCool))), (2, .pv (.fn 23)), (15, .pv (.slc s1.length s1_f (s1.flatMap encGCool))), (16, I s1.length), (17, I k0)], [], 0, [], 32, 0⟩ : St)
   refine sem_seq (sem_region rfl (step_bin rfl rfl rfl rfl rfl trivial (step_nil (seqK_n (sem_seq ?_)))))
   refine sem_cond rfl (fun h4 => ?_) (fun h4 => ?_)
   ·have g4 : (k0 : Int) < s1.length := of_decide_eq_true h4
    have hk0 : k0 < s1.length := by omega
    obtain ⟨x0, hx0⟩ : ∃ z_, s1[k0]? = some z_ := ⟨_, List.getElem?_eq_getElem hk0⟩
    refine sem_skip (seqK_n (sem_seq (sem_block (sem_seq (sem_region rfl (step_r rfl rfl trivial (step_idxS (k := k0) rfl rfl rfl rfl hk0 (flat_ne (s := 2) (enc := encGCool) (fun _ => rfl) (by decide) hk0) rfl (step_load_row rfl rfl rfl (flat_lt (s := 2) (enc := encGCool) (fun _ => rfl) hk0) (flat_take (s := 2) (enc := encGCool) (fun _ => rfl) hx0) rfl (step_n (o := .box [_, _]) (nx' := 1) rfl rfl rfl trivial (step_r rfl rfl trivial ?_))))))))))
    refine step_storeB (H' := [(0, .box [_, _])]) rfl rfl rfl rfl rfl rfl (.inl rfl) rfl ?_
    refine step_nil (seqK_n (sem_seq (sem_region rfl (step_r rfl rfl trivial (step_r rfl rfl trivial ?_)))))
    have jk6 : k0 < s2.length := by first | assumption | omega | (simp only [List.length_set, List.length_append]; omega) | (simp only [IntKind.wrap_i64] at *; omega) | (simp; omega) | simp_all
    refine step_idxS (k := k0) rfl rfl rfl rfl jk6 (flat_ne (s := 2) (enc := encGCool) (fun _ => rfl) (by decide) jk6) rfl (step_load_row rfl rfl rfl (flat_lt (s := 2) (enc := encGCool) (fun _ => rfl) jk6) (flat_take (s := 2) (enc := encGCool) (fun _ => rfl) (get_getD jk6)) rfl (step_n (o := .box [_, _]) (nx' := 2) rfl rfl rfl trivial ?_))
    refine step_storeB (H' := [(1, .box [_, _]), (0, _)]) rfl rfl rfl rfl rfl rfl (.inl rfl) rfl ?_
    refine step_nil (seqK_n (sem_seq (sem_region rfl (step_r rfl rfl trivial (step_r (v := (.agg [_, _])) rfl rfl (Nat.le_of_ble_eq_true rfl) (step_r (v := (.agg [_, _])) rfl rfl (Nat.le_of_ble_eq_true rfl) (step_call rfl rfl rfl rfl (sameCool_ok x0 (s2.getD k0 default)) rfl rfl rfl (step_r rfl rfl trivial (step_nil (seqK_n ?_))))))))))
    refine sem_cond rfl (fun h7 => ?_) (fun h7 => ?_)
    ·have g7 : ¬ (sameCool x0 (s2.getD k0 default) = true) := boo_f (not_t h7)
     refine sem_seq (sem_region rfl (step_r rfl rfl trivial (step_nil (seqK_n (sem_ret (blkK_r (seqK_r (lupK_r (blkK_r (cutW_r (seqK_r ?_)))))))))))
     have e8 : equalCools_L0 s2 s1 0 = .inl false := by
      rewrite [← hI0, drop_cons hx0]
      rewrite [equalCools_L0]
      try dsimp only
      rewrite [if_neg g7]
      all_goals rfl
     have e9 : equalCools s1 s2 = false := by
      unfold equalCools
      try dsimp only
      rewrite [if_pos g1, e8]
      try dsimp only
      all_goals rfl
     rw [e9]
     exact answersR rfl ⟨trivial, trivial⟩ (rfl) rfl
    ·have g7 : sameCool x0 (s2.getD k0 default) = true := (not_f h7)
     refine sem_skip (blkK_n (seqK_n (sem_region rfl (step_bin rfl rfl rfl rfl rfl trivial (step_r rfl rfl trivial (step_nil ?_))))))
     have e11 : equalCools_L0 s2 (s1.drop k0) k0 = equalCools_L0 s2 (s1.drop (k0 + 1)) (k0 + 1) := by
      rewrite [drop_cons hx0]
      rewrite [equalCools_L0]
      try dsimp only
      rewrite [if_pos g7]
      all_goals rfl
     exact lup_againT (k0 + 1) ⟨e11.symm.trans hI0, hk0⟩ (by show s1.length - (k0 + 1) < s1.length - k0; omega) (Trans.ren [] (by decide +kernel) (by decide +kernel) rfl ⟨⟨rfl, rfl⟩, ⟨rfl, rfl⟩, ⟨rfl, rfl⟩, ⟨rfl, rfl⟩, ⟨congrArg (fun n => some (I n)) (wrapI (k := k0) (by first | omega | (simp; omega))), rfl⟩, trivial⟩ trivial (by decide))
   ·have g4 : ¬ ((k0 : Int) < s1.length) := of_decide_eq_false h4
    have hk0 : k0 = s1.length := by omega
    refine sem_exit (seqK_e (lupK_e (blkK_t rfl ?_)))
    have e12 : equalCools_L0 s2 s1 0 = .inr () := by
     rewrite [← hI0, hk0, List.drop_length]
     rewrite [equalCools_L0]
     try dsimp only
     all_goals rfl
    exact cutW_n () e12 (Trans.ren [] (by decide +kernel) (by decide +kernel) rfl trivial trivial (by decide))
  ·rintro ⟨⟩ (hJ3 : equalCools_L0 s2 s1 0 = .inr ())
   show seqK _ _ _ .normal (⟨[], [], 0, [], 32, 0⟩ : St)
   refine seqK_n (sem_seq (sem_region rfl (step_r rfl rfl trivial (step_nil (seqK_n (sem_ret ?_))))))
   have e13 : equalCools s1 s2 = true := by
    unfold equalCools
    try dsimp only
    rewrite [if_pos g1, hJ3]
    try dsimp only
    all_goals rfl
   rw [e13]
   exact answersR rfl ⟨trivial, trivial⟩ (rfl) rfl

def sameX (a : GActor) (b : GActor) : Bool :=
  if ((a.Unit.Id == b.Unit.Id) && ((a.Unit.Kind == b.Unit.Kind) && ((a.Unit.Group == b.Unit.Group) && ((a.Unit.Health == b.Unit.Health) && ((a.Unit.MaxHealth == b.Unit.MaxHealth) && ((a.Unit.Power == b.Unit.Power) && ((a.Unit.MaxPower == b.Unit.MaxPower) && ((a.Unit.At.X == b.Unit.At.X) && ((a.Unit.At.Y == b.Unit.At.Y) && ((a.Unit.Casting == b.Unit.Casting) && true)))))))))) = true then (if a.Name = b.Name then (if ((a.Casting.Now.Ability == b.Casting.Now.Ability) && ((a.Casting.Now.Target == b.Casting.Now.Target) && ((a.Casting.Now.Since == b.Casting.Now.Since) && ((a.Casting.Now.Until == b.Casting.Now.Until) && ((a.Casting.Next.Ability == b.Casting.Next.Ability) && ((a.Casting.Next.Target == b.Casting.Next.Target) && ((a.Casting.Next.Since == b.Casting.Next.Since) && ((a.Casting.Next.Until == b.Casting.Next.Until) && ((a.Casting.Wait == b.Casting.Wait) && true))))))))) = true then (if a.Auras = b.Auras then (equalCools a.Cools b.Cools) else false) else false) else false) else false
theorem sameX_ok (a : GActor) (b : GActor) : Ok Try.prog 10 [aGActor a, aGActor b] [] (B (sameX a b)) [] [] := by
 refine Ok.len fun hlen => ?_
 have hl_a_Auras : a.Auras.length ≤ maxLen := hlen _ (by simp [lensL, lens, lensP])
 have hl_a_Cools : a.Cools.length ≤ maxLen := hlen _ (by simp [lensL, lens, lensP])
 have hl_b_Auras : b.Auras.length ≤ maxLen := hlen _ (by simp [lensL, lens, lensP])
 have hl_b_Cools : b.Cools.length ≤ maxLen := hlen _ (by simp [lensL, lens, lensP])
 unfold maxLen at hl_a_Auras hl_a_Cools hl_b_Auras hl_b_Cools
 refine ok_of_sem Try.func10 rfl ?_
 show Walks Try.prog _ _ ⟨[(0, aGActor a), (1, aGActor b)], [], 0, [], 40, 0⟩
 refine sem_seq (sem_region rfl (step_n (o := .box [_, _, _, _, _, _, _, _, _, _, _, _, _, _, _, _, _, _, _, _, _, _]) (nx' := 1) rfl rfl rfl trivial (step_n (o := .box [_, _, _, _, _, _, _, _, _, _, _, _, _, _, _, _, _, _, _, _, _, _]) (nx' := 2) rfl rfl rfl trivial (step_r rfl rfl trivial (step_nil (seqK_n (sem_seq (sem_region rfl (step_r rfl rfl trivial (step_nil (seqK_n ?_)))))))))))
 refine sem_seq (sem_region rfl (step_r rfl rfl (by decide) (step_r (v := (.agg [_, _, _, _, _, _, _, _, _, _])) rfl rfl (Nat.le_of_ble_eq_true rfl) (step_r rfl rfl (by decide) (step_r (v := (.agg [_, _, _, _, _, _, _, _, _, _])) rfl rfl (Nat.le_of_ble_eq_true rfl) ?_)))))
 refine step_eqlA rfl rfl rfl (by kernel_rfl) rfl rfl rfl rfl rfl ?_
 refine step_r rfl rfl trivial ?_
 refine step_gs rfl (fun h2 => ?_) (fun h2 => ?_)
 ·have g2 : ((a.Unit.Id == b.Unit.Id) && ((a.Unit.Kind == b.Unit.Kind) && ((a.Unit.Group == b.Unit.Group) && ((a.Unit.Health == b.Unit.Health) && ((a.Unit.MaxHealth == b.Unit.MaxHealth) && ((a.Unit.Power == b.Unit.Power) && ((a.Unit.MaxPower == b.Unit.MaxPower) && ((a.Unit.At.X == b.Unit.At.X) && ((a.Unit.At.Y == b.Unit.At.Y) && ((a.Unit.Casting == b.Unit.Casting) && true)))))))))) = true := h2
  refine step_g1 rfl h2 (step_r rfl rfl (by decide) (step_g1 rfl h2 (step_r rfl rfl trivial (step_g1 rfl h2 (step_r rfl rfl (by decide) (step_g1 rfl h2 (step_r rfl rfl trivial (step_g1 rfl h2 (step_bin rfl rfl rfl rfl rfl trivial (step_pickT rfl h2 rfl rfl (step_r rfl rfl trivial ?_)))))))))))
  refine step_gs rfl (fun h4 => ?_) (fun h4 => ?_)
  ·have g4 : a.Name = b.Name := beq_t h4
   refine step_g1 rfl h4 (step_r rfl rfl (by decide) (step_g1 rfl h4 (step_r (v := (.agg [_, _, _, _, _, _, _, _, _])) rfl rfl (Nat.le_of_ble_eq_true rfl) (step_g1 rfl h4 (step_r rfl rfl (by decide) (step_g1 rfl h4 (step_r (v := (.agg [_, _, _, _, _, _, _, _, _])) rfl rfl (Nat.le_of_ble_eq_true rfl) (step_g1 rfl h4 ?_))))))))
   refine step_eqlA rfl rfl rfl (by kernel_rfl) rfl rfl rfl rfl rfl ?_
   refine step_pickT rfl h4 rfl rfl (step_r rfl rfl trivial ?_)
   refine step_gs rfl (fun h6 => ?_) (fun h6 => ?_)
   ·have g6 : ((a.Casting.Now.Ability == b.Casting.Now.Ability) && ((a.Casting.Now.Target == b.Casting.Now.Target) && ((a.Casting.Now.Since == b.Casting.Now.Since) && ((a.Casting.Now.Until == b.Casting.Now.Until) && ((a.Casting.Next.Ability == b.Casting.Next.Ability) && ((a.Casting.Next.Target == b.Casting.Next.Target) && ((a.Casting.Next.Since == b.Casting.Next.Since) && ((a.Casting.Next.Until == b.Casting.Next.Until) && ((a.Casting.Wait == b.Casting.Wait) && true))))))))) = true := h6
    refine step_g1 rfl h6 (step_r rfl rfl (by decide) (step_g1 rfl h6 (step_r rfl rfl trivial (step_g1 rfl h6 (step_r rfl rfl (by decide) (step_g1 rfl h6 (step_r rfl rfl trivial (step_g1 rfl h6 (step_call rfl rfl rfl rfl (equal_GActive a.Auras false b.Auras false) rfl rfl rfl (step_pickT rfl h6 rfl rfl (step_r rfl rfl trivial ?_)))))))))))
    refine step_gs rfl (fun h8 => ?_) (fun h8 => ?_)
    ·have g8 : a.Auras = b.Auras := of_decide_eq_true h8
     refine step_g1 rfl h8 (step_r rfl rfl (by decide) (step_g1 rfl h8 (step_r rfl rfl trivial (step_g1 rfl h8 (step_r rfl rfl (by decide) (step_g1 rfl h8 (step_r rfl rfl trivial (step_g1 rfl h8 (step_r rfl rfl trivial (step_g1 rfl h8 (step_call rfl rfl rfl rfl (equalCools_ok a.Cools false b.Cools false) rfl rfl rfl ?_)))))))))))
     refine step_pickT rfl h8 rfl rfl (step_r rfl rfl trivial (step_nil (seqK_n (sem_ret ?_))))
     have e10 : sameX a b = (equalCools a.Cools b.Cools) := by
      unfold sameX
      try dsimp only
      rewrite [if_pos g2, if_pos g4, if_pos g6, if_pos g8]
      all_goals rfl
     rw [e10]
     exact answersR rfl ⟨trivial, trivial⟩ (rfl) rfl
    ·have g8 : ¬ (a.Auras = b.Auras) := of_decide_eq_false h8
     refine step_g0 rfl h8 rfl (step_g0 rfl h8 rfl (step_g0 rfl h8 rfl (step_g0 rfl h8 rfl (step_g0 rfl h8 rfl (step_g0 rfl h8 rfl (step_pickF rfl h8 rfl rfl (step_r rfl rfl trivial (step_nil (seqK_n (sem_ret ?_))))))))))
     have e11 : sameX a b = false := by
      unfold sameX
      try dsimp only
      rewrite [if_pos g2, if_pos g4, if_pos g6, if_neg g8]
      all_goals rfl
     rw [e11]
     exact answersR rfl ⟨trivial, trivial⟩ (rfl) rfl
   ·have g6 : ¬ (((a.Casting.Now.Ability == b.Casting.Now.Ability) && ((a.Casting.Now.Target == b.Casting.Now.Target) && ((a.Casting.Now.Since == b.Casting.Now.Since) && ((a.Casting.Now.Until == b.Casting.Now.Until) && ((a.Casting.Next.Ability == b.Casting.Next.Ability) && ((a.Casting.Next.Target == b.Casting.Next.Target) && ((a.Casting.Next.Since == b.Casting.Next.Since) && ((a.Casting.Next.Until == b.Casting.Next.Until) && ((a.Casting.Wait == b.Casting.Wait) && true))))))))) = true) := boo_f h6
    refine step_g0 rfl h6 rfl (step_g0 rfl h6 rfl (step_g0 rfl h6 rfl (step_g0 rfl h6 rfl (step_g0 rfl h6 rfl (step_pickF rfl h6 rfl rfl (step_r rfl rfl trivial (step_gf rfl rfl (step_gf rfl rfl (step_gf rfl rfl (step_gf rfl rfl (step_gf rfl rfl ?_)))))))))))
    refine step_gf rfl rfl (step_r rfl rfl trivial (step_r rfl rfl trivial (step_nil (seqK_n (sem_ret ?_)))))
    have e12 : sameX a b = false := by
     unfold sameX
     try dsimp only
     rewrite [if_pos g2, if_pos g4, if_neg g6]
     all_goals rfl
    rw [e12]
    exact answersR rfl ⟨trivial, trivial⟩ (rfl) rfl
  ·have g4 : ¬ (a.Name = b.Name) := beq_f h4
   refine step_g0 rfl h4 rfl (step_g0 rfl h4 rfl (step_g0 rfl h4 rfl (step_g0 rfl h4 rfl (step_g0 rfl h4 rfl (step_pickF rfl h4 rfl rfl (step_r rfl rfl trivial (step_gf rfl rfl (step_gf rfl rfl (step_gf rfl rfl (step_gf rfl rfl (step_gf rfl rfl ?_)))))))))))
   refine step_r rfl rfl trivial (step_r rfl rfl trivial (step_gf rfl rfl (step_gf rfl rfl (step_gf rfl rfl (step_gf rfl rfl (step_gf rfl rfl (step_gf rfl rfl (step_r rfl rfl trivial (step_r rfl rfl trivial (step_nil (seqK_n ?_)))))))))))
   refine sem_ret ?_
   have e13 : sameX a b = false := by
    unfold sameX
    try dsimp only
    rewrite [if_pos g2, if_neg g4]
    all_goals rfl
   rw [e13]
   exact answersR rfl ⟨trivial, trivial⟩ (rfl) rfl
 ·have g2 : ¬ (((a.Unit.Id == b.Unit.Id) && ((a.Unit.Kind == b.Unit.Kind) && ((a.Unit.Group == b.Unit.Group) && ((a.Unit.Health == b.Unit.Health) && ((a.Unit.MaxHealth == b.Unit.MaxHealth) && ((a.Unit.Power == b.Unit.Power) && ((a.Unit.MaxPower == b.Unit.MaxPower) && ((a.Unit.At.X == b.Unit.At.X) && ((a.Unit.At.Y == b.Unit.At.Y) && ((a.Unit.Casting == b.Unit.Casting) && true)))))))))) = true) := boo_f h2
  refine step_g0 rfl h2 rfl (step_g0 rfl h2 rfl (step_g0 rfl h2 rfl (step_g0 rfl h2 rfl (step_g0 rfl h2 rfl (step_pickF rfl h2 rfl rfl (step_r rfl rfl trivial (step_gf rfl rfl (step_gf rfl rfl (step_gf rfl rfl (step_gf rfl rfl (step_gf rfl rfl ?_)))))))))))
  refine step_r rfl rfl trivial (step_r rfl rfl trivial (step_gf rfl rfl (step_gf rfl rfl (step_gf rfl rfl (step_gf rfl rfl (step_gf rfl rfl (step_r rfl rfl trivial (step_r rfl rfl trivial (step_gf rfl rfl (step_gf rfl rfl (step_gf rfl rfl ?_)))))))))))
  refine step_gf rfl rfl (step_gf rfl rfl (step_gf rfl rfl (step_r rfl rfl trivial (step_r rfl rfl trivial (step_nil (seqK_n (sem_ret ?_)))))))
  have e14 : sameX a b = false := by
   unfold sameX
   try dsimp only
   rewrite [if_neg g2]
   all_goals rfl
  rw [e14]
  exact answersR rfl ⟨trivial, trivial⟩ (rfl) rfl
end Go.Proofs.Ytmijbjpdjggppaa

import Derived.Test.YtbfmonajbfljmaaDoorMess25
namespace Go.Proofs.YtbfmonajbfljmaaDoor
open Go Go.RowKit Go.Proofs.YtbfmonajbfljmaaDoorVm
attribute [local irreducible] opsWp AnswersE OpsS
set_option maxHeartbeats 400000
set_option maxRecDepth 100000
set_option linter.all false
theorem fidx_lt {α : Type} (p : α → Bool) (l : List α) : -1 ≤ fidx p l ∧ fidx p l < l.length := by
  rcases fidx_cases p l with ⟨h, _⟩ | ⟨k, x, h, h2, _⟩
  · rw [h]; omega
  · rw [h]; have := (List.getElem?_eq_some_iff.1 h2).1; omega

structure GWorld where
  (Me : Int)
  (Seen : List GSeen)
  (Log : List A5int)
  (Synced : Bool)
  deriving DecidableEq, Inhabited
def encGWorld (x : GWorld) : List PV := [i64 x.Me, .slc x.Seen.length false (x.Seen.flatMap encGSeen), .slc x.Log.length false (x.Log.flatMap encA5int), .bool x.Synced]
abbrev aGWorld (x : GWorld) : AV := .agg [I x.Me, .pv (.slc x.Seen.length false (x.Seen.flatMap encGSeen)), .pv (.slc x.Log.length false (x.Log.flatMap encA5int)), B x.Synced]
def wfGWorld (x : GWorld) : Prop := (InR x.Me) ∧ ((∀ y ∈ x.Seen, wfGSeen y) ∧ x.Seen.length ≤ 140737488355328) ∧ ((∀ y ∈ x.Log, wfA5int y) ∧ x.Log.length ≤ 140737488355328)

structure GPos where
  (X : Int)
  (Y : Int)
  deriving DecidableEq, Inhabited
def encGPos (x : GPos) : List PV := [i64 x.X, i64 x.Y]
abbrev aGPos (x : GPos) : AV := .agg [I x.X, I x.Y]
def wfGPos (x : GPos) : Prop := (InR x.X) ∧ (InR x.Y)
theorem encGPos_solid {l : List GPos} : ∀ p ∈ l.flatMap encGPos, solidP p = true := flat_solid (fun x p h => by simp only [encGPos, List.mem_cons, List.mem_nil_iff, or_false] at h; rcases h with rfl | rfl <;> rfl)

structure GUnit where
  (Id : Int)
  (Kind : Int)
  (Group : Int)
  (Health : Int)
  (MaxHealth : Int)
  (Power : Int)
  (MaxPower : Int)
  (At : GPos)
  (Casting : Int)
  deriving DecidableEq, Inhabited
def encGUnit (x : GUnit) : List PV := [i64 x.Id, i64 x.Kind, i64 x.Group, i64 x.Health, i64 x.MaxHealth, i64 x.Power, i64 x.MaxPower, i64 x.At.X, i64 x.At.Y, i64 x.Casting]
abbrev aGUnit (x : GUnit) : AV := .agg [I x.Id, I x.Kind, I x.Group, I x.Health, I x.MaxHealth, I x.Power, I x.MaxPower, I x.At.X, I x.At.Y, I x.Casting]
def wfGUnit (x : GUnit) : Prop := (InR x.Id) ∧ (InR x.Kind) ∧ (InR x.Group) ∧ (InR x.Health) ∧ (InR x.MaxHealth) ∧ (InR x.Power) ∧ (InR x.MaxPower) ∧ (wfGPos x.At) ∧ (InR x.Casting)
theorem encGUnit_solid {l : List GUnit} : ∀ p ∈ l.flatMap encGUnit, solidP p = true := flat_solid (fun x p h => by simp only [encGUnit, List.mem_cons, List.mem_nil_iff, or_false] at h; rcases h with rfl | rfl | rfl | rfl | rfl | rfl | rfl | rfl | rfl | rfl <;> rfl)

structure GActive where
  (Aura : Int)
  (Source : Int)
  (Stacks : Int)
  (Until : Int)
  (Next : Int)
  (Left : Int)
  deriving DecidableEq, Inhabited
def encGActive (x : GActive) : List PV := [i64 x.Aura, i64 x.Source, i64 x.Stacks, i64 x.Until, i64 x.Next, i64 x.Left]
abbrev aGActive (x : GActive) : AV := .agg [I x.Aura, I x.Source, I x.Stacks, I x.Until, I x.Next, I x.Left]
def wfGActive (x : GActive) : Prop := (InR x.Aura) ∧ (InR x.Source) ∧ (InR x.Stacks) ∧ (InR x.Until) ∧ (InR x.Next) ∧ (InR x.Left)
theorem encGActive_solid {l : List GActive} : ∀ p ∈ l.flatMap encGActive, solidP p = true := flat_solid (fun x p h => by simp only [encGActive, List.mem_cons, List.mem_nil_iff, or_false] at h; rcases h with rfl | rfl | rfl | rfl | rfl | rfl <;> rfl)

structure GCool where
  (Ability : Int)
  (Back : List Int)
  deriving DecidableEq, Inhabited
def encGCool (x : GCool) : List PV := [i64 x.Ability, .slc x.Back.length false (encI x.Back)]
abbrev aGCool (x : GCool) : AV := .agg [I x.Ability, .pv (.slc x.Back.length false (encI x.Back))]
def wfGCool (x : GCool) : Prop := (InR x.Ability) ∧ ((∀ y ∈ x.Back, InR y) ∧ x.Back.length ≤ 140737488355328)

structure GCast where
  (Ability : Int)
  (Target : Int)
  (Since : Int)
  (Until : Int)
  deriving DecidableEq, Inhabited
def encGCast (x : GCast) : List PV := [i64 x.Ability, i64 x.Target, i64 x.Since, i64 x.Until]
abbrev aGCast (x : GCast) : AV := .agg [I x.Ability, I x.Target, I x.Since, I x.Until]
def wfGCast (x : GCast) : Prop := (InR x.Ability) ∧ (InR x.Target) ∧ (InR x.Since) ∧ (InR x.Until)
theorem encGCast_solid {l : List GCast} : ∀ p ∈ l.flatMap encGCast, solidP p = true := flat_solid (fun x p h => by simp only [encGCast, List.mem_cons, List.mem_nil_iff, or_false] at h; rcases h with rfl | rfl | rfl | rfl <;> rfl)

structure GCasting where
  (Now : GCast)
  (Next : GCast)
  (Wait : Int)
  deriving DecidableEq, Inhabited
def encGCasting (x : GCasting) : List PV := [i64 x.Now.Ability, i64 x.Now.Target, i64 x.Now.Since, i64 x.Now.Until, i64 x.Next.Ability, i64 x.Next.Target, i64 x.Next.Since, i64 x.Next.Until, i64 x.Wait]
abbrev aGCasting (x : GCasting) : AV := .agg [I x.Now.Ability, I x.Now.Target, I x.Now.Since, I x.Now.Until, I x.Next.Ability, I x.Next.Target, I x.Next.Since, I x.Next.Until, I x.Wait]
def wfGCasting (x : GCasting) : Prop := (wfGCast x.Now) ∧ (wfGCast x.Next) ∧ (InR x.Wait)
theorem encGCasting_solid {l : List GCasting} : ∀ p ∈ l.flatMap encGCasting, solidP p = true := flat_solid (fun x p h => by simp only [encGCasting, List.mem_cons, List.mem_nil_iff, or_false] at h; rcases h with rfl | rfl | rfl | rfl | rfl | rfl | rfl | rfl | rfl <;> rfl)

structure GActor where
  (Unit : GUnit)
  (Name : List UInt8)
  (Auras : List GActive)
  (Cools : List GCool)
  (Casting : GCasting)
  deriving DecidableEq, Inhabited
def encGActor (x : GActor) : List PV := [i64 x.Unit.Id, i64 x.Unit.Kind, i64 x.Unit.Group, i64 x.Unit.Health, i64 x.Unit.MaxHealth, i64 x.Unit.Power, i64 x.Unit.MaxPower, i64 x.Unit.At.X, i64 x.Unit.At.Y, i64 x.Unit.Casting, .str x.Name, .slc x.Auras.length false (x.Auras.flatMap encGActive), .slc x.Cools.length false (x.Cools.flatMap encGCool), i64 x.Casting.Now.Ability, i64 x.Casting.Now.Target, i64 x.Casting.Now.Since, i64 x.Casting.Now.Until, i64 x.Casting.Next.Ability, i64 x.Casting.Next.Target, i64 x.Casting.Next.Since, i64 x.Casting.Next.Until, i64 x.Casting.Wait]
abbrev aGActor (x : GActor) : AV := .agg [I x.Unit.Id, I x.Unit.Kind, I x.Unit.Group, I x.Unit.Health, I x.Unit.MaxHealth, I x.Unit.Power, I x.Unit.MaxPower, I x.Unit.At.X, I x.Unit.At.Y, I x.Unit.Casting, .pv (.str x.Name), .pv (.slc x.Auras.length false (x.Auras.flatMap encGActive)), .pv (.slc x.Cools.length false (x.Cools.flatMap encGCool)), I x.Casting.Now.Ability, I x.Casting.Now.Target, I x.Casting.Now.Since, I x.Casting.Now.Until, I x.Casting.Next.Ability, I x.Casting.Next.Target, I x.Casting.Next.Since, I x.Casting.Next.Until, I x.Casting.Wait]
def wfGActor (x : GActor) : Prop := (wfGUnit x.Unit) ∧ (x.Name.length ≤ maxLen) ∧ ((∀ y ∈ x.Auras, wfGActive y) ∧ x.Auras.length ≤ 140737488355328) ∧ ((∀ y ∈ x.Cools, wfGCool y) ∧ x.Cools.length ≤ 140737488355328) ∧ (wfGCasting x.Casting)

def fieldsB (u : GUnit) : A9int :=
  (⟨u.Kind, u.Group, u.Health, u.MaxHealth, u.Power, u.MaxPower, u.At.X, u.At.Y, u.Casting⟩ : A9int)
theorem fieldsB_ok (u : GUnit) : Ok Tryd.prog 33 [aGUnit u] [] (aA9int (fieldsB u)) [] [] := by
 refine ok_of_sem Tryd.func33 rfl ?_
 show Walks Tryd.prog _ _ ⟨[(0, aGUnit u)], [], 0, [], 24, 0⟩
 refine sem_seq (sem_region rfl (step_n (o := .box [_, _, _, _, _, _, _, _, _, _]) (nx' := 1) rfl rfl rfl trivial (step_n (o := .box [_, _, _, _, _, _, _, _, _]) (nx' := 2) rfl rfl rfl trivial (step_nil (seqK_n (sem_seq (sem_region rfl (step_r rfl rfl (by decide) (step_r rfl rfl trivial (step_r rfl rfl (by decide) (step_r rfl rfl trivial ?_)))))))))))
 refine step_r rfl rfl (by decide) (step_r rfl rfl trivial (step_r rfl rfl (by decide) (step_r rfl rfl trivial (step_r rfl rfl (by decide) (step_r rfl rfl trivial (step_r rfl rfl (by decide) (step_r rfl rfl trivial (step_r rfl rfl (by decide) (step_r rfl rfl (by decide) (step_r rfl rfl trivial (step_r rfl rfl (by decide) ?_)))))))))))
 refine step_r rfl rfl (by decide) (step_r rfl rfl trivial (step_r rfl rfl (by decide) (step_r rfl rfl trivial (step_r (v := (.agg [_, _, _, _, _, _, _, _, _])) rfl rfl trivial ?_))))
 refine step_storeB (H' := [(1, .box [_, _, _, _, _, _, _, _, _]), (0, _)]) rfl rfl rfl rfl rfl rfl (.inl rfl) rfl ?_
 refine step_nil (seqK_n (sem_ret ?_))
 have e1 : fieldsB u = (⟨u.Kind, u.Group, u.Health, u.MaxHealth, u.Power, u.MaxPower, u.At.X, u.At.Y, u.Casting⟩ : A9int) := by
  unfold fieldsB
  try dsimp only
  all_goals rfl
 rw [e1]
 exact answersR rfl ⟨Nat.le_of_ble_eq_true rfl, trivial⟩ (rfl) rfl

def nameOf (s : List UInt8) : List UInt8 :=
  if nameC s = true then s else []
theorem nameOf_ok (s : List UInt8) : Ok Tryd.prog 32 [.pv (.str s)] [] (.pv (.str (nameOf s))) [] [] := by
 refine ok_of_sem Tryd.func32 rfl ?_
 show Walks Tryd.prog _ _ ⟨[(0, .pv (.str s))], [], 0, [], 7, 0⟩
 refine sem_seq (sem_region rfl (step_r rfl rfl trivial (step_nil (seqK_n (sem_seq (sem_seq (sem_region rfl (step_r rfl rfl trivial (step_call rfl rfl rfl rfl (nameC_ok s) rfl rfl rfl (step_r rfl rfl trivial (step_nil ?_)))))))))))
 refine seqK_n ?_
 refine sem_cond rfl (fun h2 => ?_) (fun h2 => ?_)
 ·have g2 : ¬ (nameC s = true) := boo_f (not_t h2)
  refine sem_seq (sem_region rfl (step_r rfl rfl trivial (step_nil (seqK_n (sem_ret (seqK_r ?_))))))
  have e3 : nameOf s = [] := by
   unfold nameOf
   try dsimp only
   rewrite [if_neg g2]
   all_goals rfl
  rw [e3]
  exact answersR rfl ⟨trivial, trivial⟩ (rfl) rfl
 ·have g2 : nameC s = true := (not_f h2)
  refine sem_skip (seqK_n (sem_seq (sem_region rfl (step_r rfl rfl trivial (step_r rfl rfl trivial (step_nil (seqK_n (sem_ret ?_))))))))
  have e4 : nameOf s = s := by
   unfold nameOf
   try dsimp only
   rewrite [if_pos g2]
   all_goals rfl
  rw [e4]
  exact answersR rfl ⟨trivial, trivial⟩ (rfl) rfl

def seenV (x_ : GActor) : GSeen :=
  (⟨x_.Unit.Id, (nameOf x_.Name), (fieldsB x_.Unit)⟩ : GSeen)
theorem seenV_ok (x_ : GActor) : Ok Tryd.prog 16 [aGActor x_] [] (aGSeen (seenV x_)) [] [] := by
 refine Ok.len fun hlen => ?_
 have hl_x__Auras : x_.Auras.length ≤ maxLen := hlen _ (by simp [lensL, lens, lensP])
 have hl_x__Cools : x_.Cools.length ≤ maxLen := hlen _ (by simp [lensL, lens, lensP])
 unfold maxLen at hl_x__Auras hl_x__Cools
 refine ok_of_sem Tryd.func16 rfl ?_
 show Walks Tryd.prog _ _ ⟨[(0, aGActor x_)], [], 0, [], 13, 0⟩
 refine sem_seq (sem_region rfl (step_n (o := .box [_, _, _, _, _, _, _, _, _, _, _, _, _, _, _, _, _, _, _, _, _, _]) (nx' := 1) rfl rfl rfl trivial (step_n (o := .box [_, _, _, _, _, _, _, _, _, _, _]) (nx' := 2) rfl rfl rfl trivial (step_nil (seqK_n (sem_seq ?_))))))
 refine sem_drawn rfl (by decide +kernel) rfl ?_
 refine step_r rfl rfl (by decide) (step_r rfl rfl (by decide) (step_r rfl rfl trivial (step_r rfl rfl (by decide) (step_r rfl rfl trivial (step_call rfl rfl rfl rfl (nameOf_ok x_.Name) rfl rfl rfl (step_r rfl rfl (by decide) (step_r (v := (.agg [_, _, _, _, _, _, _, _, _, _])) rfl rfl (Nat.le_of_ble_eq_true rfl) (step_call rfl rfl rfl rfl (fieldsB_ok x_.Unit) rfl rfl rfl (step_r (v := (.agg [_, _, _, _, _, _, _, _, _, _, _])) rfl rfl trivial ?_)))))))))
 refine step_storeB (H' := [(1, .box [_, _, _, _, _, _, _, _, _, _, _]), (0, _)]) rfl rfl rfl rfl rfl rfl (.inr (by decide +kernel)) rfl ?_
 refine step_nil (seqK_n (sem_ret ?_))
 have e1 : seenV x_ = (⟨x_.Unit.Id, (nameOf x_.Name), (fieldsB x_.Unit)⟩ : GSeen) := by
  unfold seenV
  try dsimp only
  all_goals rfl
 rw [e1]
 exact answersR rfl ⟨Nat.le_of_ble_eq_true rfl, trivial⟩ (rfl) rfl

def rightV_L0 : List GSeen → Nat → Int → Sum Bool Unit
  | [], k0, last0 => .inr ()
  | x0 :: l_, k0, last0 => if (x0.Unit : Int) ≤ last0 then .inl false else rightV_L0 l_ (k0 + 1) x0.Unit
def rightV (l : List GSeen) : Bool :=
  (match rightV_L0 l 0 0 with
    | .inl r_ => r_
    | .inr () => true)
theorem rightV_ok (l : List GSeen) (l_f : Bool) : Ok Tryd.prog 8 [.pv (.slc l.length l_f (l.flatMap encGSeen))] [] (B (rightV l)) [] [] := by
 refine Ok.len fun hlen => ?_
 have hl_l : l.length ≤ maxLen := hlen _ (by simp [lensL, lens, lensP])
 unfold maxLen at hl_l
 refine ok_of_sem Tryd.func8 rfl ?_
 show Walks Tryd.prog _ _ ⟨[(0, .pv (.slc l.length l_f (l.flatMap encGSeen)))], [], 0, [], 19, 0⟩
 refine sem_seq (sem_region rfl (step_r rfl rfl trivial (step_nil (seqK_n (sem_seq (sem_region rfl (step_r rfl rfl trivial (step_nil (seqK_n (sem_seq (sem_seq ?_)))))))))))
 refine sem_region rfl (step_r rfl rfl trivial (step_r rfl rfl trivial (step_r rfl rfl trivial (step_nil (seqK_n ?_)))))
 refine sem_cutW (fun w_ : Unit => match w_ with | () => (⟨[], [], 0, [], 19, 0⟩ : St)) (fun w_ => rightV_L0 l 0 0 = .inr w_) ?_ ?_
 ·refine sem_block ?_
  refine sem_loopT (fun w_ : Nat × Int => match w_ with | (k0, last0) => (⟨[(3, I last0), (6, .pv (.slc l.length l_f (l.flatMap encGSeen))), (7, I l.length), (8, I k0)], [], 0, [], 19, 0⟩ : St)) (fun w_ : Nat × Int => match w_ with | (k0, last0) => rightV_L0 (l.drop k0) k0 last0 = rightV_L0 l 0 0 ∧ k0 ≤ l.length) (fun w_ : Nat × Int => match w_ with | (k0, last0) => l.length - k0) (0, 0) (⟨rfl, Nat.zero_le _⟩) ?_ (fun w_ hh_ => ?_)
  ·exact (Trans.ren [] (by decide +kernel) (by decide +kernel) rfl ⟨⟨rfl, rfl⟩, ⟨rfl, rfl⟩, ⟨rfl, rfl⟩, ⟨rfl, rfl⟩, trivial⟩ trivial (by decide))
  obtain ⟨k0, last0⟩ := w_
  obtain ⟨hI0, hb0⟩ := hh_
  show Walks Tryd.prog _ _ (⟨[(3, I last0), (6, .pv (.slc l.length l_f (l.flatMap encGSeen))), (7, I l.length), (8, I k0)], [], 0, [], 19, 0⟩ : St)
  refine sem_seq (sem_region rfl (step_bin rfl rfl rfl rfl rfl trivial (step_nil (seqK_n (sem_seq ?_)))))
  refine sem_cond rfl (fun h2 => ?_) (fun h2 => ?_)
  ·have g2 : (k0 : Int) < l.length := of_decide_eq_true h2
   have hk0 : k0 < l.length := by omega
   obtain ⟨x0, hx0⟩ : ∃ z_, l[k0]? = some z_ := ⟨_, List.getElem?_eq_getElem hk0⟩
   refine sem_skip (seqK_n (sem_seq (sem_block (sem_seq (sem_region rfl (step_idxS (k := k0) rfl rfl rfl rfl hk0 (flat_ne (s := 11) (enc := encGSeen) (fun _ => rfl) (by decide) hk0) rfl (step_load_row rfl rfl rfl (flat_lt (s := 11) (enc := encGSeen) (fun _ => rfl) hk0) (flat_take (s := 11) (enc := encGSeen) (fun _ => rfl) hx0) rfl (step_n (o := .box [_, _, _, _, _, _, _, _, _, _, _]) (nx' := 1) rfl rfl rfl trivial ?_))))))))
   refine step_storeB (H' := [(0, .box [_, _, _, _, _, _, _, _, _, _, _])]) rfl rfl rfl rfl rfl rfl (.inl rfl) rfl ?_
   refine step_nil (seqK_n (sem_seq (sem_seq (sem_region rfl (step_r rfl rfl (by decide) (step_r rfl rfl trivial (step_r rfl rfl trivial (step_bin rfl rfl rfl rfl rfl trivial (step_nil (seqK_n ?_))))))))))
   refine sem_cond rfl (fun h4 => ?_) (fun h4 => ?_)
   ·have g4 : (x0.Unit : Int) ≤ last0 := of_decide_eq_true h4
    refine sem_seq (sem_region rfl (step_r rfl rfl trivial (step_nil (seqK_n (sem_ret (seqK_r (blkK_r (seqK_r (lupK_r (blkK_r (cutW_r ?_)))))))))))
    refine seqK_r ?_
    have e5 : rightV_L0 l 0 0 = .inl false := by
     rewrite [← hI0, drop_cons hx0]
     rewrite [rightV_L0]
     try dsimp only
     rewrite [if_pos g4]
     all_goals rfl
    have e6 : rightV l = false := by
     unfold rightV
     try dsimp only
     rewrite [e5]
     try dsimp only
     all_goals rfl
    rw [e6]
    exact answersR rfl ⟨trivial, trivial⟩ (rfl) rfl
   ·have g4 : ¬ ((x0.Unit : Int) ≤ last0) := of_decide_eq_false h4
    refine sem_skip (seqK_n (sem_region rfl (step_r rfl rfl (by decide) (step_r rfl rfl trivial (step_r rfl rfl trivial (step_nil (blkK_n (seqK_n (sem_region rfl (step_bin rfl rfl rfl rfl rfl trivial (step_r rfl rfl trivial ?_)))))))))))
    refine step_nil ?_
    have e9 : rightV_L0 (l.drop k0) k0 last0 = rightV_L0 (l.drop (k0 + 1)) (k0 + 1) x0.Unit := by
     rewrite [drop_cons hx0]
     rewrite [rightV_L0]
     try dsimp only
     rewrite [if_neg g4]
     all_goals rfl
    exact lup_againT (k0 + 1, x0.Unit) ⟨e9.symm.trans hI0, hk0⟩ (by show l.length - (k0 + 1) < l.length - k0; omega) (Trans.ren [] (by decide +kernel) (by decide +kernel) rfl ⟨⟨rfl, rfl⟩, ⟨rfl, rfl⟩, ⟨rfl, rfl⟩, ⟨congrArg (fun n => some (I n)) (wrapI (k := k0) (by first | omega | (simp; omega))), rfl⟩, trivial⟩ trivial (by decide))
  ·have g2 : ¬ ((k0 : Int) < l.length) := of_decide_eq_false h2
   have hk0 : k0 = l.length := by omega
   refine sem_exit (seqK_e (lupK_e (blkK_t rfl ?_)))
   have e10 : rightV_L0 l 0 0 = .inr () := by
    rewrite [← hI0, hk0, List.drop_length]
    rewrite [rightV_L0]
    try dsimp only
    all_goals rfl
   exact cutW_n () e10 (Trans.ren [] (by decide +kernel) (by decide +kernel) rfl trivial trivial (by decide))
 ·rintro ⟨⟩ (hJ1 : rightV_L0 l 0 0 = .inr ())
  show seqK _ _ _ .normal (⟨[], [], 0, [], 19, 0⟩ : St)
  refine seqK_n (sem_seq (sem_region rfl (step_r rfl rfl trivial (step_nil (seqK_n (sem_ret ?_))))))
  have e11 : rightV l = true := by
   unfold rightV
   try dsimp only
   rewrite [hJ1]
   try dsimp only
   all_goals rfl
  rw [e11]
  exact answersR rfl ⟨trivial, trivial⟩ (rfl) rfl

def copyV (w : GWorld) : GWorld :=
  w
theorem copyV_ok (w : GWorld) (hs : w.Seen.length ≤ 16777000) (hl : w.Log.length ≤ 16777000) : Ok Tryd.prog 18 [aGWorld w] [] (.agg [I (copyV w).Me, .ref 0 11 0 (copyV w).Seen.length, .ref 1 5 0 (copyV w).Log.length, B (copyV w).Synced]) [.row 60 11 ((copyV w).Seen.flatMap encGSeen), .row 68 5 ((copyV w).Log.flatMap encA5int)] [] := by
 refine Ok.len fun hlen => ?_
 have hl_w_Seen : w.Seen.length ≤ maxLen := hlen _ (by simp [lensL, lens, lensP])
 have hl_w_Log : w.Log.length ≤ maxLen := hlen _ (by simp [lensL, lens, lensP])
 unfold maxLen at hl_w_Seen hl_w_Log
 refine ok_of_sem Tryd.func18 rfl ?_
 show Walks Tryd.prog _ _ ⟨[(0, aGWorld w)], [], 0, [], 12, 0⟩
 refine sem_seq (sem_region rfl (step_n (o := .box [_, _, _, _]) (nx' := 1) rfl rfl rfl trivial (step_n (o := .box [_, _, _, _]) (nx' := 2) rfl rfl rfl trivial (step_nil (seqK_n (sem_seq ?_))))))
 refine sem_drawn rfl (by decide +kernel) rfl ?_
 refine step_r rfl rfl (by decide) (step_r rfl rfl trivial ?_)
 refine step_callN (out' := .ref 2 _ _ _) (H' := [(2, .row _ _ _), (1, _), (0, _)]) (nx' := 3) rfl rfl rfl rfl rfl rfl rfl (by (repeat' apply And.intro) <;> first | trivial | rfl | exact flat_len (fun _ => rfl) _ | exact encI_len _ | exact Nat.le_of_ble_eq_true rfl | assumption) (clone_GSeen w.Seen false (by first | assumption | omega | (simp; omega) | simp_all)) rfl rfl rfl rfl ?_
 refine step_r rfl rfl (by decide) (step_r rfl rfl trivial ?_)
 refine step_callN (out' := .ref 3 _ _ _) (H' := [(3, .row _ _ _), (2, _), (1, _), (0, _)]) (nx' := 4) rfl rfl rfl rfl rfl rfl rfl (by (repeat' apply And.intro) <;> first | trivial | rfl | exact flat_len (fun _ => rfl) _ | exact encI_len _ | exact Nat.le_of_ble_eq_true rfl | assumption) (clone_A5int w.Log false (by first | assumption | omega | (simp; omega) | simp_all)) rfl rfl rfl rfl ?_
 refine step_r rfl rfl (by decide) ?_
 refine step_storeB (H' := [(3, _), (2, _), (1, _), (0, .box [_, _, _, _])]) rfl rfl rfl rfl rfl rfl (.inr (by decide +kernel)) rfl ?_
 refine step_r rfl rfl (by decide) ?_
 refine step_storeB (H' := [(3, _), (2, _), (1, _), (0, .box [_, _, _, _])]) rfl rfl rfl rfl rfl rfl (.inr (by decide +kernel)) rfl ?_
 refine step_nil (seqK_n (sem_seq (sem_region rfl (step_r (v := (.agg [_, _, _, _])) rfl rfl (Nat.le_of_ble_eq_true rfl) ?_))))
 refine step_storeB (H' := [(3, _), (2, _), (1, .box [_, _, _, _]), (0, _)]) rfl rfl rfl rfl rfl rfl (.inl rfl) rfl ?_
 refine step_nil (seqK_n (sem_ret ?_))
 have e1 : copyV w = w := by
  unfold copyV
  try dsimp only
  all_goals rfl
 rw [e1]
 exact answersGR [] [2, 3] rfl ⟨Nat.le_of_ble_eq_true rfl, trivial⟩ rfl (by (repeat' apply And.intro) <;> first | trivial | rfl | exact flat_len (fun _ => rfl) _ | exact encI_len _ | assumption) (rfl) rfl rfl rfl (by decide) rfl rfl ⟨⟨rfl, rfl⟩, ⟨rfl, rfl⟩, trivial⟩

theorem copyV_len (w : GWorld) : (copyV w).Seen.length = w.Seen.length ∧ (copyV w).Log.length = w.Log.length := ⟨rfl, rfl⟩

def sameV (a : GWorld) (b : GWorld) : Bool :=
  if (a.Me : Int) = b.Me then (if a.Synced = b.Synced then (if a.Seen = b.Seen then (decide (a.Log = b.Log)) else false) else false) else false
theorem sameV_ok (a : GWorld) (b : GWorld) : Ok Tryd.prog 11 [aGWorld a, aGWorld b] [] (B (sameV a b)) [] [] := by
 refine Ok.len fun hlen => ?_
 have hl_a_Seen : a.Seen.length ≤ maxLen := hlen _ (by simp [lensL, lens, lensP])
 have hl_a_Log : a.Log.length ≤ maxLen := hlen _ (by simp [lensL, lens, lensP])
 have hl_b_Seen : b.Seen.length ≤ maxLen := hlen _ (by simp [lensL, lens, lensP])
 have hl_b_Log : b.Log.length ≤ maxLen := hlen _ (by simp [lensL, lens, lensP])
 unfold maxLen at hl_a_Seen hl_a_Log hl_b_Seen hl_b_Log
 refine ok_of_sem Tryd.func11 rfl ?_
 show Walks Tryd.prog _ _ ⟨[(0, aGWorld a), (1, aGWorld b)], [], 0, [], 31, 0⟩
 refine sem_seq (sem_region rfl (step_n (o := .box [_, _, _, _]) (nx' := 1) rfl rfl rfl trivial (step_n (o := .box [_, _, _, _]) (nx' := 2) rfl rfl rfl trivial (step_r rfl rfl trivial (step_nil (seqK_n (sem_seq (sem_region rfl (step_r rfl rfl (by decide) (step_r rfl rfl trivial (step_r rfl rfl (by decide) ?_)))))))))))
 refine step_r rfl rfl trivial (step_bin rfl rfl rfl rfl rfl trivial (step_r rfl rfl trivial ?_))
 refine step_gs rfl (fun h2 => ?_) (fun h2 => ?_)
 ·have g2 : (a.Me : Int) = b.Me := beq_t h2
  refine step_g1 rfl h2 (step_r rfl rfl (by decide) (step_g1 rfl h2 (step_r rfl rfl trivial (step_g1 rfl h2 (step_r rfl rfl (by decide) (step_g1 rfl h2 (step_r rfl rfl trivial (step_g1 rfl h2 (step_bin rfl rfl rfl rfl rfl trivial (step_pickT rfl h2 rfl rfl (step_r rfl rfl trivial ?_)))))))))))
  refine step_gs rfl (fun h4 => ?_) (fun h4 => ?_)
  ·have g4 : a.Synced = b.Synced := beq_t h4
   refine step_g1 rfl h4 (step_r rfl rfl (by decide) (step_g1 rfl h4 (step_r rfl rfl trivial (step_g1 rfl h4 (step_r rfl rfl (by decide) (step_g1 rfl h4 (step_r rfl rfl trivial (step_g1 rfl h4 (step_call rfl rfl rfl rfl (equal_GSeen a.Seen false b.Seen false) rfl rfl rfl (step_pickT rfl h4 rfl rfl (step_r rfl rfl trivial ?_)))))))))))
   refine step_gs rfl (fun h6 => ?_) (fun h6 => ?_)
   ·have g6 : a.Seen = b.Seen := of_decide_eq_true h6
    refine step_g1 rfl h6 (step_r rfl rfl (by decide) (step_g1 rfl h6 (step_r rfl rfl trivial (step_g1 rfl h6 (step_r rfl rfl (by decide) (step_g1 rfl h6 (step_r rfl rfl trivial (step_g1 rfl h6 (step_call rfl rfl rfl rfl (equal_A5int a.Log false b.Log false) rfl rfl rfl (step_pickT rfl h6 rfl rfl (step_r rfl rfl trivial ?_)))))))))))
    refine step_nil (seqK_n (sem_ret ?_))
    have e8 : sameV a b = (decide (a.Log = b.Log)) := by
     unfold sameV
     try dsimp only
     rewrite [if_pos g2, if_pos g4, if_pos g6]
     all_goals rfl
    rw [e8]
    exact answersR rfl ⟨trivial, trivial⟩ (rfl) rfl
   ·have g6 : ¬ (a.Seen = b.Seen) := of_decide_eq_false h6
    refine step_g0 rfl h6 rfl (step_g0 rfl h6 rfl (step_g0 rfl h6 rfl (step_g0 rfl h6 rfl (step_g0 rfl h6 rfl (step_pickF rfl h6 rfl rfl (step_r rfl rfl trivial (step_nil (seqK_n (sem_ret ?_)))))))))
    have e9 : sameV a b = false := by
     unfold sameV
     try dsimp only
     rewrite [if_pos g2, if_pos g4, if_neg g6]
     all_goals rfl
    rw [e9]
    exact answersR rfl ⟨trivial, trivial⟩ (rfl) rfl
  ·have g4 : ¬ (a.Synced = b.Synced) := beq_f h4
   refine step_g0 rfl h4 rfl (step_g0 rfl h4 rfl (step_g0 rfl h4 rfl (step_g0 rfl h4 rfl (step_g0 rfl h4 rfl (step_pickF rfl h4 rfl rfl (step_r rfl rfl trivial (step_gf rfl rfl (step_gf rfl rfl (step_gf rfl rfl (step_gf rfl rfl (step_gf rfl rfl ?_)))))))))))
   refine step_r rfl rfl trivial (step_r rfl rfl trivial (step_nil (seqK_n (sem_ret ?_))))
   have e10 : sameV a b = false := by
    unfold sameV
    try dsimp only
    rewrite [if_pos g2, if_neg g4]
    all_goals rfl
   rw [e10]
   exact answersR rfl ⟨trivial, trivial⟩ (rfl) rfl
 ·have g2 : ¬ ((a.Me : Int) = b.Me) := beq_f h2
  refine step_g0 rfl h2 rfl (step_g0 rfl h2 rfl (step_g0 rfl h2 rfl (step_g0 rfl h2 rfl (step_g0 rfl h2 rfl (step_pickF rfl h2 rfl rfl (step_r rfl rfl trivial (step_gf rfl rfl (step_gf rfl rfl (step_gf rfl rfl (step_gf rfl rfl (step_gf rfl rfl ?_)))))))))))
  refine step_r rfl rfl trivial (step_r rfl rfl trivial (step_gf rfl rfl (step_gf rfl rfl (step_gf rfl rfl (step_gf rfl rfl (step_gf rfl rfl (step_r rfl rfl trivial (step_r rfl rfl trivial (step_nil (seqK_n (sem_ret ?_)))))))))))
  have e11 : sameV a b = false := by
   unfold sameV
   try dsimp only
   rewrite [if_neg g2]
   all_goals rfl
  rw [e11]
  exact answersR rfl ⟨trivial, trivial⟩ (rfl) rfl



def atUnit (s : GSeen) (c1 : Int) : Bool :=
  ((s.Unit : Int) == c1)
theorem atUnit_ok (s : GSeen) (c1 : Int) : Ok Tryd.prog 38 [aGSeen s, .pptr [i64 c1] 0] [] (B (atUnit s c1)) [] [] := by
 refine ok_of_sem Tryd.func38 rfl ?_
 show Walks Tryd.prog _ _ ⟨[(0, aGSeen s), (1, .pptr [i64 c1] 0)], [], 0, [], 8, 0⟩
 refine sem_seq (sem_region rfl (step_n (o := .box [_, _, _, _, _, _, _, _, _, _, _]) (nx' := 1) rfl rfl rfl trivial (step_r rfl rfl trivial (step_nil (seqK_n (sem_seq (sem_region rfl (step_r rfl rfl (by decide) (step_r rfl rfl trivial (step_load_one rfl rfl rfl (rfl) rfl (step_bin rfl rfl rfl rfl rfl trivial ?_)))))))))))
 refine step_r rfl rfl trivial (step_nil (seqK_n (sem_ret ?_)))
 have e2 : atUnit s c1 = ((s.Unit : Int) == c1) := by
  unfold atUnit
  try dsimp only
  all_goals rfl
 rw [e2]
 exact answersR rfl ⟨trivial, trivial⟩ (rfl) rfl

def findV (l : List GSeen) (unit : Int) : Int :=
  (fidx (fun x_ => atUnit x_ unit) l)
theorem findV_ok (l : List GSeen) (l_f : Bool) (unit : Int) : Ok Tryd.prog 23 [.pv (.slc l.length l_f (l.flatMap encGSeen)), I unit] [] (I (findV l unit)) [] [] := by
 refine Ok.len fun hlen => ?_
 have hl_l : l.length ≤ maxLen := hlen _ (by simp [lensL, lens, lensP])
 unfold maxLen at hl_l
 refine ok_of_sem Tryd.func23 rfl ?_
 show Walks Tryd.prog _ _ ⟨[(0, .pv (.slc l.length l_f (l.flatMap encGSeen))), (1, I unit)], [], 0, [], 8, 0⟩
 refine sem_seq (sem_region rfl (step_n (o := .box [_]) (nx' := 1) rfl rfl rfl trivial (step_r rfl rfl trivial (step_nil (seqK_n (sem_seq (sem_region rfl (step_r rfl rfl trivial (step_r rfl rfl trivial ?_)))))))))
 refine step_callJ (Hin := [.box [.pv _]]) (H' := [(0, _)]) (nx' := 1) [0] rfl rfl rfl rfl rfl rfl rfl rfl rfl (by (repeat' apply And.intro) <;> first | trivial | rfl | exact flat_len (fun _ => rfl) _ | exact encI_len _ | exact Nat.le_of_ble_eq_true rfl | assumption) (ixf_GSeen l false 38 [.pptr [i64 unit] 0] (fun x_ => atUnit x_ unit) ⟨rfl, rfl, fun _ => rfl, fun _ => rfl, fun x_ => atUnit_ok x_ unit⟩) rfl (by decide) rfl rfl trivial rfl rfl rfl rfl ?_
 have p1 := fidx_lt (fun x_ => atUnit x_ unit) l
 refine step_r rfl rfl trivial (step_nil (seqK_n (sem_ret ?_)))
 have e3 : findV l unit = (fidx (fun x_ => atUnit x_ unit) l) := by
  unfold findV
  try dsimp only
  all_goals rfl
 rw [e3]
 exact answersR rfl ⟨trivial, trivial⟩ (rfl) rfl

theorem findV_lt (l : List GSeen) (u : Int) : -1 ≤ findV l u ∧ findV l u < l.length := fidx_lt _ l

def enterV (s : GSeen) : GMessage :=
  (⟨4, [s.Unit, s.Fields.f0, s.Fields.f1, s.Fields.f2, s.Fields.f3, s.Fields.f4, s.Fields.f5, s.Fields.f6, s.Fields.f7, s.Fields.f8], (nameOf s.Name)⟩ : GMessage)
theorem enterV_ok (s : GSeen) : Ok Tryd.prog 20 [aGSeen s] [] (aGMessage (enterV s)) [] [] := by
 refine ok_of_sem Tryd.func20 rfl ?_
 show Walks Tryd.prog _ _ ⟨[(0, aGSeen s)], [], 0, [], 15, 0⟩
 refine sem_seq (sem_region rfl (step_n (o := .box [_, _, _, _, _, _, _, _, _, _, _]) (nx' := 1) rfl rfl rfl trivial (step_n (o := .box [_, _, _]) (nx' := 2) rfl rfl rfl trivial (step_nil (seqK_n (sem_seq ?_))))))
 refine sem_drawn rfl (by decide +kernel) rfl ?_
 refine step_r rfl rfl (by decide) (step_r rfl rfl trivial (step_n (o := .row _ _ [_]) (nx' := 3) rfl rfl rfl (by decide) (step_r rfl rfl (by decide) (step_r rfl rfl ⟨by decide, by decide, by decide, by decide⟩ ?_))))
 refine step_appendC (m := 9) (new := [_, _, _, _, _, _, _, _, _]) (cs' := encI [s.Unit, s.Fields.f0, s.Fields.f1, s.Fields.f2, s.Fields.f3, s.Fields.f4, s.Fields.f5, s.Fields.f6, s.Fields.f7, s.Fields.f8]) (H' := [(2, .row _ _ _), (1, .box [_, _, _]), (0, .box [_, _, _, _, _, _, _, _, _, _, _])]) rfl rfl rfl (rfl) rfl rfl rfl rfl rfl rfl (rfl) (rfl) (by first | decide | (unfold maxGrow; omega) | (unfold maxGrow; simp; omega) | (unfold maxGrow; simp only [List.length_append, List.length_take, List.length_drop, List.length_cons, List.length_nil, IntKind.wrap_i64] at *; omega)) (rfl) (rfl) (.inr (by decide +kernel)) rfl rfl (.keep rfl (.keep rfl (.keep rfl .nil))) (.keep rfl (.keep rfl (.lose (v' := .undef) rfl (.keep rfl (.keep rfl (.keep rfl (.keep rfl (.keep rfl .nil)))))))) ?_
 refine step_r rfl rfl trivial (step_nil (seqK_n (sem_seq (sem_region rfl (step_r rfl rfl trivial (step_r rfl rfl (by decide) (step_r rfl rfl trivial (step_call rfl rfl rfl rfl (nameOf_ok s.Name) rfl rfl rfl (step_r (v := (.agg [_, _, _])) rfl rfl trivial ?_)))))))))
 refine step_storeB (H' := [(2, _), (1, .box [_, _, _]), (0, _)]) rfl rfl rfl rfl rfl rfl (.inl rfl) rfl ?_
 refine step_nil (seqK_n ?_)
 refine sem_trans (Trans.freezeJ (T' := [(2, .ptr 1 0)]) (H' := [(1, .box [I 4, .pv (.slc ([s.Unit, s.Fields.f0, s.Fields.f1, s.Fields.f2, s.Fields.f3, s.Fields.f4, s.Fields.f5, s.Fields.f6, s.Fields.f7, s.Fields.f8]).length false (encI [s.Unit, s.Fields.f0, s.Fields.f1, s.Fields.f2, s.Fields.f3, s.Fields.f4, s.Fields.f5, s.Fields.f6, s.Fields.f7, s.Fields.f8])), .pv (.str (nameOf s.Name))])]) [2] (by decide) ⟨⟨_, _, rfl, rfl, (by (repeat' apply And.intro) <;> first | trivial | rfl | exact flat_len (fun _ => rfl) _ | exact encI_len _ | exact Nat.le_of_ble_eq_true rfl | assumption)⟩, trivial⟩ ⟨⟨rfl, _, _, rfl, rfl, (by (repeat' apply And.intro) <;> first | trivial | rfl | exact flat_len (fun _ => rfl) _ | exact encI_len _ | exact Nat.le_of_ble_eq_true rfl | assumption)⟩, trivial⟩) ?_
 refine sem_ret ?_
 have e1 : enterV s = (⟨4, [s.Unit, s.Fields.f0, s.Fields.f1, s.Fields.f2, s.Fields.f3, s.Fields.f4, s.Fields.f5, s.Fields.f6, s.Fields.f7, s.Fields.f8], (nameOf s.Name)⟩ : GMessage) := by
  unfold enterV
  try dsimp only
  all_goals rfl
 rw [e1]
 exact answersR rfl ⟨Nat.le_of_ble_eq_true rfl, trivial⟩ (rfl) rfl

def fullV_L0 : List GSeen → Nat → (List GMessage) → List GMessage
  | [], k0, out0 => out0
  | x0 :: l_, k0, out0 => fullV_L0 l_ (k0 + 1) (out0 ++ [(enterV x0)])
def fullV (me : Int) (l : List GSeen) : List GMessage :=
  (let out_0 := fullV_L0 l 0 ([(⟨3, ([] : List Int), []⟩ : GMessage), (⟨2, ([me]), []⟩ : GMessage)]); (out_0 ++ [(⟨10, ([] : List Int), []⟩ : GMessage)]))
theorem fullV_ok (me : Int) (l : List GSeen) (l_f : Bool) (hl : l.length ≤ 16777000) : Ok Tryd.prog 10 [I me, .pv (.slc l.length l_f (l.flatMap encGSeen))] [] (.pv (.slc (fullV me l).length false ((fullV me l).flatMap encGMessage))) [] [] := by
 refine Ok.len fun hlen => ?_
 have hl_l : l.length ≤ maxLen := hlen _ (by simp [lensL, lens, lensP])
 unfold maxLen at hl_l
 refine ok_of_sem Tryd.func10 rfl ?_
 show Walks Tryd.prog _ _ ⟨[(0, I me), (1, .pv (.slc l.length l_f (l.flatMap encGSeen)))], [], 0, [], 29, 0⟩
 refine sem_seq (sem_region rfl (step_n (nx' := 1) rfl rfl rfl trivial (step_nil (seqK_n (sem_seq ?_)))))
 refine sem_regionS rfl (opsS_cut 1 (j := 0) ?_)
 simp only [List.take_succ_cons, List.take_zero, List.drop_succ_cons, List.drop_zero]
 refine step_r (v := (.agg [_, _, _])) rfl rfl trivial (step_nil ?_)
 refine opsS_trans (Trans.loose (T' := [(0, I me), (1, .pv (.slc l.length l_f (l.flatMap encGSeen))), (4, .ref 0 3 0 0), (8, .agg [I 3, .pv (.slc ([] : List Int).length false (encI ([] : List Int))), .pv (.str [])])]) (H' := [(0, .row 37 3 [])]) ⟨⟨_, rfl, .inl rfl⟩, ⟨_, rfl, .inl rfl⟩, ⟨_, rfl, .inl rfl⟩, ⟨_, rfl, .inr rfl⟩, trivial⟩ ⟨⟨_, rfl, .inl rfl⟩, trivial⟩) ?_
 refine opsS_of (j := 1) ?_
 refine step_r rfl rfl trivial ?_
 refine step_nF (cs := [_]) (n := 1) (nx' := 2) rfl rfl rfl (by decide) rfl ?_
 refine step_r (v := (.agg [_, _, _])) rfl rfl trivial (step_n (o := .row _ _ [_, _, _, _, _, _]) (nx' := 3) rfl rfl rfl (by decide) (step_r rfl rfl trivial (step_nil (seqK_n (sem_seq (sem_seq (sem_region rfl (step_r rfl rfl trivial (step_r rfl rfl trivial (step_r rfl rfl trivial (step_nil ?_)))))))))))
 refine seqK_n ?_
 refine sem_cutW (fun out_0 : List GMessage => (⟨[(5, .ref 0 3 0 out_0.length)], [(0, .row 37 3 (out_0.flatMap encGMessage))], 1, [], 29, 0⟩ : St)) (fun out_0 : List GMessage => fullV_L0 l 0 ([(⟨3, ([] : List Int), []⟩ : GMessage), (⟨2, ([me]), []⟩ : GMessage)]) = out_0 ∧ (out_0.length ≤ l.length + 2)) ?_ ?_
 ·refine sem_block ?_
  refine sem_loopT (fun w_ : Nat × (List GMessage) => match w_ with | (k0, out0) => (⟨[(5, .ref 0 3 0 out0.length), (13, .pv (.slc l.length l_f (l.flatMap encGSeen))), (14, I l.length), (15, I k0)], [(0, .row 37 3 (out0.flatMap encGMessage))], 1, [], 29, 0⟩ : St)) (fun w_ : Nat × (List GMessage) => match w_ with | (k0, out0) => fullV_L0 (l.drop k0) k0 out0 = fullV_L0 l 0 ([(⟨3, ([] : List Int), []⟩ : GMessage), (⟨2, ([me]), []⟩ : GMessage)]) ∧ k0 ≤ l.length ∧ out0.length ≤ k0 + 2) (fun w_ : Nat × (List GMessage) => match w_ with | (k0, out0) => l.length - k0) (0, [(⟨3, ([] : List Int), []⟩ : GMessage), (⟨2, ([me]), []⟩ : GMessage)]) (⟨rfl, Nat.zero_le _, by first | omega | simp | (simp; omega)⟩) ?_ (fun w_ hh_ => ?_)
  ·exact (Trans.ren [(0, 2), (2, 0)] (by decide +kernel) (by decide +kernel) rfl ⟨⟨congrArg (fun n => some (AV.ref 2 3 0 n)) (by first | rfl | simp only [List.length_set] | simp | omega | (simp; omega)), rfl⟩, ⟨rfl, rfl⟩, ⟨rfl, rfl⟩, ⟨rfl, rfl⟩, trivial⟩ ⟨⟨rfl, rfl, rfl⟩, trivial⟩ (by decide))
  obtain ⟨k0, out0⟩ := w_
  obtain ⟨hI0, hb0, hv0⟩ := hh_
  show Walks Tryd.prog _ _ (⟨[(5, .ref 0 3 0 out0.length), (13, .pv (.slc l.length l_f (l.flatMap encGSeen))), (14, I l.length), (15, I k0)], [(0, .row 37 3 (out0.flatMap encGMessage))], 1, [], 29, 0⟩ : St)
  refine sem_seq (sem_region rfl (step_bin rfl rfl rfl rfl rfl trivial (step_nil (seqK_n (sem_seq ?_)))))
  refine sem_cond rfl (fun h3 => ?_) (fun h3 => ?_)
  ·have g3 : (k0 : Int) < l.length := of_decide_eq_true h3
   have hk0 : k0 < l.length := by omega
   obtain ⟨x0, hx0⟩ : ∃ z_, l[k0]? = some z_ := ⟨_, List.getElem?_eq_getElem hk0⟩
   refine sem_skip (seqK_n (sem_seq (sem_block (sem_seq (sem_region rfl (step_idxS (k := k0) rfl rfl rfl rfl hk0 (flat_ne (s := 11) (enc := encGSeen) (fun _ => rfl) (by decide) hk0) rfl (step_load_row rfl rfl rfl (flat_lt (s := 11) (enc := encGSeen) (fun _ => rfl) hk0) (flat_take (s := 11) (enc := encGSeen) (fun _ => rfl) hx0) rfl (step_n (o := .box [_, _, _, _, _, _, _, _, _, _, _]) (nx' := 2) rfl rfl rfl trivial ?_))))))))
   refine step_storeB (H' := [(1, .box [_, _, _, _, _, _, _, _, _, _, _]), (0, _)]) rfl rfl rfl rfl rfl rfl (.inl rfl) rfl ?_
   refine step_nil (seqK_n (sem_region rfl (step_r rfl rfl trivial (step_r (v := (.agg [_, _, _, _, _, _, _, _, _, _, _])) rfl rfl (Nat.le_of_ble_eq_true rfl) (step_call rfl rfl rfl rfl (enterV_ok x0) rfl rfl rfl (step_n (o := .row _ _ [_, _, _]) (nx' := 3) rfl rfl rfl (by decide) ?_))))))
   refine step_appendC (m := 1) (new := [_, _, _]) (cs' := (out0 ++ [(enterV x0)]).flatMap encGMessage) (n' := (out0 ++ [(enterV x0)]).length) (H' := [(2, .row _ _ _), (1, .box [_, _, _, _, _, _, _, _, _, _, _]), (0, .row _ _ _)]) rfl rfl rfl (rfl) rfl rfl rfl rfl rfl rfl (flat_len (s := 3) (enc := encGMessage) (fun _ => rfl) out0) (rfl) (by first | decide | (unfold maxGrow; omega) | (unfold maxGrow; simp; omega) | (unfold maxGrow; simp only [List.length_append, List.length_take, List.length_drop, List.length_cons, List.length_nil, IntKind.wrap_i64] at *; omega)) (len_snoc out0 _) (((flat_snoc (enc := encGMessage) (l := out0) (enterV x0))).symm) (.inl rfl) rfl rfl (.keep rfl (.keep rfl (.keep rfl .nil))) (.keep rfl (.keep rfl (.keep rfl (.lose (v' := .undef) rfl (.keep rfl (.keep rfl (.keep rfl (.keep rfl (.lose (v' := .undef) rfl (.keep rfl (.keep rfl (.keep rfl .nil)))))))))))) ?_
   refine step_r rfl rfl trivial (step_nil (blkK_n (seqK_n (sem_region rfl (step_bin rfl rfl rfl rfl rfl trivial (step_r rfl rfl trivial (step_nil ?_)))))))
   have e5 : fullV_L0 (l.drop k0) k0 out0 = fullV_L0 (l.drop (k0 + 1)) (k0 + 1) (out0 ++ [(enterV x0)]) := by
    rewrite [drop_cons hx0]
    rewrite [fullV_L0]
    try dsimp only
    all_goals rfl
   exact lup_againT (k0 + 1, (out0 ++ [(enterV x0)])) ⟨e5.symm.trans hI0, hk0, by first | omega | assumption | (simp only [List.length_append, List.length_cons, List.length_nil, List.length_set]; omega) | (simp; omega) | grind⟩ (by show l.length - (k0 + 1) < l.length - k0; omega) (Trans.ren [] (by decide +kernel) (by decide +kernel) rfl ⟨⟨rfl, rfl⟩, ⟨rfl, rfl⟩, ⟨rfl, rfl⟩, ⟨congrArg (fun n => some (I n)) (wrapI (k := k0) (by first | omega | (simp; omega))), rfl⟩, trivial⟩ ⟨⟨rfl, rfl, rfl⟩, trivial⟩ (by decide))
  ·have g3 : ¬ ((k0 : Int) < l.length) := of_decide_eq_false h3
   have hk0 : k0 = l.length := by omega
   refine sem_exit (seqK_e (lupK_e (blkK_t rfl ?_)))
   have e6 : fullV_L0 l 0 ([(⟨3, ([] : List Int), []⟩ : GMessage), (⟨2, ([me]), []⟩ : GMessage)]) = out0 := by
    rewrite [← hI0, hk0, List.drop_length]
    rewrite [fullV_L0]
    try dsimp only
    all_goals rfl
   exact cutW_n out0 ⟨e6, by first | assumption | omega | (simp; omega) | simp_all | grind⟩ (Trans.ren [] (by decide +kernel) (by decide +kernel) rfl ⟨⟨rfl, rfl⟩, trivial⟩ ⟨⟨rfl, rfl, rfl⟩, trivial⟩ (by decide))
 ·rintro out_0 ⟨(hJ2 : fullV_L0 l 0 ([(⟨3, ([] : List Int), []⟩ : GMessage), (⟨2, ([me]), []⟩ : GMessage)]) = out_0), hE0⟩
  show seqK _ _ _ .normal (⟨[(5, .ref 0 3 0 out_0.length)], [(0, .row 37 3 (out_0.flatMap encGMessage))], 1, [], 29, 0⟩ : St)
  refine seqK_n (sem_seq ?_)
  refine sem_regionS rfl (opsS_cut 2 (j := 0) ?_)
  simp only [List.take_succ_cons, List.take_zero, List.drop_succ_cons, List.drop_zero]
  refine step_r rfl rfl trivial (step_r (v := (.agg [_, _, _])) rfl rfl trivial (step_nil ?_))
  refine opsS_trans (Trans.loose (T' := [(5, .ref 0 3 0 out_0.length), (25, .ref 0 3 0 out_0.length), (26, .agg [I 10, .pv (.slc ([] : List Int).length false (encI ([] : List Int))), .pv (.str [])])]) (H' := [(0, .row 37 3 (out_0.flatMap encGMessage))]) ⟨⟨_, rfl, .inl rfl⟩, ⟨_, rfl, .inl rfl⟩, ⟨_, rfl, .inr rfl⟩, trivial⟩ ⟨⟨_, rfl, .inl rfl⟩, trivial⟩) ?_
  refine opsS_of (j := 2) ?_
  refine step_n (o := .row _ _ [_, _, _]) (nx' := 2) rfl rfl rfl (by decide) ?_
  refine step_appendC (m := 1) (new := [_, _, _]) (cs' := (out_0 ++ [(⟨10, ([] : List Int), []⟩ : GMessage)]).flatMap encGMessage) (n' := (out_0 ++ [(⟨10, ([] : List Int), []⟩ : GMessage)]).length) (H' := [(1, .row _ _ _), (0, .row _ _ _)]) rfl rfl rfl (rfl) rfl rfl rfl rfl rfl rfl (flat_len (s := 3) (enc := encGMessage) (fun _ => rfl) out_0) (rfl) (by first | decide | (unfold maxGrow; omega) | (unfold maxGrow; simp; omega) | (unfold maxGrow; simp only [List.length_append, List.length_take, List.length_drop, List.length_cons, List.length_nil, IntKind.wrap_i64] at *; omega)) (len_snoc out_0 _) (((flat_snoc (enc := encGMessage) (l := out_0) (⟨10, ([] : List Int), []⟩ : GMessage))).symm) (.inl rfl) rfl rfl (.keep rfl (.keep rfl .nil)) (.keep rfl (.lose (v' := .undef) rfl (.lose (v' := .undef) rfl (.keep rfl .nil)))) ?_
  refine step_r rfl rfl trivial (step_nil (seqK_n ?_))
  refine sem_trans (Trans.freezeJ (T' := [(4, .pv (.slc (out_0 ++ [(⟨10, ([] : List Int), []⟩ : GMessage)]).length false ((out_0 ++ [(⟨10, ([] : List Int), []⟩ : GMessage)]).flatMap encGMessage)))]) (H' := []) [0] (by decide) ⟨⟨_, _, rfl, rfl, (by (repeat' apply And.intro) <;> first | trivial | rfl | exact flat_len (s := 3) (enc := encGMessage) (fun _ => rfl) _ | exact flat_len (fun _ => rfl) _ | exact encI_len _ | exact Nat.le_of_ble_eq_true rfl | assumption)⟩, trivial⟩ trivial) ?_
  refine sem_ret ?_
  have e7 : fullV me l = (out_0 ++ [(⟨10, ([] : List Int), []⟩ : GMessage)]) := by
   unfold fullV
   try dsimp only
   rewrite [hJ2]
   try dsimp only
   all_goals rfl
  rw [e7]
  exact answersR rfl ⟨trivial, trivial⟩ (rfl) rfl

def A9int.get (x : A9int) (k : Nat) : Int := match k with | 0 => x.f0 | 1 => x.f1 | 2 => x.f2 | 3 => x.f3 | 4 => x.f4 | 5 => x.f5 | 6 => x.f6 | 7 => x.f7 | _ => x.f8
def A9int.set (x : A9int) (k : Nat) (v : Int) : A9int := match k with | 0 => { x with f0 := v } | 1 => { x with f1 := v } | 2 => { x with f2 := v } | 3 => { x with f3 := v } | 4 => { x with f4 := v } | 5 => { x with f5 := v } | 6 => { x with f6 := v } | 7 => { x with f7 := v } | _ => { x with f8 := v }
abbrev A9int.list (x : A9int) : List Int := [x.f0, x.f1, x.f2, x.f3, x.f4, x.f5, x.f6, x.f7, x.f8]
theorem A9int.get_cell (x : A9int) {k : Nat} (h : k < 9) : ([I x.f0, I x.f1, I x.f2, I x.f3, I x.f4, I x.f5, I x.f6, I x.f7, I x.f8] : List AV)[0 + k * 1]? = some (I (x.get k)) := by
  match k, h with | 0, _ => rfl | 1, _ => rfl | 2, _ => rfl | 3, _ => rfl | 4, _ => rfl | 5, _ => rfl | 6, _ => rfl | 7, _ => rfl | 8, _ => rfl | k + 9, h => exact absurd h (by omega)
theorem A9int.set_cell (x : A9int) {k : Nat} (h : k < 9) (v : Int) : ([I x.f0, I x.f1, I x.f2, I x.f3, I x.f4, I x.f5, I x.f6, I x.f7, I x.f8] : List AV).set (0 + k * 1) (I v) = [I (x.set k v).f0, I (x.set k v).f1, I (x.set k v).f2, I (x.set k v).f3, I (x.set k v).f4, I (x.set k v).f5, I (x.set k v).f6, I (x.set k v).f7, I (x.set k v).f8] := by
  match k, h with | 0, _ => rfl | 1, _ => rfl | 2, _ => rfl | 3, _ => rfl | 4, _ => rfl | 5, _ => rfl | 6, _ => rfl | 7, _ => rfl | 8, _ => rfl | k + 9, h => exact absurd h (by omega)
theorem A9int.get_at (x : A9int) {k : Nat} (h : k < 9) (pre post : List AV) : (pre ++ ([I x.f0, I x.f1, I x.f2, I x.f3, I x.f4, I x.f5, I x.f6, I x.f7, I x.f8] ++ post))[pre.length + k * 1]? = some (I (x.get k)) := by
  rw [Nat.mul_one, List.getElem?_append_right (Nat.le_add_right _ _), Nat.add_sub_cancel_left]
  match k, h with | 0, _ => rfl | 1, _ => rfl | 2, _ => rfl | 3, _ => rfl | 4, _ => rfl | 5, _ => rfl | 6, _ => rfl | 7, _ => rfl | 8, _ => rfl | k + 9, h => exact absurd h (by omega)
theorem A9int.set_atP (x : A9int) {k : Nat} (h : k < 9) (v : Int) (pre post : List PV) : (pre ++ ([i64 x.f0, i64 x.f1, i64 x.f2, i64 x.f3, i64 x.f4, i64 x.f5, i64 x.f6, i64 x.f7, i64 x.f8] ++ post)).set (pre.length + k * 1) (i64 v) = pre ++ ([i64 (x.set k v).f0, i64 (x.set k v).f1, i64 (x.set k v).f2, i64 (x.set k v).f3, i64 (x.set k v).f4, i64 (x.set k v).f5, i64 (x.set k v).f6, i64 (x.set k v).f7, i64 (x.set k v).f8] ++ post) := by
  rw [Nat.mul_one, List.set_append_right _ _ (Nat.le_add_right _ _), Nat.add_sub_cancel_left]
  match k, h with | 0, _ => rfl | 1, _ => rfl | 2, _ => rfl | 3, _ => rfl | 4, _ => rfl | 5, _ => rfl | 6, _ => rfl | 7, _ => rfl | 8, _ => rfl | k + 9, h => exact absurd h (by omega)
theorem A9int.get_list (x : A9int) {k : Nat} (h : k < 9) : x.list[k]? = some (x.get k) := by
  match k, h with | 0, _ => rfl | 1, _ => rfl | 2, _ => rfl | 3, _ => rfl | 4, _ => rfl | 5, _ => rfl | 6, _ => rfl | 7, _ => rfl | 8, _ => rfl | k + 9, h => exact absurd h (by omega)
theorem A9int.set_list (x : A9int) {k : Nat} (h : k < 9) (v : Int) : (x.set k v).list = x.list.set k v := by
  match k, h with | 0, _ => rfl | 1, _ => rfl | 2, _ => rfl | 3, _ => rfl | 4, _ => rfl | 5, _ => rfl | 6, _ => rfl | 7, _ => rfl | 8, _ => rfl | k + 9, h => exact absurd h (by omega)

def diffV_L0 (old : GSeen) (now : GSeen) : Nat → Nat → (List GMessage) → List GMessage
  | 0, k0, out0 => out0
  | n_ + 1, k0, out0 => if (now.Fields.get k0 : Int) = (old.Fields.get k0) then diffV_L0 old now n_ (k0 + 1) out0 else diffV_L0 old now n_ (k0 + 1) (out0 ++ [(⟨6, ([now.Unit, (k0 : Int), (now.Fields.get k0)]), []⟩ : GMessage)])
def diffV (old : GSeen) (now : GSeen) : List GMessage :=
  if ((old.Fields.f0 == now.Fields.f0) && ((old.Fields.f1 == now.Fields.f1) && ((old.Fields.f2 == now.Fields.f2) && ((old.Fields.f3 == now.Fields.f3) && ((old.Fields.f4 == now.Fields.f4) && ((old.Fields.f5 == now.Fields.f5) && ((old.Fields.f6 == now.Fields.f6) && ((old.Fields.f7 == now.Fields.f7) && ((old.Fields.f8 == now.Fields.f8) && true))))))))) = true then ([] : List GMessage) else (let out_0 := diffV_L0 old now (9 - 0) 0 ([]); out_0)
theorem diffV_ok (old : GSeen) (now : GSeen) : Ok Tryd.prog 24 [aGSeen old, aGSeen now] [] (.pv (.slc (diffV old now).length false ((diffV old now).flatMap encGMessage))) [] [] := by
 refine ok_of_sem Tryd.func24 rfl ?_
 show Walks Tryd.prog _ _ ⟨[(0, aGSeen old), (1, aGSeen now)], [], 0, [], 36, 0⟩
 refine sem_seq (sem_region rfl (step_n (o := .box [_, _, _, _, _, _, _, _, _, _, _]) (nx' := 1) rfl rfl rfl trivial (step_n (o := .box [_, _, _, _, _, _, _, _, _, _, _]) (nx' := 2) rfl rfl rfl trivial (step_n (nx' := 3) rfl rfl rfl trivial (step_nil (seqK_n (sem_seq (sem_seq (sem_region rfl (step_r rfl rfl (by decide) (step_r (v := (.agg [_, _, _, _, _, _, _, _, _])) rfl rfl (Nat.le_of_ble_eq_true rfl) ?_)))))))))))
 refine step_r rfl rfl (by decide) (step_r (v := (.agg [_, _, _, _, _, _, _, _, _])) rfl rfl (Nat.le_of_ble_eq_true rfl) ?_)
 refine step_eqlA rfl rfl rfl (by kernel_rfl) rfl rfl rfl rfl rfl ?_
 refine step_nil (seqK_n ?_)
 refine sem_cond rfl (fun h1 => ?_) (fun h1 => ?_)
 ·have g1 : ((old.Fields.f0 == now.Fields.f0) && ((old.Fields.f1 == now.Fields.f1) && ((old.Fields.f2 == now.Fields.f2) && ((old.Fields.f3 == now.Fields.f3) && ((old.Fields.f4 == now.Fields.f4) && ((old.Fields.f5 == now.Fields.f5) && ((old.Fields.f6 == now.Fields.f6) && ((old.Fields.f7 == now.Fields.f7) && ((old.Fields.f8 == now.Fields.f8) && true))))))))) = true := h1
  refine sem_seq (sem_region rfl (step_n (nx' := 4) rfl rfl rfl trivial (step_nil (seqK_n ?_))))
  refine sem_trans (Trans.freezeJ (T' := [(4, .pv (.slc ([] : List GMessage).length false (([] : List GMessage).flatMap encGMessage)))]) (H' := []) [3] (by decide) ⟨⟨_, _, rfl, rfl, (by (repeat' apply And.intro) <;> first | trivial | rfl | exact flat_len (fun _ => rfl) _ | exact encI_len _ | exact Nat.le_of_ble_eq_true rfl | assumption)⟩, trivial⟩ trivial) ?_
  refine sem_ret (seqK_r ?_)
  have e2 : diffV old now = ([] : List GMessage) := by
   unfold diffV
   try dsimp only
   rewrite [if_pos g1]
   all_goals rfl
  rw [e2]
  exact answersR rfl ⟨trivial, trivial⟩ (rfl) rfl
 ·have g1 : ¬ (((old.Fields.f0 == now.Fields.f0) && ((old.Fields.f1 == now.Fields.f1) && ((old.Fields.f2 == now.Fields.f2) && ((old.Fields.f3 == now.Fields.f3) && ((old.Fields.f4 == now.Fields.f4) && ((old.Fields.f5 == now.Fields.f5) && ((old.Fields.f6 == now.Fields.f6) && ((old.Fields.f7 == now.Fields.f7) && ((old.Fields.f8 == now.Fields.f8) && true))))))))) = true) := boo_f h1
  refine sem_skip (seqK_n (sem_seq (sem_region rfl (step_n (nx' := 4) rfl rfl rfl trivial (step_nil (seqK_n (sem_seq (sem_seq (sem_region rfl (step_r rfl rfl (by decide) (step_r (v := (.agg [_, _, _, _, _, _, _, _, _])) rfl rfl (Nat.le_of_ble_eq_true rfl) ?_)))))))))))
  refine step_r rfl rfl trivial (step_nil (seqK_n ?_))
  refine sem_cutW (fun out_0 : List GMessage => (⟨[(5, .ref 0 3 0 out_0.length)], [(0, .row 37 3 (out_0.flatMap encGMessage))], 1, [], 36, 0⟩ : St)) (fun w_ => diffV_L0 old now (9 - 0) 0 ([]) = w_) ?_ ?_
  ·refine sem_block ?_
   refine sem_loopT (fun w_ : Nat × (List GMessage) => match w_ with | (k0, out0) => (⟨[(2, .ptr 0 0), (3, .ptr 1 0), (5, .ref 2 3 0 out0.length), (14, .agg [I now.Fields.f0, I now.Fields.f1, I now.Fields.f2, I now.Fields.f3, I now.Fields.f4, I now.Fields.f5, I now.Fields.f6, I now.Fields.f7, I now.Fields.f8]), (15, I k0)], [(0, .box [I old.Unit, .pv (.str old.Name), I old.Fields.f0, I old.Fields.f1, I old.Fields.f2, I old.Fields.f3, I old.Fields.f4, I old.Fields.f5, I old.Fields.f6, I old.Fields.f7, I old.Fields.f8]), (1, .box [I now.Unit, .pv (.str now.Name), I now.Fields.f0, I now.Fields.f1, I now.Fields.f2, I now.Fields.f3, I now.Fields.f4, I now.Fields.f5, I now.Fields.f6, I now.Fields.f7, I now.Fields.f8]), (2, .row 37 3 (out0.flatMap encGMessage))], 3, [], 36, 0⟩ : St)) (fun w_ : Nat × (List GMessage) => match w_ with | (k0, out0) => diffV_L0 old now (9 - k0) k0 out0 = diffV_L0 old now (9 - 0) 0 ([]) ∧ k0 ≤ 9 ∧ out0.length ≤ k0) (fun w_ : Nat × (List GMessage) => match w_ with | (k0, out0) => 9 - k0) (0, []) (⟨rfl, (by first | omega | (simp; omega)), by first | omega | simp | (simp; omega)⟩) ?_ (fun w_ hh_ => ?_)
   ·exact (Trans.ren [(2, 3), (3, 2)] (by decide +kernel) (by decide +kernel) rfl ⟨⟨rfl, rfl⟩, ⟨rfl, rfl⟩, ⟨congrArg (fun n => some (AV.ref 3 3 0 n)) (by first | rfl | simp only [List.length_set] | simp | omega | (simp; omega)), rfl⟩, ⟨rfl, rfl⟩, ⟨rfl, rfl⟩, trivial⟩ ⟨⟨rfl, rfl, rfl⟩, ⟨rfl, rfl, rfl⟩, ⟨rfl, rfl, rfl⟩, trivial⟩ (by decide))
   obtain ⟨k0, out0⟩ := w_
   obtain ⟨hI0, hb0, hv0⟩ := hh_
   show Walks Tryd.prog _ _ (⟨[(2, .ptr 0 0), (3, .ptr 1 0), (5, .ref 2 3 0 out0.length), (14, .agg [I now.Fields.f0, I now.Fields.f1, I now.Fields.f2, I now.Fields.f3, I now.Fields.f4, I now.Fields.f5, I now.Fields.f6, I now.Fields.f7, I now.Fields.f8]), (15, I k0)], [(0, .box [I old.Unit, .pv (.str old.Name), I old.Fields.f0, I old.Fields.f1, I old.Fields.f2, I old.Fields.f3, I old.Fields.f4, I old.Fields.f5, I old.Fields.f6, I old.Fields.f7, I old.Fields.f8]), (1, .box [I now.Unit, .pv (.str now.Name), I now.Fields.f0, I now.Fields.f1, I now.Fields.f2, I now.Fields.f3, I now.Fields.f4, I now.Fields.f5, I now.Fields.f6, I now.Fields.f7, I now.Fields.f8]), (2, .row 37 3 (out0.flatMap encGMessage))], 3, [], 36, 0⟩ : St)
   refine sem_seq (sem_region rfl (step_bin rfl rfl rfl rfl rfl trivial (step_nil (seqK_n (sem_seq ?_)))))
   refine sem_cond rfl (fun h4 => ?_) (fun h4 => ?_)
   ·have g4 : (k0 : Int) < 9 := of_decide_eq_true h4
    have hm0 : 9 - k0 = (9 - (k0 + 1)) + 1 := by omega
    refine sem_skip (seqK_n (sem_seq (sem_block (sem_seq (sem_region rfl (step_r rfl rfl trivial ?_))))))
    have jk6 : k0 < 9 := by first | assumption | omega | (simp only [IntKind.wrap_i64]; omega) | (simp only [IntKind.wrap_i64] at *; omega) | (simp; omega) | simp_all
    refine step_idxV (k := k0) rfl rfl rfl rfl rfl rfl (A9int.get_cell now.Fields jk6) jk6 rfl ?_
    refine step_r rfl rfl trivial (step_r rfl rfl trivial (step_nil (seqK_n (sem_seq (sem_region rfl (step_r rfl rfl trivial (step_r rfl rfl trivial (step_r rfl rfl (by decide) ?_))))))))
    have jk8 : k0 < 9 := by first | assumption | omega | (simp only [IntKind.wrap_i64]; omega) | (simp only [IntKind.wrap_i64] at *; omega) | (simp; omega) | simp_all
    refine step_idxA (k := k0) rfl rfl rfl rfl rfl jk8 rfl ?_
    refine step_load_boxA rfl rfl rfl rfl (A9int.get_at old.Fields jk8 [_, _] []) rfl ?_
    refine step_bin rfl rfl rfl rfl rfl trivial (step_nil (seqK_n ?_))
    refine sem_cond rfl (fun h9 => ?_) (fun h9 => ?_)
    ·have g9 : ¬ ((now.Fields.get k0 : Int) = (old.Fields.get k0)) := bne_t h9
     refine sem_region rfl (step_r rfl rfl trivial (step_r rfl rfl (by decide) (step_r rfl rfl trivial (step_r rfl rfl trivial (step_r rfl rfl trivial ?_)))))
     refine step_nF (cs := [_, _, _]) (n := 3) (nx' := 4) rfl rfl rfl (by decide) rfl ?_
     refine step_r (v := (.agg [_, _, _])) rfl rfl trivial (step_n (o := .row _ _ [_, _, _]) (nx' := 5) rfl rfl rfl (by decide) ?_)
     refine step_appendC (m := 1) (new := [_, _, _]) (cs' := (out0 ++ [(⟨6, ([now.Unit, (k0 : Int), (now.Fields.get k0)]), []⟩ : GMessage)]).flatMap encGMessage) (n' := (out0 ++ [(⟨6, ([now.Unit, (k0 : Int), (now.Fields.get k0)]), []⟩ : GMessage)]).length) (H' := [(4, .row _ _ _), (0, .box [_, _, _, _, _, _, _, _, _, _, _]), (1, .box [_, _, _, _, _, _, _, _, _, _, _]), (2, .row _ _ _)]) rfl rfl rfl (rfl) rfl rfl rfl rfl rfl rfl (flat_len (s := 3) (enc := encGMessage) (fun _ => rfl) out0) (rfl) (by first | decide | (unfold maxGrow; omega) | (unfold maxGrow; simp; omega) | (unfold maxGrow; simp only [List.length_append, List.length_take, List.length_drop, List.length_cons, List.length_nil, IntKind.wrap_i64] at *; omega)) (len_snoc out0 _) (((flat_snoc (enc := encGMessage) (l := out0) (⟨6, ([now.Unit, (k0 : Int), (now.Fields.get k0)]), []⟩ : GMessage))).symm) (.inl rfl) rfl rfl (.keep rfl (.keep rfl (.keep rfl (.keep rfl .nil)))) (.keep rfl (.keep rfl (.keep rfl (.keep rfl (.keep rfl (.keep rfl (.keep rfl (.lose (v' := .undef) rfl (.keep rfl (.keep rfl (.keep rfl (.keep rfl (.keep rfl (.keep rfl (.keep rfl (.keep rfl (.keep rfl (.keep rfl (.keep rfl (.keep rfl (.keep rfl (.lose (v' := .undef) rfl (.keep rfl (.keep rfl .nil)))))))))))))))))))))))) ?_
     refine step_r rfl rfl trivial (step_nil (blkK_n (seqK_n (sem_region rfl (step_bin rfl rfl rfl rfl rfl trivial (step_r rfl rfl trivial (step_nil ?_)))))))
     have e11 : diffV_L0 old now (9 - k0) k0 out0 = diffV_L0 old now (9 - (k0 + 1)) (k0 + 1) (out0 ++ [(⟨6, ([now.Unit, (k0 : Int), (now.Fields.get k0)]), []⟩ : GMessage)]) := by
      rewrite [hm0]
      rewrite [diffV_L0]
      try dsimp only
      rewrite [if_neg g9]
      all_goals rfl
     exact lup_againT (k0 + 1, (out0 ++ [(⟨6, ([now.Unit, (k0 : Int), (now.Fields.get k0)]), []⟩ : GMessage)])) ⟨e11.symm.trans hI0, (by omega), by first | omega | assumption | (simp only [List.length_append, List.length_cons, List.length_nil, List.length_set]; omega) | (simp; omega) | grind⟩ (by show 9 - (k0 + 1) < 9 - k0; omega) (Trans.ren [] (by decide +kernel) (by decide +kernel) rfl ⟨⟨rfl, rfl⟩, ⟨rfl, rfl⟩, ⟨rfl, rfl⟩, ⟨rfl, rfl⟩, ⟨congrArg (fun n => some (I n)) (wrapI (k := k0) (by first | omega | (simp; omega))), rfl⟩, trivial⟩ ⟨⟨rfl, rfl, rfl⟩, ⟨rfl, rfl, rfl⟩, ⟨rfl, rfl, rfl⟩, trivial⟩ (by decide))
    ·have g9 : (now.Fields.get k0 : Int) = (old.Fields.get k0) := bne_f h9
     refine sem_skip (blkK_n (seqK_n (sem_region rfl (step_bin rfl rfl rfl rfl rfl trivial (step_r rfl rfl trivial (step_nil ?_))))))
     have e13 : diffV_L0 old now (9 - k0) k0 out0 = diffV_L0 old now (9 - (k0 + 1)) (k0 + 1) out0 := by
      rewrite [hm0]
      rewrite [diffV_L0]
      try dsimp only
      rewrite [if_pos g9]
      all_goals rfl
     exact lup_againT (k0 + 1, out0) ⟨e13.symm.trans hI0, (by omega), by first | omega | assumption | (simp only [List.length_append, List.length_cons, List.length_nil, List.length_set]; omega) | (simp; omega) | grind⟩ (by show 9 - (k0 + 1) < 9 - k0; omega) (Trans.ren [] (by decide +kernel) (by decide +kernel) rfl ⟨⟨rfl, rfl⟩, ⟨rfl, rfl⟩, ⟨rfl, rfl⟩, ⟨rfl, rfl⟩, ⟨congrArg (fun n => some (I n)) (wrapI (k := k0) (by first | omega | (simp; omega))), rfl⟩, trivial⟩ ⟨⟨rfl, rfl, rfl⟩, ⟨rfl, rfl, rfl⟩, ⟨rfl, rfl, rfl⟩, trivial⟩ (by decide))
   ·have g4 : ¬ ((k0 : Int) < 9) := of_decide_eq_false h4
    have hm0 : 9 - k0 = 0 := by omega
    refine sem_exit (seqK_e (lupK_e (blkK_t rfl ?_)))
    have e14 : diffV_L0 old now (9 - 0) 0 ([]) = out0 := by
     rewrite [← hI0, hm0]
     rewrite [diffV_L0]
     try dsimp only
     all_goals rfl
    exact cutW_n out0 e14 (Trans.ren [(0, 2), (2, 0)] (by decide +kernel) (by decide +kernel) rfl ⟨⟨rfl, rfl⟩, trivial⟩ ⟨⟨rfl, rfl, rfl⟩, trivial⟩ (by decide))
  ·rintro out_0 (hJ3 : diffV_L0 old now (9 - 0) 0 ([]) = out_0)
   show seqK _ _ _ .normal (⟨[(5, .ref 0 3 0 out_0.length)], [(0, .row 37 3 (out_0.flatMap encGMessage))], 1, [], 36, 0⟩ : St)
   refine seqK_n (sem_seq (sem_region rfl (step_r rfl rfl trivial (step_r rfl rfl trivial (step_nil (seqK_n ?_))))))
   refine sem_trans (Trans.freezeJ (T' := [(4, .pv (.slc out_0.length false (out_0.flatMap encGMessage)))]) (H' := []) [0] (by decide) ⟨⟨_, _, rfl, rfl, (by (repeat' apply And.intro) <;> first | trivial | rfl | exact flat_len (s := 3) (enc := encGMessage) (fun _ => rfl) _ | exact flat_len (fun _ => rfl) _ | exact encI_len _ | exact Nat.le_of_ble_eq_true rfl | assumption)⟩, trivial⟩ trivial) ?_
   refine sem_ret ?_
   have e15 : diffV old now = out_0 := by
    unfold diffV
    try dsimp only
    rewrite [if_neg g1, hJ3]
    try dsimp only
    all_goals rfl
   rw [e15]
   exact answersR rfl ⟨trivial, trivial⟩ (rfl) rfl

theorem diffV_L0_len (old now : GSeen) : ∀ (n k : Nat) (out : List GMessage), (diffV_L0 old now n k out).length ≤ out.length + n
  | 0, k, out => by rw [diffV_L0]; exact Nat.le_refl _
  | n + 1, k, out => by
    rw [diffV_L0]
    split
    · have := diffV_L0_len old now n (k + 1) out; omega
    · refine Nat.le_trans (diffV_L0_len old now n (k + 1) _) ?_
      rw [List.length_append, List.length_cons, List.length_nil]; omega
theorem diffV_len (old now : GSeen) : (diffV old now).length ≤ 9 := by
  unfold diffV
  split
  · exact Nat.zero_le _
  · exact Nat.le_trans (diffV_L0_len old now _ _ _) (by simp)

def updV_L0 (now : List GSeen) : List GSeen → Nat → (List GMessage) → List GMessage
  | [], k0, out0 => out0
  | x0 :: l_, k0, out0 => if (findV now x0.Unit : Int) < 0 then updV_L0 now l_ (k0 + 1) (out0 ++ [(⟨5, ([x0.Unit]), []⟩ : GMessage)]) else updV_L0 now l_ (k0 + 1) out0
def updV_L1 (old : List GSeen) : List GSeen → Nat → (List GMessage) → List GMessage
  | [], k1, out1 => out1
  | x1 :: l_, k1, out1 => if (findV old x1.Unit : Int) < 0 then updV_L1 old l_ (k1 + 1) (out1 ++ [(enterV x1)]) else if ((old.getD ((findV old x1.Unit).toNat) default).Name) = x1.Name then updV_L1 old l_ (k1 + 1) (out1 ++ (diffV (old.getD ((findV old x1.Unit).toNat) default) x1)) else updV_L1 old l_ (k1 + 1) (out1 ++ [(enterV x1)])
def updV (old : List GSeen) (now : List GSeen) : List GMessage :=
  (let out_0 := updV_L0 now old 0 ([]); (let out_1 := updV_L1 old now 0 out_0; out_1))
theorem updV_ok (old : List GSeen) (old_f : Bool) (now : List GSeen) (now_f : Bool) (ho : old.length ≤ 400000) (hn : now.length ≤ 400000) : Ok Tryd.prog 12 [.pv (.slc old.length old_f (old.flatMap encGSeen)), .pv (.slc now.length now_f (now.flatMap encGSeen))] [] (.pv (.slc (updV old now).length false ((updV old now).flatMap encGMessage))) [] [] := by
 refine Ok.len fun hlen => ?_
 have hl_old : old.length ≤ maxLen := hlen _ (by simp [lensL, lens, lensP])
 have hl_now : now.length ≤ maxLen := hlen _ (by simp [lensL, lens, lensP])
 unfold maxLen at hl_old hl_now
 refine ok_of_sem Tryd.func12 rfl ?_
 show Walks Tryd.prog _ _ ⟨[(0, .pv (.slc old.length old_f (old.flatMap encGSeen))), (1, .pv (.slc now.length now_f (now.flatMap encGSeen)))], [], 0, [], 67, 0⟩
 refine sem_seq (sem_region rfl (step_n (nx' := 1) rfl rfl rfl trivial (step_nil (seqK_n (sem_seq (sem_region rfl (step_n (nx' := 2) rfl rfl rfl trivial (step_nil (seqK_n (sem_seq (sem_seq ?_)))))))))))
 refine sem_region rfl (step_r rfl rfl trivial (step_r rfl rfl trivial (step_r rfl rfl trivial (step_nil (seqK_n ?_)))))
 refine sem_cutW (fun out_0 : List GMessage => (⟨[(0, .pv (.slc old.length old_f (old.flatMap encGSeen))), (1, .pv (.slc now.length now_f (now.flatMap encGSeen))), (5, .ref 0 3 0 out_0.length)], [(0, .row 37 3 (out_0.flatMap encGMessage))], 1, [], 67, 0⟩ : St)) (fun out_0 : List GMessage => updV_L0 now old 0 ([]) = out_0 ∧ (out_0.length ≤ old.length)) ?_ ?_
 ·refine sem_block ?_
  refine sem_loopT (fun w_ : Nat × (List GMessage) => match w_ with | (k0, out0) => (⟨[(0, .pv (.slc old.length old_f (old.flatMap encGSeen))), (1, .pv (.slc now.length now_f (now.flatMap encGSeen))), (5, .ref 0 3 0 out0.length), (11, .pv (.slc old.length old_f (old.flatMap encGSeen))), (12, I old.length), (13, I k0)], [(0, .row 37 3 (out0.flatMap encGMessage))], 1, [], 67, 0⟩ : St)) (fun w_ : Nat × (List GMessage) => match w_ with | (k0, out0) => updV_L0 now (old.drop k0) k0 out0 = updV_L0 now old 0 ([]) ∧ k0 ≤ old.length ∧ out0.length ≤ k0) (fun w_ : Nat × (List GMessage) => match w_ with | (k0, out0) => old.length - k0) (0, []) (⟨rfl, Nat.zero_le _, by first | omega | simp | (simp; omega)⟩) ?_ (fun w_ hh_ => ?_)
  ·exact (Trans.ren [(0, 1), (1, 0)] (by decide +kernel) (by decide +kernel) rfl ⟨⟨rfl, rfl⟩, ⟨rfl, rfl⟩, ⟨congrArg (fun n => some (AV.ref 1 3 0 n)) (by first | rfl | simp only [List.length_set] | simp | omega | (simp; omega)), rfl⟩, ⟨rfl, rfl⟩, ⟨rfl, rfl⟩, ⟨rfl, rfl⟩, trivial⟩ ⟨⟨rfl, rfl, rfl⟩, trivial⟩ (by decide))
  obtain ⟨k0, out0⟩ := w_
  obtain ⟨hI0, hb0, hv0⟩ := hh_
  show Walks Tryd.prog _ _ (⟨[(0, .pv (.slc old.length old_f (old.flatMap encGSeen))), (1, .pv (.slc now.length now_f (now.flatMap encGSeen))), (5, .ref 0 3 0 out0.length), (11, .pv (.slc old.length old_f (old.flatMap encGSeen))), (12, I old.length), (13, I k0)], [(0, .row 37 3 (out0.flatMap encGMessage))], 1, [], 67, 0⟩ : St)
  refine sem_seq (sem_region rfl (step_bin rfl rfl rfl rfl rfl trivial (step_nil (seqK_n (sem_seq ?_)))))
  refine sem_cond rfl (fun h2 => ?_) (fun h2 => ?_)
  ·have g2 : (k0 : Int) < old.length := of_decide_eq_true h2
   have hk0 : k0 < old.length := by omega
   obtain ⟨x0, hx0⟩ : ∃ z_, old[k0]? = some z_ := ⟨_, List.getElem?_eq_getElem hk0⟩
   refine sem_skip (seqK_n (sem_seq (sem_block (sem_seq (sem_region rfl (step_idxS (k := k0) rfl rfl rfl rfl hk0 (flat_ne (s := 11) (enc := encGSeen) (fun _ => rfl) (by decide) hk0) rfl (step_load_row rfl rfl rfl (flat_lt (s := 11) (enc := encGSeen) (fun _ => rfl) hk0) (flat_take (s := 11) (enc := encGSeen) (fun _ => rfl) hx0) rfl (step_n (o := .box [_, _, _, _, _, _, _, _, _, _, _]) (nx' := 2) rfl rfl rfl trivial ?_))))))))
   refine step_storeB (H' := [(1, .box [_, _, _, _, _, _, _, _, _, _, _]), (0, _)]) rfl rfl rfl rfl rfl rfl (.inl rfl) rfl ?_
   refine step_nil (seqK_n (sem_seq (sem_region rfl (step_r rfl rfl trivial (step_r rfl rfl (by decide) (step_r rfl rfl trivial (step_call rfl rfl rfl rfl (findV_ok now now_f x0.Unit) rfl rfl rfl ?_)))))))
   have p3 := findV_lt now x0.Unit
   refine step_bin rfl rfl rfl rfl rfl trivial (step_nil (seqK_n ?_))
   refine sem_cond rfl (fun h4 => ?_) (fun h4 => ?_)
   ·have g4 : (findV now x0.Unit : Int) < 0 := of_decide_eq_true h4
    refine sem_region rfl (step_r rfl rfl trivial (step_r rfl rfl (by decide) (step_r rfl rfl trivial ?_)))
    refine step_nF (cs := [_]) (n := 1) (nx' := 3) rfl rfl rfl (by decide) rfl ?_
    refine step_r (v := (.agg [_, _, _])) rfl rfl trivial (step_n (o := .row _ _ [_, _, _]) (nx' := 4) rfl rfl rfl (by decide) ?_)
    refine step_appendC (m := 1) (new := [_, _, _]) (cs' := (out0 ++ [(⟨5, ([x0.Unit]), []⟩ : GMessage)]).flatMap encGMessage) (n' := (out0 ++ [(⟨5, ([x0.Unit]), []⟩ : GMessage)]).length) (H' := [(3, .row _ _ _), (1, .box [_, _, _, _, _, _, _, _, _, _, _]), (0, .row _ _ _)]) rfl rfl rfl (rfl) rfl rfl rfl rfl rfl rfl (flat_len (s := 3) (enc := encGMessage) (fun _ => rfl) out0) (rfl) (by first | decide | (unfold maxGrow; omega) | (unfold maxGrow; simp; omega) | (unfold maxGrow; simp only [List.length_append, List.length_take, List.length_drop, List.length_cons, List.length_nil, IntKind.wrap_i64] at *; omega)) (len_snoc out0 _) (((flat_snoc (enc := encGMessage) (l := out0) (⟨5, ([x0.Unit]), []⟩ : GMessage))).symm) (.inl rfl) rfl rfl (.keep rfl (.keep rfl (.keep rfl .nil))) (.keep rfl (.keep rfl (.keep rfl (.keep rfl (.keep rfl (.lose (v' := .undef) rfl (.keep rfl (.keep rfl (.keep rfl (.keep rfl (.keep rfl (.keep rfl (.keep rfl (.keep rfl (.keep rfl (.keep rfl (.keep rfl (.lose (v' := .undef) rfl (.keep rfl (.keep rfl (.keep rfl .nil))))))))))))))))))))) ?_
    refine step_r rfl rfl trivial (step_nil (blkK_n (seqK_n (sem_region rfl (step_bin rfl rfl rfl rfl rfl trivial (step_r rfl rfl trivial (step_nil ?_)))))))
    have e6 : updV_L0 now (old.drop k0) k0 out0 = updV_L0 now (old.drop (k0 + 1)) (k0 + 1) (out0 ++ [(⟨5, ([x0.Unit]), []⟩ : GMessage)]) := by
     rewrite [drop_cons hx0]
     rewrite [updV_L0]
     try dsimp only
     rewrite [if_pos g4]
     all_goals rfl
    exact lup_againT (k0 + 1, (out0 ++ [(⟨5, ([x0.Unit]), []⟩ : GMessage)])) ⟨e6.symm.trans hI0, hk0, by first | omega | assumption | (simp only [List.length_append, List.length_cons, List.length_nil, List.length_set]; omega) | (simp; omega) | grind⟩ (by show old.length - (k0 + 1) < old.length - k0; omega) (Trans.ren [] (by decide +kernel) (by decide +kernel) rfl ⟨⟨rfl, rfl⟩, ⟨rfl, rfl⟩, ⟨rfl, rfl⟩, ⟨rfl, rfl⟩, ⟨rfl, rfl⟩, ⟨congrArg (fun n => some (I n)) (wrapI (k := k0) (by first | omega | (simp; omega))), rfl⟩, trivial⟩ ⟨⟨rfl, rfl, rfl⟩, trivial⟩ (by decide))
   ·have g4 : ¬ ((findV now x0.Unit : Int) < 0) := of_decide_eq_false h4
    refine sem_skip (blkK_n (seqK_n (sem_region rfl (step_bin rfl rfl rfl rfl rfl trivial (step_r rfl rfl trivial (step_nil ?_))))))
    have e8 : updV_L0 now (old.drop k0) k0 out0 = updV_L0 now (old.drop (k0 + 1)) (k0 + 1) out0 := by
     rewrite [drop_cons hx0]
     rewrite [updV_L0]
     try dsimp only
     rewrite [if_neg g4]
     all_goals rfl
    exact lup_againT (k0 + 1, out0) ⟨e8.symm.trans hI0, hk0, by first | omega | assumption | (simp only [List.length_append, List.length_cons, List.length_nil, List.length_set]; omega) | (simp; omega) | grind⟩ (by show old.length - (k0 + 1) < old.length - k0; omega) (Trans.ren [] (by decide +kernel) (by decide +kernel) rfl ⟨⟨rfl, rfl⟩, ⟨rfl, rfl⟩, ⟨rfl, rfl⟩, ⟨rfl, rfl⟩, ⟨rfl, rfl⟩, ⟨congrArg (fun n => some (I n)) (wrapI (k := k0) (by first | omega | (simp; omega))), rfl⟩, trivial⟩ ⟨⟨rfl, rfl, rfl⟩, trivial⟩ (by decide))
  ·have g2 : ¬ ((k0 : Int) < old.length) := of_decide_eq_false h2
   have hk0 : k0 = old.length := by omega
   refine sem_exit (seqK_e (lupK_e (blkK_t rfl ?_)))
   have e9 : updV_L0 now old 0 ([]) = out0 := by
    rewrite [← hI0, hk0, List.drop_length]
    rewrite [updV_L0]
    try dsimp only
    all_goals rfl
   exact cutW_n out0 ⟨e9, by first | assumption | omega | (simp; omega) | simp_all | grind⟩ (Trans.ren [] (by decide +kernel) (by decide +kernel) rfl ⟨⟨rfl, rfl⟩, ⟨rfl, rfl⟩, ⟨rfl, rfl⟩, trivial⟩ ⟨⟨rfl, rfl, rfl⟩, trivial⟩ (by decide))
 ·rintro out_0 ⟨(hJ1 : updV_L0 now old 0 ([]) = out_0), hE0⟩
  show seqK _ _ _ .normal (⟨[(0, .pv (.slc old.length old_f (old.flatMap encGSeen))), (1, .pv (.slc now.length now_f (now.flatMap encGSeen))), (5, .ref 0 3 0 out_0.length)], [(0, .row 37 3 (out_0.flatMap encGMessage))], 1, [], 67, 0⟩ : St)
  refine seqK_n (sem_seq (sem_seq (sem_region rfl (step_r rfl rfl trivial (step_r rfl rfl trivial (step_r rfl rfl trivial (step_nil (seqK_n ?_))))))))
  refine sem_cutW (fun out_1 : List GMessage => (⟨[(5, .ref 0 3 0 out_1.length)], [(0, .row 37 3 (out_1.flatMap encGMessage))], 1, [], 67, 0⟩ : St)) (fun w_ => updV_L1 old now 0 out_0 = w_) ?_ ?_
  ·refine sem_block ?_
   refine sem_loopT (fun w_ : Nat × (List GMessage) => match w_ with | (k1, out1) => (⟨[(0, .pv (.slc old.length old_f (old.flatMap encGSeen))), (5, .ref 0 3 0 out1.length), (30, .pv (.slc now.length now_f (now.flatMap encGSeen))), (31, I now.length), (32, I k1)], [(0, .row 37 3 (out1.flatMap encGMessage))], 1, [], 67, 0⟩ : St)) (fun w_ : Nat × (List GMessage) => match w_ with | (k1, out1) => updV_L1 old (now.drop k1) k1 out1 = updV_L1 old now 0 out_0 ∧ k1 ≤ now.length ∧ out1.length ≤ old.length + 9 * k1) (fun w_ : Nat × (List GMessage) => match w_ with | (k1, out1) => now.length - k1) (0, out_0) (⟨rfl, Nat.zero_le _, by first | omega | simp | (simp; omega)⟩) ?_ (fun w_ hh_ => ?_)
   ·exact (Trans.ren [] (by decide +kernel) (by decide +kernel) rfl ⟨⟨rfl, rfl⟩, ⟨rfl, rfl⟩, ⟨rfl, rfl⟩, ⟨rfl, rfl⟩, ⟨rfl, rfl⟩, trivial⟩ ⟨⟨rfl, rfl, rfl⟩, trivial⟩ (by decide))
   obtain ⟨k1, out1⟩ := w_
   obtain ⟨hI1, hb1, hv1⟩ := hh_
   show Walks Tryd.prog _ _ (⟨[(0, .pv (.slc old.length old_f (old.flatMap encGSeen))), (5, .ref 0 3 0 out1.length), (30, .pv (.slc now.length now_f (now.flatMap encGSeen))), (31, I now.length), (32, I k1)], [(0, .row 37 3 (out1.flatMap encGMessage))], 1, [], 67, 0⟩ : St)
   refine sem_seq (sem_region rfl (step_bin rfl rfl rfl rfl rfl trivial (step_nil (seqK_n (sem_seq ?_)))))
   refine sem_cond rfl (fun h11 => ?_) (fun h11 => ?_)
   ·have g11 : (k1 : Int) < now.length := of_decide_eq_true h11
    have hk1 : k1 < now.length := by omega
    obtain ⟨x1, hx1⟩ : ∃ z_, now[k1]? = some z_ := ⟨_, List.getElem?_eq_getElem hk1⟩
    refine sem_skip (seqK_n (sem_seq (sem_block (sem_seq (sem_region rfl (step_idxS (k := k1) rfl rfl rfl rfl hk1 (flat_ne (s := 11) (enc := encGSeen) (fun _ => rfl) (by decide) hk1) rfl (step_load_row rfl rfl rfl (flat_lt (s := 11) (enc := encGSeen) (fun _ => rfl) hk1) (flat_take (s := 11) (enc := encGSeen) (fun _ => rfl) hx1) rfl (step_n (o := .box [_, _, _, _, _, _, _, _, _, _, _]) (nx' := 2) rfl rfl rfl trivial ?_))))))))
    refine step_storeB (H' := [(1, .box [_, _, _, _, _, _, _, _, _, _, _]), (0, _)]) rfl rfl rfl rfl rfl rfl (.inl rfl) rfl ?_
    refine step_nil (seqK_n (sem_seq (sem_region rfl (step_r rfl rfl trivial (step_r rfl rfl (by decide) (step_r rfl rfl trivial (step_call rfl rfl rfl rfl (findV_ok old old_f x1.Unit) rfl rfl rfl ?_)))))))
    have p12 := findV_lt old x1.Unit
    refine step_r rfl rfl trivial (step_nil (seqK_n (sem_seq (sem_seq ?_))))
    refine sem_drawn rfl (by decide +kernel) rfl ?_
    refine step_r rfl rfl trivial (step_bin rfl rfl rfl rfl rfl trivial (step_r rfl rfl trivial ?_))
    refine step_gs rfl (fun h15 => ?_) (fun h15 => ?_)
    ·have g15 : (findV old x1.Unit : Int) < 0 := of_decide_eq_true h15
     refine step_g0 rfl h15 rfl (step_g0 rfl h15 rfl (step_g0 rfl h15 rfl (step_g0 rfl h15 rfl (step_g0 rfl h15 rfl (step_g0 rfl h15 rfl (step_g0 rfl h15 rfl (step_g0 rfl h15 rfl (step_pickT rfl h15 rfl rfl (step_nil (seqK_n (sem_condT rfl ?_)))))))))))
     refine sem_seq (sem_region rfl (step_r rfl rfl trivial (step_r (v := (.agg [_, _, _, _, _, _, _, _, _, _, _])) rfl rfl (Nat.le_of_ble_eq_true rfl) (step_call rfl rfl rfl rfl (enterV_ok x1) rfl rfl rfl (step_n (o := .row _ _ [_, _, _]) (nx' := 3) rfl rfl rfl (by decide) ?_)))))
     refine step_appendC (m := 1) (new := [_, _, _]) (cs' := (out1 ++ [(enterV x1)]).flatMap encGMessage) (n' := (out1 ++ [(enterV x1)]).length) (H' := [(2, .row _ _ _), (1, .box [_, _, _, _, _, _, _, _, _, _, _]), (0, .row _ _ _)]) rfl rfl rfl (rfl) rfl rfl rfl rfl rfl rfl (flat_len (s := 3) (enc := encGMessage) (fun _ => rfl) out1) (rfl) (by first | decide | (unfold maxGrow; omega) | (unfold maxGrow; simp; omega) | (unfold maxGrow; simp only [List.length_append, List.length_take, List.length_drop, List.length_cons, List.length_nil, IntKind.wrap_i64] at *; omega)) (len_snoc out1 _) (((flat_snoc (enc := encGMessage) (l := out1) (enterV x1))).symm) (.inl rfl) rfl rfl (.keep rfl (.keep rfl (.keep rfl .nil))) (.keep rfl (.keep rfl (.keep rfl (.lose (v' := .undef) rfl (.keep rfl (.keep rfl (.keep rfl (.keep rfl (.keep rfl (.keep rfl (.keep rfl (.keep rfl (.keep rfl (.keep rfl (.keep rfl (.keep rfl (.keep rfl (.keep rfl (.keep rfl (.keep rfl (.keep rfl (.keep rfl (.keep rfl (.keep rfl (.keep rfl (.keep rfl (.lose (v' := .undef) rfl (.keep rfl (.keep rfl (.keep rfl .nil)))))))))))))))))))))))))))))) ?_
     refine step_r rfl rfl trivial (step_nil (seqK_n (sem_exit (seqK_e (blkK_t rfl (seqK_n (sem_region rfl (step_bin rfl rfl rfl rfl rfl trivial (step_r rfl rfl trivial (step_nil ?_))))))))))
     have e17 : updV_L1 old (now.drop k1) k1 out1 = updV_L1 old (now.drop (k1 + 1)) (k1 + 1) (out1 ++ [(enterV x1)]) := by
      rewrite [drop_cons hx1]
      rewrite [updV_L1]
      try dsimp only
      rewrite [if_pos g15]
      all_goals rfl
     exact lup_againT (k1 + 1, (out1 ++ [(enterV x1)])) ⟨e17.symm.trans hI1, hk1, by first | omega | assumption | (simp only [List.length_append, List.length_cons, List.length_nil, List.length_set]; omega) | (simp; omega) | grind⟩ (by show now.length - (k1 + 1) < now.length - k1; omega) (Trans.ren [] (by decide +kernel) (by decide +kernel) rfl ⟨⟨rfl, rfl⟩, ⟨rfl, rfl⟩, ⟨rfl, rfl⟩, ⟨rfl, rfl⟩, ⟨congrArg (fun n => some (I n)) (wrapI (k := k1) (by first | omega | (simp; omega))), rfl⟩, trivial⟩ ⟨⟨rfl, rfl, rfl⟩, trivial⟩ (by decide))
    ·have g15 : ¬ ((findV old x1.Unit : Int) < 0) := of_decide_eq_false h15
     refine step_g1 rfl h15 (step_r rfl rfl trivial (step_g1 rfl h15 (step_r rfl rfl trivial (step_g1 rfl h15 ?_))))
     have jk18 : (findV old x1.Unit).toNat < old.length := by first | assumption | omega | (simp only [List.length_set, List.length_append]; omega) | (simp only [IntKind.wrap_i64] at *; omega) | (simp; omega) | simp_all
     refine step_idxS' (k := (findV old x1.Unit).toNat) rfl rfl (Int.toNat_of_nonneg (by first | omega | (simp only [IntKind.wrap_i64]; omega) | (simp only [IntKind.wrap_i64] at *; omega) | (simp; omega))).symm rfl rfl jk18 (flat_ne (s := 11) (enc := encGSeen) (fun _ => rfl) (by decide) jk18) rfl ?_
     refine step_g1 rfl h15 (step_r rfl rfl (by decide) (step_g1 rfl h15 (step_load_one rfl rfl rfl (flat_get (s := 11) (enc := encGSeen) (fun _ => rfl) (get_getD jk18) (o := 1) rfl (by decide)) rfl (step_g1 rfl h15 (step_r rfl rfl (by decide) (step_g1 rfl h15 (step_r rfl rfl trivial (step_g1 rfl h15 (step_bin rfl rfl rfl rfl rfl trivial (step_pickF rfl h15 rfl rfl (step_nil ?_)))))))))))
     refine seqK_n ?_
     refine sem_cond rfl (fun h20 => ?_) (fun h20 => ?_)
     ·have g20 : ¬ (((old.getD ((findV old x1.Unit).toNat) default).Name) = x1.Name) := beq_f (not_t h20)
      refine sem_seq (sem_region rfl (step_r rfl rfl trivial (step_r (v := (.agg [_, _, _, _, _, _, _, _, _, _, _])) rfl rfl (Nat.le_of_ble_eq_true rfl) (step_call rfl rfl rfl rfl (enterV_ok x1) rfl rfl rfl (step_n (o := .row _ _ [_, _, _]) (nx' := 3) rfl rfl rfl (by decide) ?_)))))
      refine step_appendC (m := 1) (new := [_, _, _]) (cs' := (out1 ++ [(enterV x1)]).flatMap encGMessage) (n' := (out1 ++ [(enterV x1)]).length) (H' := [(2, .row _ _ _), (1, .box [_, _, _, _, _, _, _, _, _, _, _]), (0, .row _ _ _)]) rfl rfl rfl (rfl) rfl rfl rfl rfl rfl rfl (flat_len (s := 3) (enc := encGMessage) (fun _ => rfl) out1) (rfl) (by first | decide | (unfold maxGrow; omega) | (unfold maxGrow; simp; omega) | (unfold maxGrow; simp only [List.length_append, List.length_take, List.length_drop, List.length_cons, List.length_nil, IntKind.wrap_i64] at *; omega)) (len_snoc out1 _) (((flat_snoc (enc := encGMessage) (l := out1) (enterV x1))).symm) (.inl rfl) rfl rfl (.keep rfl (.keep rfl (.keep rfl .nil))) (.keep rfl (.keep rfl (.keep rfl (.lose (v' := .undef) rfl (.keep rfl (.keep rfl (.keep rfl (.keep rfl (.keep rfl (.keep rfl (.keep rfl (.keep rfl (.keep rfl (.keep rfl (.keep rfl (.keep rfl (.keep rfl (.keep rfl (.keep rfl (.keep rfl (.keep rfl (.keep rfl (.keep rfl (.keep rfl (.keep rfl (.keep rfl (.lose (v' := .undef) rfl (.keep rfl (.keep rfl (.keep rfl .nil)))))))))))))))))))))))))))))) ?_
      refine step_r rfl rfl trivial (step_nil (seqK_n (sem_exit (seqK_e (blkK_t rfl (seqK_n (sem_region rfl (step_bin rfl rfl rfl rfl rfl trivial (step_r rfl rfl trivial (step_nil ?_))))))))))
      have e22 : updV_L1 old (now.drop k1) k1 out1 = updV_L1 old (now.drop (k1 + 1)) (k1 + 1) (out1 ++ [(enterV x1)]) := by
       rewrite [drop_cons hx1]
       rewrite [updV_L1]
       try dsimp only
       rewrite [if_neg g15, if_neg g20]
       all_goals rfl
      exact lup_againT (k1 + 1, (out1 ++ [(enterV x1)])) ⟨e22.symm.trans hI1, hk1, by first | omega | assumption | (simp only [List.length_append, List.length_cons, List.length_nil, List.length_set]; omega) | (simp; omega) | grind⟩ (by show now.length - (k1 + 1) < now.length - k1; omega) (Trans.ren [] (by decide +kernel) (by decide +kernel) rfl ⟨⟨rfl, rfl⟩, ⟨rfl, rfl⟩, ⟨rfl, rfl⟩, ⟨rfl, rfl⟩, ⟨congrArg (fun n => some (I n)) (wrapI (k := k1) (by first | omega | (simp; omega))), rfl⟩, trivial⟩ ⟨⟨rfl, rfl, rfl⟩, trivial⟩ (by decide))
     ·have g20 : ((old.getD ((findV old x1.Unit).toNat) default).Name) = x1.Name := beq_t (not_f h20)
      refine sem_skip (seqK_n ?_)
      refine sem_drawn rfl (by decide +kernel) rfl ?_
      refine step_r rfl rfl trivial (step_r rfl rfl trivial (step_r rfl rfl trivial ?_))
      refine step_idxS' (k := (findV old x1.Unit).toNat) rfl rfl (Int.toNat_of_nonneg (by first | omega | (simp only [IntKind.wrap_i64]; omega) | (simp only [IntKind.wrap_i64] at *; omega) | (simp; omega))).symm rfl rfl jk18 (flat_ne (s := 11) (enc := encGSeen) (fun _ => rfl) (by decide) jk18) rfl ?_
      refine step_load_row rfl rfl rfl (flat_lt (s := 11) (enc := encGSeen) (fun _ => rfl) jk18) (flat_take (s := 11) (enc := encGSeen) (fun _ => rfl) (get_getD jk18)) rfl (step_r (v := (.agg [_, _, _, _, _, _, _, _, _, _, _])) rfl rfl (Nat.le_of_ble_eq_true rfl) (step_call rfl rfl rfl rfl (diffV_ok (old.getD ((findV old x1.Unit).toNat) default) x1) rfl rfl rfl ?_))
      have p23 := diffV_len (old.getD ((findV old x1.Unit).toNat) default) x1
      refine step_appendC (m := (diffV (old.getD ((findV old x1.Unit).toNat) default) x1).length) (new := (diffV (old.getD ((findV old x1.Unit).toNat) default) x1).flatMap encGMessage) (cs' := (out1 ++ (diffV (old.getD ((findV old x1.Unit).toNat) default) x1)).flatMap encGMessage) (n' := (out1 ++ (diffV (old.getD ((findV old x1.Unit).toNat) default) x1)).length) (H' := [(1, .box [_, _, _, _, _, _, _, _, _, _, _]), (0, .row _ _ _)]) rfl rfl rfl (rfl) rfl rfl rfl rfl rfl rfl (flat_len (s := 3) (enc := encGMessage) (fun _ => rfl) out1) (flat_len (s := 3) (enc := encGMessage) (fun _ => rfl) (diffV (old.getD ((findV old x1.Unit).toNat) default) x1)) (by first | decide | (unfold maxGrow; omega) | (unfold maxGrow; simp; omega) | (unfold maxGrow; simp only [List.length_append, List.length_take, List.length_drop, List.length_cons, List.length_nil, IntKind.wrap_i64] at *; omega)) (len_append out1 (diffV (old.getD ((findV old x1.Unit).toNat) default) x1)) (flat_append encGMessage _ _) (.inr (by decide +kernel)) rfl rfl (.keep rfl (.keep rfl .nil)) (.keep rfl (.keep rfl (.keep rfl (.keep rfl (.keep rfl (.keep rfl (.lose (v' := .undef) rfl (.keep rfl (.keep rfl (.keep rfl (.keep rfl (.keep rfl (.keep rfl (.keep rfl (.keep rfl (.keep rfl (.keep rfl (.keep rfl (.keep rfl (.keep rfl (.keep rfl (.keep rfl (.keep rfl (.keep rfl (.keep rfl (.keep rfl (.keep rfl (.keep rfl (.keep rfl (.lose (v' := .undef) rfl (.keep rfl (.keep rfl (.keep rfl .nil))))))))))))))))))))))))))))))))) ?_
      refine step_r rfl rfl trivial (step_nil (blkK_n (seqK_n (sem_region rfl (step_bin rfl rfl rfl rfl rfl trivial (step_r rfl rfl trivial (step_nil ?_)))))))
      have e25 : updV_L1 old (now.drop k1) k1 out1 = updV_L1 old (now.drop (k1 + 1)) (k1 + 1) (out1 ++ (diffV (old.getD ((findV old x1.Unit).toNat) default) x1)) := by
       rewrite [drop_cons hx1]
       rewrite [updV_L1]
       try dsimp only
       rewrite [if_neg g15, if_pos g20]
       all_goals rfl
      exact lup_againT (k1 + 1, (out1 ++ (diffV (old.getD ((findV old x1.Unit).toNat) default) x1))) ⟨e25.symm.trans hI1, hk1, by first | omega | assumption | (simp only [List.length_append, List.length_cons, List.length_nil, List.length_set]; omega) | (simp; omega) | grind⟩ (by show now.length - (k1 + 1) < now.length - k1; omega) (Trans.ren [] (by decide +kernel) (by decide +kernel) rfl ⟨⟨rfl, rfl⟩, ⟨rfl, rfl⟩, ⟨rfl, rfl⟩, ⟨rfl, rfl⟩, ⟨congrArg (fun n => some (I n)) (wrapI (k := k1) (by first | omega | (simp; omega))), rfl⟩, trivial⟩ ⟨⟨rfl, rfl, rfl⟩, trivial⟩ (by decide))
   ·have g11 : ¬ ((k1 : Int) < now.length) := of_decide_eq_false h11
    have hk1 : k1 = now.length := by omega
    refine sem_exit (seqK_e (lupK_e (blkK_t rfl ?_)))
    have e26 : updV_L1 old now 0 out_0 = out1 := by
     rewrite [← hI1, hk1, List.drop_length]
     rewrite [updV_L1]
     try dsimp only
     all_goals rfl
    exact cutW_n out1 e26 (Trans.ren [] (by decide +kernel) (by decide +kernel) rfl ⟨⟨rfl, rfl⟩, trivial⟩ ⟨⟨rfl, rfl, rfl⟩, trivial⟩ (by decide))
  ·rintro out_1 (hJ10 : updV_L1 old now 0 out_0 = out_1)
   show seqK _ _ _ .normal (⟨[(5, .ref 0 3 0 out_1.length)], [(0, .row 37 3 (out_1.flatMap encGMessage))], 1, [], 67, 0⟩ : St)
   refine seqK_n (sem_seq (sem_region rfl (step_r rfl rfl trivial (step_r rfl rfl trivial (step_nil (seqK_n ?_))))))
   refine sem_trans (Trans.freezeJ (T' := [(4, .pv (.slc out_1.length false (out_1.flatMap encGMessage)))]) (H' := []) [0] (by decide) ⟨⟨_, _, rfl, rfl, (by (repeat' apply And.intro) <;> first | trivial | rfl | exact flat_len (s := 3) (enc := encGMessage) (fun _ => rfl) _ | exact flat_len (fun _ => rfl) _ | exact encI_len _ | exact Nat.le_of_ble_eq_true rfl | assumption)⟩, trivial⟩ trivial) ?_
   refine sem_ret ?_
   have e27 : updV old now = out_1 := by
    unfold updV
    try dsimp only
    rewrite [hJ1]
    try dsimp only
    rewrite [hJ10]
    try dsimp only
    all_goals rfl
   rw [e27]
   exact answersR rfl ⟨trivial, trivial⟩ (rfl) rfl

def placeV_L0 (unit : Int) : List GSeen → Nat → Sum (Int × Bool) Unit
  | [], k0 => .inr ()
  | x0 :: l_, k0 => if (x0.Unit : Int) ≥ unit then .inl ((k0 : Int), ((x0.Unit : Int) == unit)) else placeV_L0 unit l_ (k0 + 1)
def placeV (l : List GSeen) (unit : Int) : Int × Bool :=
  (match placeV_L0 unit l 0 with
    | .inl r_ => r_
    | .inr () => ((l.length : Int), false))
theorem placeV_ok (l : List GSeen) (l_f : Bool) (unit : Int) : Ok Tryd.prog 39 [.pv (.slc l.length l_f (l.flatMap encGSeen)), I unit] [] (.tup [I (placeV l unit).1, B (placeV l unit).2]) [] [] := by
 refine Ok.len fun hlen => ?_
 have hl_l : l.length ≤ maxLen := hlen _ (by simp [lensL, lens, lensP])
 unfold maxLen at hl_l
 refine ok_of_sem Tryd.func39 rfl ?_
 show Walks Tryd.prog _ _ ⟨[(0, .pv (.slc l.length l_f (l.flatMap encGSeen))), (1, I unit)], [], 0, [], 27, 0⟩
 refine sem_seq (sem_region rfl (step_r rfl rfl trivial (step_r rfl rfl trivial (step_nil (seqK_n (sem_seq (sem_seq (sem_region rfl (step_r rfl rfl trivial (step_r rfl rfl trivial (step_r rfl rfl trivial ?_)))))))))))
 refine step_nil (seqK_n ?_)
 refine sem_cutW (fun w_ : Unit => match w_ with | () => (⟨[(0, .pv (.slc l.length l_f (l.flatMap encGSeen)))], [], 0, [], 27, 0⟩ : St)) (fun w_ => placeV_L0 unit l 0 = .inr w_) ?_ ?_
 ·refine sem_block ?_
  refine sem_loopT (fun k0 : Nat => (⟨[(0, .pv (.slc l.length l_f (l.flatMap encGSeen))), (1, I unit), (8, .pv (.slc l.length l_f (l.flatMap encGSeen))), (9, I l.length), (10, I k0)], [], 0, [], 27, 0⟩ : St)) (fun k0 : Nat => placeV_L0 unit (l.drop k0) k0 = placeV_L0 unit l 0 ∧ k0 ≤ l.length) (fun k0 : Nat => l.length - k0) 0 (⟨rfl, Nat.zero_le _⟩) ?_ (fun k0 hh_ => ?_)
  ·exact (Trans.ren [] (by decide +kernel) (by decide +kernel) rfl ⟨⟨rfl, rfl⟩, ⟨rfl, rfl⟩, ⟨rfl, rfl⟩, ⟨rfl, rfl⟩, ⟨rfl, rfl⟩, trivial⟩ trivial (by decide))
  obtain ⟨hI0, hb0⟩ := hh_
  show Walks Tryd.prog _ _ (⟨[(0, .pv (.slc l.length l_f (l.flatMap encGSeen))), (1, I unit), (8, .pv (.slc l.length l_f (l.flatMap encGSeen))), (9, I l.length), (10, I k0)], [], 0, [], 27, 0⟩ : St)
  refine sem_seq (sem_region rfl (step_bin rfl rfl rfl rfl rfl trivial (step_nil (seqK_n (sem_seq ?_)))))
  refine sem_cond rfl (fun h2 => ?_) (fun h2 => ?_)
  ·have g2 : (k0 : Int) < l.length := of_decide_eq_true h2
   have hk0 : k0 < l.length := by omega
   obtain ⟨x0, hx0⟩ : ∃ z_, l[k0]? = some z_ := ⟨_, List.getElem?_eq_getElem hk0⟩
   refine sem_skip (seqK_n (sem_seq (sem_block (sem_seq (sem_region rfl (step_r rfl rfl trivial (step_idxS (k := k0) rfl rfl rfl rfl hk0 (flat_ne (s := 11) (enc := encGSeen) (fun _ => rfl) (by decide) hk0) rfl (step_load_row rfl rfl rfl (flat_lt (s := 11) (enc := encGSeen) (fun _ => rfl) hk0) (flat_take (s := 11) (enc := encGSeen) (fun _ => rfl) hx0) rfl (step_n (o := .box [_, _, _, _, _, _, _, _, _, _, _]) (nx' := 1) rfl rfl rfl trivial (step_r rfl rfl trivial ?_))))))))))
   refine step_storeB (H' := [(0, .box [_, _, _, _, _, _, _, _, _, _, _])]) rfl rfl rfl rfl rfl rfl (.inl rfl) rfl ?_
   refine step_nil (seqK_n (sem_seq (sem_region rfl (step_r rfl rfl (by decide) (step_r rfl rfl trivial (step_r rfl rfl trivial (step_bin rfl rfl rfl rfl rfl trivial (step_nil (seqK_n ?_)))))))))
   refine sem_cond rfl (fun h5 => ?_) (fun h5 => ?_)
   ·have g5 : (x0.Unit : Int) ≥ unit := of_decide_eq_true h5
    refine sem_seq ?_
    refine sem_drawn rfl (by decide +kernel) rfl ?_
    refine step_r rfl rfl trivial (step_r rfl rfl (by decide) (step_r rfl rfl trivial (step_r rfl rfl trivial (step_bin rfl rfl rfl rfl rfl trivial (step_r rfl rfl trivial (step_r rfl rfl trivial (step_nil (seqK_n (sem_ret (blkK_r (seqK_r ?_)))))))))))
    refine lupK_r (blkK_r (cutW_r (seqK_r ?_)))
    have e7 : placeV_L0 unit l 0 = .inl ((k0 : Int), ((x0.Unit : Int) == unit)) := by
     rewrite [← hI0, drop_cons hx0]
     rewrite [placeV_L0]
     try dsimp only
     rewrite [if_pos g5]
     all_goals rfl
    have e8 : placeV l unit = ((k0 : Int), ((x0.Unit : Int) == unit)) := by
     unfold placeV
     try dsimp only
     rewrite [e7]
     try dsimp only
     all_goals rfl
    rw [e8]
    exact answersR rfl ⟨trivial, trivial, trivial⟩ (rfl) rfl
   ·have g5 : ¬ ((x0.Unit : Int) ≥ unit) := of_decide_eq_false h5
    refine sem_skip (blkK_n (seqK_n (sem_region rfl (step_bin rfl rfl rfl rfl rfl trivial (step_r rfl rfl trivial (step_nil ?_))))))
    have e10 : placeV_L0 unit (l.drop k0) k0 = placeV_L0 unit (l.drop (k0 + 1)) (k0 + 1) := by
     rewrite [drop_cons hx0]
     rewrite [placeV_L0]
     try dsimp only
     rewrite [if_neg g5]
     all_goals rfl
    exact lup_againT (k0 + 1) ⟨e10.symm.trans hI0, hk0⟩ (by show l.length - (k0 + 1) < l.length - k0; omega) (Trans.ren [] (by decide +kernel) (by decide +kernel) rfl ⟨⟨rfl, rfl⟩, ⟨rfl, rfl⟩, ⟨rfl, rfl⟩, ⟨rfl, rfl⟩, ⟨congrArg (fun n => some (I n)) (wrapI (k := k0) (by first | omega | (simp; omega))), rfl⟩, trivial⟩ trivial (by decide))
  ·have g2 : ¬ ((k0 : Int) < l.length) := of_decide_eq_false h2
   have hk0 : k0 = l.length := by omega
   refine sem_exit (seqK_e (lupK_e (blkK_t rfl ?_)))
   have e11 : placeV_L0 unit l 0 = .inr () := by
    rewrite [← hI0, hk0, List.drop_length]
    rewrite [placeV_L0]
    try dsimp only
    all_goals rfl
   exact cutW_n () e11 (Trans.ren [] (by decide +kernel) (by decide +kernel) rfl ⟨⟨rfl, rfl⟩, trivial⟩ trivial (by decide))
 ·rintro ⟨⟩ (hJ1 : placeV_L0 unit l 0 = .inr ())
  show seqK _ _ _ .normal (⟨[(0, .pv (.slc l.length l_f (l.flatMap encGSeen)))], [], 0, [], 27, 0⟩ : St)
  refine seqK_n (sem_seq (sem_region rfl (step_r rfl rfl trivial (step_r rfl rfl trivial (step_r rfl rfl trivial (step_r rfl rfl trivial (step_nil (seqK_n (sem_ret ?_)))))))))
  have e13 : placeV l unit = ((l.length : Int), false) := by
   unfold placeV
   try dsimp only
   rewrite [hJ1]
   try dsimp only
   all_goals rfl
  rw [e13]
  exact answersR rfl ⟨trivial, trivial, trivial⟩ (rfl) rfl

def changedV (l : List GSeen) (unit : Int) (f : Int) (n : Int) : List GSeen :=
  if (findV l unit : Int) ≥ 0 then (if (f : Int) ≥ 0 then (if (f : Int) < 9 then (l.set ((findV l unit).toNat) { (l.getD ((findV l unit).toNat) default) with Fields := (l.getD ((findV l unit).toNat) default).Fields.set f.toNat n }) else l) else l) else l
theorem changedV_ok (l : List GSeen) (unit : Int) (f : Int) (n : Int) : Ok Tryd.prog 28 [.ref 0 11 0 l.length, I unit, I f, I n] [.row 60 11 (l.flatMap encGSeen)] (.tup []) [.row 60 11 ((changedV l unit f n).flatMap encGSeen)] [] := by
 refine ok_of_sem Tryd.func28 rfl ?_
 show Walks Tryd.prog _ _ ⟨[(0, .ref 0 11 0 l.length), (1, I unit), (2, I f), (3, I n)], [(0, .row 60 11 (l.flatMap encGSeen))], 1, [], 29, 1⟩
 refine sem_seq (sem_region rfl (step_r rfl rfl trivial (step_r rfl rfl trivial ?_)))
 refine step_callJ (Hin := [.row _ _ _]) (H' := [(0, _)]) (nx' := 1) [0] rfl rfl rfl rfl rfl rfl rfl rfl rfl (by (repeat' apply And.intro) <;> first | trivial | rfl | exact flat_len (s := 11) (enc := encGSeen) (fun _ => rfl) _ | exact flat_len (fun _ => rfl) _ | exact encI_len _ | exact Nat.le_of_ble_eq_true rfl | assumption) (findV_ok l false unit) rfl (by decide) rfl rfl trivial rfl rfl rfl rfl ?_
 have p2 := findV_lt l unit
 refine step_r rfl rfl trivial (step_nil (seqK_n (sem_seq (sem_region rfl (step_r rfl rfl trivial (step_bin rfl rfl rfl rfl rfl trivial (step_r rfl rfl trivial ?_)))))))
 refine step_gs rfl (fun h5 => ?_) (fun h5 => ?_)
 ·have g5 : (findV l unit : Int) ≥ 0 := of_decide_eq_true h5
  refine step_g1 rfl h5 (step_r rfl rfl trivial (step_g1 rfl h5 (step_bin rfl rfl rfl rfl rfl trivial (step_pickT rfl h5 rfl rfl (step_r rfl rfl trivial ?_)))))
  refine step_gs rfl (fun h8 => ?_) (fun h8 => ?_)
  ·have g8 : (f : Int) ≥ 0 := of_decide_eq_true h8
   refine step_g1 rfl h8 (step_r rfl rfl trivial (step_g1 rfl h8 (step_bin rfl rfl rfl rfl rfl trivial (step_pickT rfl h8 rfl rfl (step_nil (seqK_n ?_))))))
   refine sem_cond rfl (fun h10 => ?_) (fun h10 => ?_)
   ·have g10 : (f : Int) < 9 := of_decide_eq_true h10
    refine sem_region rfl (step_r rfl rfl trivial (step_r rfl rfl trivial (step_r rfl rfl trivial (step_r rfl rfl trivial ?_))))
    have jk12 : (findV l unit).toNat < l.length := by first | assumption | omega | (simp only [List.length_set, List.length_append]; omega) | (simp only [IntKind.wrap_i64] at *; omega) | (simp; omega) | simp_all
    refine step_idxR' (k := (findV l unit).toNat) rfl rfl (Int.toNat_of_nonneg (by first | omega | (simp only [IntKind.wrap_i64]; omega) | (simp only [IntKind.wrap_i64] at *; omega) | (simp; omega))).symm rfl rfl jk12 rfl ?_
    refine step_r rfl rfl (by decide) ?_
    have jk13 : f.toNat < 9 := by first | assumption | omega | (simp only [IntKind.wrap_i64]; omega) | (simp only [IntKind.wrap_i64] at *; omega) | (simp; omega) | simp_all
    refine step_idxA (k := f.toNat) rfl rfl (Int.toNat_of_nonneg (by first | omega | (simp only [IntKind.wrap_i64]; omega) | (simp only [IntKind.wrap_i64] at *; omega) | (simp; omega))).symm rfl rfl jk13 rfl ?_
    refine step_storeR rfl rfl rfl rfl (by have := flat_lt (s := 11) (enc := encGSeen) (fun _ => rfl) jk12; show ((findV l unit).toNat) * 11 + 2 + f.toNat * 1 < _; omega) (flat_set2 (enc := encGSeen) (s := 11) (o := 2) (p := f.toNat * 1) (y := { (l.getD ((findV l unit).toNat) default) with Fields := (l.getD ((findV l unit).toNat) default).Fields.set f.toNat n }) (fun _ => rfl) (get_getD jk12) (by omega) (A9int.set_atP (l.getD ((findV l unit).toNat) default).Fields jk13 n [_, _] []).symm) (.inl rfl) rfl ?_
    refine step_nil ?_
    have e14 : changedV l unit f n = (l.set ((findV l unit).toNat) { (l.getD ((findV l unit).toNat) default) with Fields := (l.getD ((findV l unit).toNat) default).Fields.set f.toNat n }) := by
     unfold changedV
     try dsimp only
     rewrite [if_pos g5, if_pos g8, if_pos g10]
     all_goals rfl
    rw [e14]
    try simp only [List.length_set]
    exact answersGN [] [] rfl trivial rfl (by (repeat' apply And.intro) <;> first | trivial | rfl | exact flat_len (fun _ => rfl) _ | exact encI_len _ | assumption) (rfl) rfl rfl rfl (by decide) rfl rfl ⟨⟨rfl, rfl⟩, trivial⟩
   ·have g10 : ¬ ((f : Int) < 9) := of_decide_eq_false h10
    refine sem_skip ?_
    have e15 : changedV l unit f n = l := by
     unfold changedV
     try dsimp only
     rewrite [if_pos g5, if_pos g8, if_neg g10]
     all_goals rfl
    rw [e15]
    exact answersGN [] [] rfl trivial rfl (by (repeat' apply And.intro) <;> first | trivial | rfl | exact flat_len (fun _ => rfl) _ | exact encI_len _ | assumption) (rfl) rfl rfl rfl (by decide) rfl rfl ⟨⟨rfl, rfl⟩, trivial⟩
  ·have g8 : ¬ ((f : Int) ≥ 0) := of_decide_eq_false h8
   refine step_g0 rfl h8 rfl (step_g0 rfl h8 rfl (step_pickF rfl h8 rfl rfl (step_nil (seqK_n (sem_condF rfl (sem_skip ?_))))))
   have e16 : changedV l unit f n = l := by
    unfold changedV
    try dsimp only
    rewrite [if_pos g5, if_neg g8]
    all_goals rfl
   rw [e16]
   exact answersGN [] [] rfl trivial rfl (by (repeat' apply And.intro) <;> first | trivial | rfl | exact flat_len (fun _ => rfl) _ | exact encI_len _ | assumption) (rfl) rfl rfl rfl (by decide) rfl rfl ⟨⟨rfl, rfl⟩, trivial⟩
 ·have g5 : ¬ ((findV l unit : Int) ≥ 0) := of_decide_eq_false h5
  refine step_g0 rfl h5 rfl (step_g0 rfl h5 rfl (step_pickF rfl h5 rfl rfl (step_r rfl rfl trivial (step_gf rfl rfl (step_gf rfl rfl (step_r rfl rfl trivial (step_nil (seqK_n (sem_condF rfl (sem_skip ?_))))))))))
  have e17 : changedV l unit f n = l := by
   unfold changedV
   try dsimp only
   rewrite [if_neg g5]
   all_goals rfl
  rw [e17]
  exact answersGN [] [] rfl trivial rfl (by (repeat' apply And.intro) <;> first | trivial | rfl | exact flat_len (fun _ => rfl) _ | exact encI_len _ | assumption) (rfl) rfl rfl rfl (by decide) rfl rfl ⟨⟨rfl, rfl⟩, trivial⟩

theorem placeV_L0_b (unit : Int) : ∀ (l : List GSeen) (k : Nat) (r : Int × Bool), placeV_L0 unit l k = .inl r → (k : Int) ≤ r.1 ∧ r.1 < k + l.length
  | [], k, r, h => by rw [placeV_L0] at h; cases h
  | x :: l, k, r, h => by
    rw [placeV_L0] at h
    split at h
    · cases h; simp only [List.length_cons]; omega
    · have := placeV_L0_b unit l (k + 1) r h
      simp only [List.length_cons]; omega
theorem placeV_b (l : List GSeen) (unit : Int) : 0 ≤ (placeV l unit).1 ∧ (placeV l unit).1 ≤ l.length ∧ ((placeV l unit).2 = true → (placeV l unit).1 < l.length) := by
  unfold placeV
  split
  · rename_i r hr
    have := placeV_L0_b unit l 0 r hr
    omega
  · exact ⟨by omega, Int.le_refl _, (fun h => by cases h)⟩
theorem nine {l : List Int} (h : l.length = 10) : AV.agg ((((encI (l.drop 1)).drop 0).take 9).map AV.pv) = .agg [I (l.getD 1 default), I (l.getD 2 default), I (l.getD 3 default), I (l.getD 4 default), I (l.getD 5 default), I (l.getD 6 default), I (l.getD 7 default), I (l.getD 8 default), I (l.getD 9 default)] := by
  match l, h with
  | [a0, a1, a2, a3, a4, a5, a6, a7, a8, a9], _ => rfl
theorem nine_ne {l : List Int} (h : l.length = 10) : encI (l.drop 1) ≠ [] ∧ (encI (l.drop 1)).length = 9 := by
  match l, h with
  | [a0, a1, a2, a3, a4, a5, a6, a7, a8, a9], _ => exact ⟨(fun h => by cases h), rfl⟩
theorem changedV_len (l : List GSeen) (unit f n : Int) : (changedV l unit f n).length = l.length := by
  unfold changedV
  repeat' split
  all_goals simp

def enteredV (l : List GSeen) (m : GMessage) : List GSeen :=
  if (placeV l (m.L.getD 0 default)).2 = true then (l.set ((placeV l (m.L.getD 0 default)).1).toNat (⟨(m.L.getD 0 default), m.Text, (⟨(m.L.getD 1 default), (m.L.getD 2 default), (m.L.getD 3 default), (m.L.getD 4 default), (m.L.getD 5 default), (m.L.getD 6 default), (m.L.getD 7 default), (m.L.getD 8 default), (m.L.getD 9 default)⟩ : A9int)⟩ : GSeen)) else (l.take ((placeV l (m.L.getD 0 default)).1).toNat ++ (([(⟨(m.L.getD 0 default), m.Text, (⟨(m.L.getD 1 default), (m.L.getD 2 default), (m.L.getD 3 default), (m.L.getD 4 default), (m.L.getD 5 default), (m.L.getD 6 default), (m.L.getD 7 default), (m.L.getD 8 default), (m.L.getD 9 default)⟩ : A9int)⟩ : GSeen)]) ++ l.drop ((placeV l (m.L.getD 0 default)).1).toNat))
theorem enteredV_ok (l : List GSeen) (m : GMessage) (hl : l.length ≤ 16777000) (hm : m.L.length = 10) : Ok Tryd.prog 26 [.ref 0 11 0 l.length, aGMessage m] [.row 60 11 (l.flatMap encGSeen)] (.ref 0 11 0 (enteredV l m).length) [.row 60 11 ((enteredV l m).flatMap encGSeen)] [0] := by
 refine Ok.len fun hlen => ?_
 have hl_m_L : m.L.length ≤ maxLen := hlen _ (by simp [lensL, lens, lensP])
 unfold maxLen at hl_m_L
 refine ok_of_sem Tryd.func26 rfl ?_
 show Walks Tryd.prog _ _ ⟨[(0, .ref 0 11 0 l.length), (1, aGMessage m)], [(0, .row 60 11 (l.flatMap encGSeen))], 1, [], 38, 1⟩
 refine sem_seq (sem_region rfl (step_n (o := .box [_, _, _]) (nx' := 2) rfl rfl rfl trivial (step_n (nx' := 3) rfl rfl rfl trivial (step_nil (seqK_n (sem_seq ?_))))))
 refine sem_drawn rfl (by decide +kernel) rfl ?_
 refine step_r rfl rfl (by decide) (step_r rfl rfl trivial ?_)
 have jk1 : 0 < m.L.length := by first | assumption | omega | (simp only [List.length_set, List.length_append]; omega) | (simp only [IntKind.wrap_i64] at *; omega) | (simp; omega) | simp_all
 refine step_idxS (k := 0) rfl rfl rfl rfl jk1 (encI_ne jk1) rfl (step_load_one rfl rfl rfl (encI_get (get_getD jk1)) rfl (step_r rfl rfl (by decide) (step_r rfl rfl trivial (step_r rfl rfl (by decide) (step_r rfl rfl trivial ?_)))))
 refine step_slcFrom (k := 1) (n' := (m.L.drop 1).length) (cs' := encI (m.L.drop 1)) rfl rfl rfl rfl rfl (by first | omega | (simp only [IntKind.wrap_i64]; omega) | (simp; omega)) (List.length_drop ..).symm (encI_from m.L 1) rfl ?_
 refine step_r (v := .pptr (encI (m.L.drop 1)) 0) rfl rfl ⟨by simp; omega, (nine_ne hm).1⟩ ?_
 refine step_rv (v' := .agg [I (m.L.getD 1 default), I (m.L.getD 2 default), I (m.L.getD 3 default), I (m.L.getD 4 default), I (m.L.getD 5 default), I (m.L.getD 6 default), I (m.L.getD 7 default), I (m.L.getD 8 default), I (m.L.getD 9 default)]) rfl (nine hm) rfl (by rw [(nine_ne hm).2]; exact Nat.le_refl 9) ?_
 refine step_r (v := (.agg [_, _, _, _, _, _, _, _, _, _, _])) rfl rfl trivial (step_n (o := .box [_, _, _, _, _, _, _, _, _, _, _]) (nx' := 4) rfl rfl rfl trivial ?_)
 refine step_storeB (H' := [(3, .box [_, _, _, _, _, _, _, _, _, _, _]), (2, _), (1, _), (0, _)]) rfl rfl rfl rfl rfl rfl (.inr (by decide +kernel)) rfl ?_
 refine step_nil (seqK_n (sem_seq (sem_region rfl (step_r rfl rfl trivial (step_r rfl rfl (by decide) (step_r rfl rfl trivial ?_))))))
 refine step_callJ (Hin := [.row _ _ _]) (out' := .tup [_, _]) (H' := [(3, _), (2, _), (1, _), (0, _)]) (nx' := 4) [0] rfl rfl rfl rfl rfl rfl rfl rfl rfl (by (repeat' apply And.intro) <;> first | trivial | rfl | exact flat_len (s := 11) (enc := encGSeen) (fun _ => rfl) _ | exact flat_len (fun _ => rfl) _ | exact encI_len _ | exact Nat.le_of_ble_eq_true rfl | assumption) (placeV_ok l false (m.L.getD 0 default)) rfl (by decide) rfl rfl trivial rfl rfl rfl rfl ?_
 have p2 := placeV_b l (m.L.getD 0 default)
 refine step_r rfl rfl trivial (step_r rfl rfl trivial (step_r rfl rfl trivial (step_r rfl rfl trivial (step_r rfl rfl trivial (step_nil (seqK_n (sem_seq (sem_seq (sem_region rfl (step_r rfl rfl trivial (step_nil ?_)))))))))))
 refine seqK_n ?_
 refine sem_cond rfl (fun h5 => ?_) (fun h5 => ?_)
 ·have g5 : (placeV l (m.L.getD 0 default)).2 = true := h5
  refine sem_seq (sem_region rfl (step_r rfl rfl trivial (step_r rfl rfl trivial (step_r (v := (.agg [_, _, _, _, _, _, _, _, _, _, _])) rfl rfl (Nat.le_of_ble_eq_true rfl) ?_))))
  have jk6 : ((placeV l (m.L.getD 0 default)).1).toNat < l.length := by first | assumption | omega | (simp only [List.length_set, List.length_append]; omega) | (simp only [IntKind.wrap_i64] at *; omega) | (simp; omega) | simp_all
  refine step_idxR' (k := ((placeV l (m.L.getD 0 default)).1).toNat) rfl rfl (Int.toNat_of_nonneg (by first | omega | (simp only [IntKind.wrap_i64]; omega) | (simp only [IntKind.wrap_i64] at *; omega) | (simp; omega))).symm rfl rfl jk6 rfl ?_
  refine step_putR (qs := encGSeen (⟨(m.L.getD 0 default), m.Text, (⟨(m.L.getD 1 default), (m.L.getD 2 default), (m.L.getD 3 default), (m.L.getD 4 default), (m.L.getD 5 default), (m.L.getD 6 default), (m.L.getD 7 default), (m.L.getD 8 default), (m.L.getD 9 default)⟩ : A9int)⟩ : GSeen)) rfl rfl rfl rfl rfl (flat_lt (s := 11) (enc := encGSeen) (fun _ => rfl) jk6) (flat_put (s := 11) (enc := encGSeen) (y := (⟨(m.L.getD 0 default), m.Text, (⟨(m.L.getD 1 default), (m.L.getD 2 default), (m.L.getD 3 default), (m.L.getD 4 default), (m.L.getD 5 default), (m.L.getD 6 default), (m.L.getD 7 default), (m.L.getD 8 default), (m.L.getD 9 default)⟩ : A9int)⟩ : GSeen)) (fun _ => rfl) jk6) (.inl rfl) rfl ?_
  refine step_nil (seqK_n (sem_seq (sem_region rfl (step_r rfl rfl trivial (step_r rfl rfl trivial (step_nil (seqK_n (sem_ret (seqK_r ?_)))))))))
  have e7 : enteredV l m = (l.set ((placeV l (m.L.getD 0 default)).1).toNat (⟨(m.L.getD 0 default), m.Text, (⟨(m.L.getD 1 default), (m.L.getD 2 default), (m.L.getD 3 default), (m.L.getD 4 default), (m.L.getD 5 default), (m.L.getD 6 default), (m.L.getD 7 default), (m.L.getD 8 default), (m.L.getD 9 default)⟩ : A9int)⟩ : GSeen)) := by
   unfold enteredV
   try dsimp only
   rewrite [if_pos g5]
   all_goals rfl
  rw [e7]
  try simp only [List.length_set]
  exact answersGR [] [] rfl ⟨trivial, trivial⟩ rfl (by (repeat' apply And.intro) <;> first | trivial | rfl | exact flat_len (fun _ => rfl) _ | exact encI_len _ | assumption) (rfl) rfl rfl rfl (by decide) rfl rfl ⟨⟨rfl, rfl⟩, trivial⟩
 ·have g5 : ¬ ((placeV l (m.L.getD 0 default)).2 = true) := boo_f h5
  refine sem_skip (seqK_n (sem_seq (sem_region rfl (step_r rfl rfl trivial (step_r rfl rfl trivial (step_r (v := (.agg [_, _, _, _, _, _, _, _, _, _, _])) rfl rfl (Nat.le_of_ble_eq_true rfl) (step_n (o := .row _ _ [_, _, _, _, _, _, _, _, _, _, _]) (nx' := 5) rfl rfl rfl (by decide) ?_)))))))
  refine step_callV (Hin := [.row _ _ _, .row _ _ _]) (out' := .ref 0 _ _ _) (H' := [(4, .row _ _ _), (3, .box [_, _, _, _, _, _, _, _, _, _, _]), (2, .row _ _ _), (1, .box [_, _, _]), (0, .row _ _ _)]) (nx' := 5) [0, 4] rfl rfl rfl rfl (.inl rfl) rfl rfl rfl rfl (insertv_GSeen l ((placeV l (m.L.getD 0 default)).1) ([(⟨(m.L.getD 0 default), m.Text, (⟨(m.L.getD 1 default), (m.L.getD 2 default), (m.L.getD 3 default), (m.L.getD 4 default), (m.L.getD 5 default), (m.L.getD 6 default), (m.L.getD 7 default), (m.L.getD 8 default), (m.L.getD 9 default)⟩ : A9int)⟩ : GSeen)]) (by first | omega | (simp only [IntKind.wrap_i64]; omega) | (simp only [IntKind.wrap_i64] at *; omega) | (simp; omega)) (by first | omega | (simp only [IntKind.wrap_i64]; omega) | (simp only [IntKind.wrap_i64] at *; omega) | (simp; omega)) (by first | omega | (simp only [IntKind.wrap_i64]; omega) | (simp only [IntKind.wrap_i64] at *; omega) | (simp; omega)) (by first | rfl | simp)) rfl (by decide) rfl rfl (.keep rfl (.keep rfl (.keep rfl (.keep rfl (.keep rfl .nil))))) (.keep rfl (.keep rfl (.keep rfl (.lose (v' := .undef) rfl (.keep rfl (.keep rfl (.keep rfl (.keep rfl (.keep rfl (.keep rfl (.keep rfl (.keep rfl (.keep rfl (.lose (v' := .undef) rfl (.keep rfl (.keep rfl (.keep rfl (.keep rfl (.keep rfl (.keep rfl (.keep rfl (.keep rfl (.keep rfl (.keep rfl (.keep rfl (.keep rfl (.keep rfl (.keep rfl (.keep rfl (.lose (v' := .undef) rfl (.keep rfl .nil))))))))))))))))))))))))))))))) rfl rfl rfl rfl ?_
  refine step_r rfl rfl trivial (step_nil (seqK_n (sem_ret ?_)))
  have e8 : enteredV l m = (l.take ((placeV l (m.L.getD 0 default)).1).toNat ++ (([(⟨(m.L.getD 0 default), m.Text, (⟨(m.L.getD 1 default), (m.L.getD 2 default), (m.L.getD 3 default), (m.L.getD 4 default), (m.L.getD 5 default), (m.L.getD 6 default), (m.L.getD 7 default), (m.L.getD 8 default), (m.L.getD 9 default)⟩ : A9int)⟩ : GSeen)]) ++ l.drop ((placeV l (m.L.getD 0 default)).1).toNat)) := by
   unfold enteredV
   try dsimp only
   rewrite [if_neg g5]
   all_goals rfl
  rw [e8]
  exact answersGR [] [] rfl ⟨trivial, trivial⟩ rfl (by (repeat' apply And.intro) <;> first | trivial | rfl | exact flat_len (fun _ => rfl) _ | exact encI_len _ | assumption) (rfl) rfl rfl rfl (by decide) rfl rfl ⟨⟨rfl, rfl⟩, trivial⟩

theorem enteredV_len (l : List GSeen) (m : GMessage) : (enteredV l m).length ≤ l.length + 1 := by
  unfold enteredV
  split
  · simp
  · simp only [List.length_append, List.length_take, List.length_drop, List.length_cons, List.length_nil]; omega
theorem rightM_at {m : GMessage} (h : rightM m = true) {d n : Int} (hd : m.Do = d) (hs : (sizeM d).1 = n) : (m.L.length : Int) = n := by
  unfold rightM at h
  split at h
  · split at h
    · rename_i h2; rw [← hs, ← hd]; omega
    · cases h
  · cases h

def foldV (w : GWorld) (m : GMessage) : GWorld :=
  if rightM m = true then (if (m.Do : Int) = 2 then (⟨(m.L.getD 0 default), (copyV w).Seen, (copyV w).Log, (copyV w).Synced⟩ : GWorld) else if (m.Do : Int) = 3 then (⟨0, [], [], false⟩ : GWorld) else if (m.Do : Int) = 4 then (⟨(copyV w).Me, (enteredV ((copyV w).Seen) m), (copyV w).Log, (copyV w).Synced⟩ : GWorld) else if (m.Do : Int) = 5 then (if (findV ((copyV w).Seen) (m.L.getD 0 default) : Int) ≥ 0 then (⟨(copyV w).Me, (((copyV w).Seen).take (findV ((copyV w).Seen) (m.L.getD 0 default)).toNat ++ ((copyV w).Seen).drop (IntKind.i64.wrap ((findV ((copyV w).Seen) (m.L.getD 0 default)) + 1)).toNat), (copyV w).Log, (copyV w).Synced⟩ : GWorld) else (copyV w)) else if (m.Do : Int) = 6 then (⟨(copyV w).Me, (changedV ((copyV w).Seen) (m.L.getD 0 default) (m.L.getD 1 default) (m.L.getD 2 default)), (copyV w).Log, (copyV w).Synced⟩ : GWorld) else if (m.Do : Int) = 7 then (⟨(copyV w).Me, (copyV w).Seen, ((copyV w).Log ++ [(⟨(m.L.getD 0 default), (m.L.getD 1 default), (m.L.getD 2 default), (m.L.getD 3 default), (m.L.getD 4 default)⟩ : A5int)]), (copyV w).Synced⟩ : GWorld) else if (m.Do : Int) = 10 then (⟨(copyV w).Me, (copyV w).Seen, (copyV w).Log, true⟩ : GWorld) else (copyV w)) else (copyV w)
theorem foldV_ok (w : GWorld) (m : GMessage) (hs : w.Seen.length ≤ 16770000) (hl : w.Log.length ≤ 16770000) : Ok Tryd.prog 13 [aGWorld w, aGMessage m] [] (aGWorld (foldV w m)) [] [] := by
 refine Ok.len fun hlen => ?_
 have hl_w_Seen : w.Seen.length ≤ maxLen := hlen _ (by simp [lensL, lens, lensP])
 have hl_w_Log : w.Log.length ≤ maxLen := hlen _ (by simp [lensL, lens, lensP])
 have hl_m_L : m.L.length ≤ maxLen := hlen _ (by simp [lensL, lens, lensP])
 unfold maxLen at hl_w_Seen hl_w_Log hl_m_L
 refine ok_of_sem Tryd.func13 rfl ?_
 show Walks Tryd.prog _ _ ⟨[(0, aGWorld w), (1, aGMessage m)], [], 0, [], 98, 0⟩
 refine sem_seq (sem_region rfl (step_n (o := .box [_, _, _, _]) (nx' := 1) rfl rfl rfl trivial (step_n (o := .box [_, _, _]) (nx' := 2) rfl rfl rfl trivial (step_n (o := .box [_, _, _, _]) (nx' := 3) rfl rfl rfl trivial (step_nil (seqK_n (sem_seq (sem_region rfl (step_r (v := (.agg [_, _, _, _])) rfl rfl (Nat.le_of_ble_eq_true rfl) ?_)))))))))
 refine step_callN (out' := .agg [_, .ref 3 _ _ _, .ref 4 _ _ _, _]) (H' := [(3, .row _ _ _), (4, .row _ _ _), (2, _), (1, _), (0, _)]) (nx' := 5) rfl rfl rfl rfl rfl rfl rfl (by (repeat' apply And.intro) <;> first | trivial | rfl | exact flat_len (fun _ => rfl) _ | exact encI_len _ | exact Nat.le_of_ble_eq_true rfl | assumption) (copyV_ok w (by first | omega | (simp only [IntKind.wrap_i64]; omega) | (simp only [IntKind.wrap_i64] at *; omega) | (simp; omega)) (by first | omega | (simp only [IntKind.wrap_i64]; omega) | (simp only [IntKind.wrap_i64] at *; omega) | (simp; omega))) rfl rfl rfl rfl ?_
 have p1 := copyV_len w
 refine step_storeB (H' := [(3, _), (4, _), (2, _), (1, _), (0, .box [_, _, _, _])]) rfl rfl rfl rfl rfl rfl (.inl rfl) rfl ?_
 refine step_nil (seqK_n (sem_seq (sem_seq (sem_region rfl (step_r (v := (.agg [_, _, _])) rfl rfl (Nat.le_of_ble_eq_true rfl) (step_call rfl rfl rfl rfl (rightM_ok m) rfl rfl rfl (step_r rfl rfl trivial (step_nil (seqK_n ?_)))))))))
 refine sem_cond rfl (fun h2 => ?_) (fun h2 => ?_)
 ·have g2 : ¬ (rightM m = true) := boo_f (not_t h2)
  refine sem_seq (sem_region rfl (step_r (v := (.agg [_, _, _, _])) rfl rfl (Nat.le_of_ble_eq_true rfl) ?_))
  refine step_storeB (H' := [(3, _), (4, _), (2, .box [_, _, _, _]), (1, _), (0, _)]) rfl rfl rfl rfl rfl rfl (.inl rfl) rfl ?_
  refine step_nil (seqK_n ?_)
  refine sem_trans (Trans.freezeJ (T' := [(4, .ptr 2 0)]) (H' := [(2, .box [I (copyV w).Me, .pv (.slc (copyV w).Seen.length false ((copyV w).Seen.flatMap encGSeen)), .pv (.slc (copyV w).Log.length false ((copyV w).Log.flatMap encA5int)), B (copyV w).Synced])]) [3, 4] (by decide) ⟨⟨_, _, rfl, rfl, (by (repeat' apply And.intro) <;> first | trivial | rfl | exact flat_len (s := 11) (enc := encGSeen) (fun _ => rfl) _ | exact flat_len (s := 5) (enc := encA5int) (fun _ => rfl) _ | exact flat_len (fun _ => rfl) _ | exact encI_len _ | exact Nat.le_of_ble_eq_true rfl | assumption)⟩, trivial⟩ ⟨⟨rfl, _, _, rfl, rfl, (by (repeat' apply And.intro) <;> first | trivial | rfl | exact flat_len (s := 11) (enc := encGSeen) (fun _ => rfl) _ | exact flat_len (s := 5) (enc := encA5int) (fun _ => rfl) _ | exact flat_len (fun _ => rfl) _ | exact encI_len _ | exact Nat.le_of_ble_eq_true rfl | assumption)⟩, trivial⟩) ?_
  refine sem_ret (seqK_r ?_)
  have e3 : foldV w m = (copyV w) := by
   unfold foldV
   try dsimp only
   rewrite [if_neg g2]
   all_goals rfl
  rw [e3]
  exact answersR rfl ⟨Nat.le_of_ble_eq_true rfl, trivial⟩ (rfl) rfl
 ·have g2 : rightM m = true := (not_f h2)
  have qg2 := rightM_len g2
  refine sem_skip (seqK_n (sem_seq (sem_seq (sem_region rfl (step_r rfl rfl (by decide) (step_r rfl rfl trivial (step_nil (seqK_n (sem_block (sem_seq (sem_region rfl ?_)))))))))))
  refine step_bin rfl rfl rfl rfl rfl trivial (step_r rfl rfl trivial (step_nil (seqK_n ?_)))
  refine sem_cond rfl (fun h5 => ?_) (fun h5 => ?_)
  ·have g5 : (m.Do : Int) = 2 := beq_t h5
   have hz := rightM_at (n := 1) (by assumption) g5 (by decide +kernel)
   refine sem_region rfl (step_r rfl rfl (by decide) (step_r rfl rfl trivial ?_))
   have jk6 : 0 < m.L.length := by first | assumption | omega | (simp only [List.length_set, List.length_append]; omega) | (simp only [IntKind.wrap_i64] at *; omega) | (simp; omega) | simp_all
   refine step_idxS (k := 0) rfl rfl rfl rfl jk6 (encI_ne jk6) rfl (step_load_one rfl rfl rfl (encI_get (get_getD jk6)) rfl (step_r rfl rfl (by decide) ?_))
   refine step_storeB (H' := [(3, _), (4, _), (2, _), (1, _), (0, .box [_, _, _, _])]) rfl rfl rfl rfl rfl rfl (.inl rfl) rfl ?_
   refine step_nil (blkK_n (seqK_n (sem_seq (sem_region rfl (step_r (v := (.agg [_, _, _, _])) rfl rfl (Nat.le_of_ble_eq_true rfl) ?_)))))
   refine step_storeB (H' := [(3, _), (4, _), (2, .box [_, _, _, _]), (1, _), (0, _)]) rfl rfl rfl rfl rfl rfl (.inl rfl) rfl ?_
   refine step_nil (seqK_n ?_)
   refine sem_trans (Trans.freezeJ (T' := [(4, .ptr 2 0)]) (H' := [(2, .box [I (m.L.getD 0 default), .pv (.slc (copyV w).Seen.length false ((copyV w).Seen.flatMap encGSeen)), .pv (.slc (copyV w).Log.length false ((copyV w).Log.flatMap encA5int)), B (copyV w).Synced])]) [3, 4] (by decide) ⟨⟨_, _, rfl, rfl, (by (repeat' apply And.intro) <;> first | trivial | rfl | exact flat_len (s := 11) (enc := encGSeen) (fun _ => rfl) _ | exact flat_len (s := 5) (enc := encA5int) (fun _ => rfl) _ | exact flat_len (fun _ => rfl) _ | exact encI_len _ | exact Nat.le_of_ble_eq_true rfl | assumption)⟩, trivial⟩ ⟨⟨rfl, _, _, rfl, rfl, (by (repeat' apply And.intro) <;> first | trivial | rfl | exact flat_len (s := 11) (enc := encGSeen) (fun _ => rfl) _ | exact flat_len (s := 5) (enc := encA5int) (fun _ => rfl) _ | exact flat_len (fun _ => rfl) _ | exact encI_len _ | exact Nat.le_of_ble_eq_true rfl | assumption)⟩, trivial⟩) ?_
   refine sem_ret ?_
   have e7 : foldV w m = (⟨(m.L.getD 0 default), (copyV w).Seen, (copyV w).Log, (copyV w).Synced⟩ : GWorld) := by
    unfold foldV
    try dsimp only
    rewrite [if_pos g2, if_pos g5]
    all_goals rfl
   rw [e7]
   exact answersR rfl ⟨Nat.le_of_ble_eq_true rfl, trivial⟩ (rfl) rfl
  ·have g5 : ¬ ((m.Do : Int) = 2) := beq_f h5
   refine sem_seq (sem_region rfl (step_bin rfl rfl rfl rfl rfl trivial (step_r rfl rfl trivial (step_nil (seqK_n ?_)))))
   refine sem_cond rfl (fun h9 => ?_) (fun h9 => ?_)
   ·have g9 : (m.Do : Int) = 3 := beq_t h9
    refine sem_seq (sem_region rfl (step_r (v := (.agg [_, _, _, _])) rfl rfl trivial ?_))
    refine step_storeB (H' := [(3, _), (4, _), (2, .box [_, _, _, _]), (1, _), (0, _)]) rfl rfl rfl rfl rfl rfl (.inl rfl) rfl ?_
    refine step_nil (seqK_n ?_)
    refine sem_trans (Trans.loose (T' := [(4, .ptr 2 0)]) (H' := [(2, .box [I 0, .pv (.slc 0 false []), .pv (.slc 0 false []), B false])]) ⟨⟨_, rfl, .inl rfl⟩, trivial⟩ ⟨⟨_, rfl, .inr rfl⟩, trivial⟩) ?_
    refine sem_ret (blkK_r (seqK_r ?_))
    have e10 : foldV w m = (⟨0, [], [], false⟩ : GWorld) := by
     unfold foldV
     try dsimp only
     rewrite [if_pos g2, if_neg g5, if_pos g9]
     all_goals rfl
    rw [e10]
    exact answersR rfl ⟨Nat.le_of_ble_eq_true rfl, trivial⟩ (rfl) rfl
   ·have g9 : ¬ ((m.Do : Int) = 3) := beq_f h9
    refine sem_seq (sem_region rfl (step_bin rfl rfl rfl rfl rfl trivial (step_r rfl rfl trivial (step_nil (seqK_n ?_)))))
    refine sem_cond rfl (fun h12 => ?_) (fun h12 => ?_)
    ·have g12 : (m.Do : Int) = 4 := beq_t h12
     have hz := rightM_at (n := 10) (by assumption) g12 (by decide +kernel)
     refine sem_region rfl (step_r rfl rfl (by decide) (step_r rfl rfl trivial (step_r (v := (.agg [_, _, _])) rfl rfl (Nat.le_of_ble_eq_true rfl) ?_)))
     refine step_callV (Hin := [.row _ _ _]) (out' := .ref 3 _ _ _) (H' := [(3, .row _ _ _), (4, .row _ _ _), (2, .box [_, _, _, _]), (1, .box [_, _, _]), (0, .box [_, _, _, _])]) (nx' := 5) [3] rfl rfl rfl rfl (.inl rfl) rfl rfl rfl rfl (enteredV_ok ((copyV w).Seen) m (by first | omega | (simp only [IntKind.wrap_i64]; omega) | (simp only [IntKind.wrap_i64] at *; omega) | (simp; omega)) (by first | omega | (simp only [IntKind.wrap_i64]; omega) | (simp only [IntKind.wrap_i64] at *; omega) | (simp; omega))) rfl (by decide) rfl rfl (.keep rfl (.keep rfl (.keep rfl (.keep rfl (.lose rfl .nil))))) (.keep rfl (.lose (v' := .undef) rfl (.keep rfl (.keep rfl (.keep rfl (.keep rfl (.keep rfl (.keep rfl (.keep rfl (.keep rfl (.keep rfl (.keep rfl (.keep rfl (.keep rfl (.lose rfl (.keep rfl (.keep rfl (.keep rfl (.keep rfl (.keep rfl (.keep rfl .nil))))))))))))))))))))) rfl rfl rfl rfl ?_
     have p13 := enteredV_len ((copyV w).Seen) m
     refine step_r rfl rfl (by decide) ?_
     refine step_storeB (H' := [(3, _), (4, _), (2, _), (1, _), (0, .box [_, _, _, _])]) rfl rfl rfl rfl rfl rfl (.inl rfl) rfl ?_
     refine step_nil (blkK_n (seqK_n (sem_seq (sem_region rfl (step_r (v := (.agg [_, _, _, _])) rfl rfl (Nat.le_of_ble_eq_true rfl) ?_)))))
     refine step_storeB (H' := [(3, _), (4, _), (2, .box [_, _, _, _]), (1, _), (0, _)]) rfl rfl rfl rfl rfl rfl (.inl rfl) rfl ?_
     refine step_nil (seqK_n ?_)
     refine sem_trans (Trans.freezeJ (T' := [(4, .ptr 2 0)]) (H' := [(2, .box [I (copyV w).Me, .pv (.slc (enteredV ((copyV w).Seen) m).length false ((enteredV ((copyV w).Seen) m).flatMap encGSeen)), .pv (.slc (copyV w).Log.length false ((copyV w).Log.flatMap encA5int)), B (copyV w).Synced])]) [3, 4] (by decide) ⟨⟨_, _, rfl, rfl, (by (repeat' apply And.intro) <;> first | trivial | rfl | exact flat_len (s := 11) (enc := encGSeen) (fun _ => rfl) _ | exact flat_len (s := 5) (enc := encA5int) (fun _ => rfl) _ | exact flat_len (fun _ => rfl) _ | exact encI_len _ | exact Nat.le_of_ble_eq_true rfl | assumption)⟩, trivial⟩ ⟨⟨rfl, _, _, rfl, rfl, (by (repeat' apply And.intro) <;> first | trivial | rfl | exact flat_len (s := 11) (enc := encGSeen) (fun _ => rfl) _ | exact flat_len (s := 5) (enc := encA5int) (fun _ => rfl) _ | exact flat_len (fun _ => rfl) _ | exact encI_len _ | exact Nat.le_of_ble_eq_true rfl | assumption)⟩, trivial⟩) ?_
     refine sem_ret ?_
     have e14 : foldV w m = (⟨(copyV w).Me, (enteredV ((copyV w).Seen) m), (copyV w).Log, (copyV w).Synced⟩ : GWorld) := by
      unfold foldV
      try dsimp only
      rewrite [if_pos g2, if_neg g5, if_neg g9, if_pos g12]
      all_goals rfl
     rw [e14]
     exact answersR rfl ⟨Nat.le_of_ble_eq_true rfl, trivial⟩ (rfl) rfl
    ·have g12 : ¬ ((m.Do : Int) = 4) := beq_f h12
     refine sem_seq (sem_region rfl (step_bin rfl rfl rfl rfl rfl trivial (step_r rfl rfl trivial (step_nil (seqK_n ?_)))))
     refine sem_cond rfl (fun h16 => ?_) (fun h16 => ?_)
     ·have g16 : (m.Do : Int) = 5 := beq_t h16
      have hz := rightM_at (n := 1) (by assumption) g16 (by decide +kernel)
      refine sem_seq ?_
      refine sem_drawn rfl (by decide +kernel) rfl ?_
      refine step_r rfl rfl (by decide) (step_r rfl rfl trivial (step_r rfl rfl (by decide) (step_r rfl rfl trivial ?_)))
      have jk17 : 0 < m.L.length := by first | assumption | omega | (simp only [List.length_set, List.length_append]; omega) | (simp only [IntKind.wrap_i64] at *; omega) | (simp; omega) | simp_all
      refine step_idxS (k := 0) rfl rfl rfl rfl jk17 (encI_ne jk17) rfl (step_load_one rfl rfl rfl (encI_get (get_getD jk17)) rfl ?_)
      refine step_callJ (Hin := [.row _ _ _]) (H' := [(3, _), (4, _), (2, _), (1, _), (0, _)]) (nx' := 5) [3] rfl rfl rfl rfl rfl rfl rfl rfl rfl (by (repeat' apply And.intro) <;> first | trivial | rfl | exact flat_len (s := 11) (enc := encGSeen) (fun _ => rfl) _ | exact flat_len (fun _ => rfl) _ | exact encI_len _ | exact Nat.le_of_ble_eq_true rfl | assumption) (findV_ok ((copyV w).Seen) false (m.L.getD 0 default)) rfl (by decide) rfl rfl trivial rfl rfl rfl rfl ?_
      have p18 := findV_lt ((copyV w).Seen) (m.L.getD 0 default)
      refine step_r rfl rfl trivial (step_nil (seqK_n (sem_seq (sem_region rfl (step_r rfl rfl trivial (step_bin rfl rfl rfl rfl rfl trivial (step_nil (seqK_n ?_))))))))
      refine sem_cond rfl (fun h20 => ?_) (fun h20 => ?_)
      ·have g20 : (findV ((copyV w).Seen) (m.L.getD 0 default) : Int) ≥ 0 := of_decide_eq_true h20
       refine sem_region rfl (step_r rfl rfl (by decide) (step_r rfl rfl trivial (step_r rfl rfl trivial (step_r rfl rfl trivial (step_bin rfl rfl rfl rfl rfl trivial ?_)))))
       refine step_callM (Hin := [.row _ _ _]) (out' := .ref 3 _ _ _) (H' := [(3, .row _ _ _), (4, .row _ _ _), (2, .box [_, _, _, _]), (1, .box [_, _, _]), (0, .box [_, _, _, _])]) (nx' := 5) [3] rfl rfl rfl rfl (.inl rfl) rfl rfl rfl rfl (delete_GSeen ((copyV w).Seen) (findV ((copyV w).Seen) (m.L.getD 0 default)) (IntKind.i64.wrap ((findV ((copyV w).Seen) (m.L.getD 0 default)) + 1)) (by first | omega | (simp only [IntKind.wrap_i64]; omega) | (simp only [IntKind.wrap_i64] at *; omega) | (simp; omega)) (by first | omega | (simp only [IntKind.wrap_i64]; omega) | (simp only [IntKind.wrap_i64] at *; omega) | (simp; omega)) (by first | omega | (simp only [IntKind.wrap_i64]; omega) | (simp only [IntKind.wrap_i64] at *; omega) | (simp; omega)) (by first | omega | (simp only [IntKind.wrap_i64]; omega) | (simp only [IntKind.wrap_i64] at *; omega) | (simp; omega))) rfl (by decide) rfl rfl rfl rfl rfl ?_
       refine step_r rfl rfl (by decide) ?_
       refine step_storeB (H' := [(3, _), (4, _), (2, _), (1, _), (0, .box [_, _, _, _])]) rfl rfl rfl rfl rfl rfl (.inl rfl) rfl ?_
       refine step_nil (blkK_n (seqK_n (sem_seq (sem_region rfl (step_r (v := (.agg [_, _, _, _])) rfl rfl (Nat.le_of_ble_eq_true rfl) ?_)))))
       refine step_storeB (H' := [(3, _), (4, _), (2, .box [_, _, _, _]), (1, _), (0, _)]) rfl rfl rfl rfl rfl rfl (.inl rfl) rfl ?_
       refine step_nil (seqK_n ?_)
       refine sem_trans (Trans.freezeJ (T' := [(4, .ptr 2 0)]) (H' := [(2, .box [I (copyV w).Me, .pv (.slc (((copyV w).Seen).take (findV ((copyV w).Seen) (m.L.getD 0 default)).toNat ++ ((copyV w).Seen).drop (IntKind.i64.wrap ((findV ((copyV w).Seen) (m.L.getD 0 default)) + 1)).toNat).length false ((((copyV w).Seen).take (findV ((copyV w).Seen) (m.L.getD 0 default)).toNat ++ ((copyV w).Seen).drop (IntKind.i64.wrap ((findV ((copyV w).Seen) (m.L.getD 0 default)) + 1)).toNat).flatMap encGSeen)), .pv (.slc (copyV w).Log.length false ((copyV w).Log.flatMap encA5int)), B (copyV w).Synced])]) [3, 4] (by decide) ⟨⟨_, _, rfl, rfl, (by (repeat' apply And.intro) <;> first | trivial | rfl | exact flat_len (s := 11) (enc := encGSeen) (fun _ => rfl) _ | exact flat_len (s := 5) (enc := encA5int) (fun _ => rfl) _ | exact flat_len (fun _ => rfl) _ | exact encI_len _ | exact Nat.le_of_ble_eq_true rfl | assumption)⟩, trivial⟩ ⟨⟨rfl, _, _, rfl, rfl, (by (repeat' apply And.intro) <;> first | trivial | rfl | exact flat_len (s := 11) (enc := encGSeen) (fun _ => rfl) _ | exact flat_len (s := 5) (enc := encA5int) (fun _ => rfl) _ | exact flat_len (fun _ => rfl) _ | exact encI_len _ | exact Nat.le_of_ble_eq_true rfl | assumption)⟩, trivial⟩) ?_
       refine sem_ret ?_
       have e21 : foldV w m = (⟨(copyV w).Me, (((copyV w).Seen).take (findV ((copyV w).Seen) (m.L.getD 0 default)).toNat ++ ((copyV w).Seen).drop (IntKind.i64.wrap ((findV ((copyV w).Seen) (m.L.getD 0 default)) + 1)).toNat), (copyV w).Log, (copyV w).Synced⟩ : GWorld) := by
        unfold foldV
        try dsimp only
        rewrite [if_pos g2, if_neg g5, if_neg g9, if_neg g12, if_pos g16, if_pos g20]
        all_goals rfl
       rw [e21]
       exact answersR rfl ⟨Nat.le_of_ble_eq_true rfl, trivial⟩ (rfl) rfl
      ·have g20 : ¬ ((findV ((copyV w).Seen) (m.L.getD 0 default) : Int) ≥ 0) := of_decide_eq_false h20
       refine sem_skip (blkK_n (seqK_n (sem_seq (sem_region rfl (step_r (v := (.agg [_, _, _, _])) rfl rfl (Nat.le_of_ble_eq_true rfl) ?_)))))
       refine step_storeB (H' := [(3, _), (4, _), (2, .box [_, _, _, _]), (1, _), (0, _)]) rfl rfl rfl rfl rfl rfl (.inl rfl) rfl ?_
       refine step_nil (seqK_n ?_)
       refine sem_trans (Trans.freezeJ (T' := [(4, .ptr 2 0)]) (H' := [(2, .box [I (copyV w).Me, .pv (.slc (copyV w).Seen.length false ((copyV w).Seen.flatMap encGSeen)), .pv (.slc (copyV w).Log.length false ((copyV w).Log.flatMap encA5int)), B (copyV w).Synced])]) [3, 4] (by decide) ⟨⟨_, _, rfl, rfl, (by (repeat' apply And.intro) <;> first | trivial | rfl | exact flat_len (s := 11) (enc := encGSeen) (fun _ => rfl) _ | exact flat_len (s := 5) (enc := encA5int) (fun _ => rfl) _ | exact flat_len (fun _ => rfl) _ | exact encI_len _ | exact Nat.le_of_ble_eq_true rfl | assumption)⟩, trivial⟩ ⟨⟨rfl, _, _, rfl, rfl, (by (repeat' apply And.intro) <;> first | trivial | rfl | exact flat_len (s := 11) (enc := encGSeen) (fun _ => rfl) _ | exact flat_len (s := 5) (enc := encA5int) (fun _ => rfl) _ | exact flat_len (fun _ => rfl) _ | exact encI_len _ | exact Nat.le_of_ble_eq_true rfl | assumption)⟩, trivial⟩) ?_
       refine sem_ret ?_
       have e22 : foldV w m = (copyV w) := by
        unfold foldV
        try dsimp only
        rewrite [if_pos g2, if_neg g5, if_neg g9, if_neg g12, if_pos g16, if_neg g20]
        all_goals rfl
       rw [e22]
       exact answersR rfl ⟨Nat.le_of_ble_eq_true rfl, trivial⟩ (rfl) rfl
     ·have g16 : ¬ ((m.Do : Int) = 5) := beq_f h16
      refine sem_seq (sem_region rfl (step_bin rfl rfl rfl rfl rfl trivial (step_r rfl rfl trivial (step_nil (seqK_n ?_)))))
      refine sem_cond rfl (fun h24 => ?_) (fun h24 => ?_)
      ·have g24 : (m.Do : Int) = 6 := beq_t h24
       have hz := rightM_at (n := 3) (by assumption) g24 (by decide +kernel)
       refine sem_drawn rfl (by decide +kernel) rfl ?_
       refine step_r rfl rfl (by decide) (step_r rfl rfl trivial (step_r rfl rfl (by decide) (step_r rfl rfl trivial ?_)))
       have jk25 : 0 < m.L.length := by first | assumption | omega | (simp only [List.length_set, List.length_append]; omega) | (simp only [IntKind.wrap_i64] at *; omega) | (simp; omega) | simp_all
       refine step_idxS (k := 0) rfl rfl rfl rfl jk25 (encI_ne jk25) rfl (step_load_one rfl rfl rfl (encI_get (get_getD jk25)) rfl (step_r rfl rfl (by decide) (step_r rfl rfl trivial ?_)))
       have jk26 : 1 < m.L.length := by first | assumption | omega | (simp only [List.length_set, List.length_append]; omega) | (simp only [IntKind.wrap_i64] at *; omega) | (simp; omega) | simp_all
       refine step_idxS (k := 1) rfl rfl rfl rfl jk26 (encI_ne jk26) rfl (step_load_one rfl rfl rfl (encI_get (get_getD jk26)) rfl (step_r rfl rfl (by decide) (step_r rfl rfl trivial ?_)))
       have jk27 : 2 < m.L.length := by first | assumption | omega | (simp only [List.length_set, List.length_append]; omega) | (simp only [IntKind.wrap_i64] at *; omega) | (simp; omega) | simp_all
       refine step_idxS (k := 2) rfl rfl rfl rfl jk27 (encI_ne jk27) rfl (step_load_one rfl rfl rfl (encI_get (get_getD jk27)) rfl ?_)
       refine step_callM (Hin := [.row _ _ _]) (out' := .tup []) (H' := [(3, .row _ _ _), (4, .row _ _ _), (2, .box [_, _, _, _]), (1, .box [_, _, _]), (0, .box [_, _, _, _])]) (nx' := 5) [3] rfl rfl rfl rfl (.inr (by decide +kernel)) rfl rfl rfl rfl (changedV_ok ((copyV w).Seen) (m.L.getD 0 default) (m.L.getD 1 default) (m.L.getD 2 default)) rfl (by decide) rfl rfl rfl rfl rfl ?_
       have p28 := changedV_len ((copyV w).Seen) (m.L.getD 0 default) (m.L.getD 1 default) (m.L.getD 2 default)
       refine step_nil (blkK_n (seqK_n (sem_seq (sem_region rfl (step_r (v := (.agg [_, _, _, _])) rfl rfl (Nat.le_of_ble_eq_true rfl) ?_)))))
       refine step_storeB (H' := [(3, _), (4, _), (2, .box [_, _, _, _]), (1, _), (0, _)]) rfl rfl rfl rfl rfl rfl (.inl rfl) rfl ?_
       refine step_nil (seqK_n ?_)
       refine sem_trans (Trans.of_less (less_of (T' := [(4, .ptr 2 0)]) (H' := [(2, .box [I (copyV w).Me, .ref 3 11 0 (changedV ((copyV w).Seen) (m.L.getD 0 default) (m.L.getD 1 default) (m.L.getD 2 default)).length, .ref 4 5 0 (copyV w).Log.length, B (copyV w).Synced]), (3, .row 60 11 ((changedV ((copyV w).Seen) (m.L.getD 0 default) (m.L.getD 1 default) (m.L.getD 2 default)).flatMap encGSeen)), (4, .row 68 5 ((copyV w).Log.flatMap encA5int))]) (nx' := 5) (mv' := []) rfl ⟨⟨rfl, rfl⟩, trivial⟩ ⟨⟨congrArg (fun n => some (VObj.box [I (copyV w).Me, .ref 3 11 0 n, .ref 4 5 0 (copyV w).Log.length, B (copyV w).Synced])) (by first | rfl | omega | (simp; done) | (simp; omega)), rfl, rfl⟩, ⟨rfl, rfl, rfl⟩, ⟨rfl, rfl, rfl⟩, trivial⟩ (fun _ _ => .inr (Nat.zero_le _)))) ?_
       refine sem_trans (Trans.freezeJ (T' := [(4, .ptr 2 0)]) (H' := [(2, .box [I (copyV w).Me, .pv (.slc (changedV ((copyV w).Seen) (m.L.getD 0 default) (m.L.getD 1 default) (m.L.getD 2 default)).length false ((changedV ((copyV w).Seen) (m.L.getD 0 default) (m.L.getD 1 default) (m.L.getD 2 default)).flatMap encGSeen)), .pv (.slc (copyV w).Log.length false ((copyV w).Log.flatMap encA5int)), B (copyV w).Synced])]) [3, 4] (by decide) ⟨⟨_, _, rfl, rfl, (by (repeat' apply And.intro) <;> first | trivial | rfl | exact flat_len (s := 11) (enc := encGSeen) (fun _ => rfl) _ | exact flat_len (s := 5) (enc := encA5int) (fun _ => rfl) _ | exact flat_len (fun _ => rfl) _ | exact encI_len _ | exact Nat.le_of_ble_eq_true rfl | assumption)⟩, trivial⟩ ⟨⟨rfl, _, _, rfl, rfl, (by (repeat' apply And.intro) <;> first | trivial | rfl | exact flat_len (s := 11) (enc := encGSeen) (fun _ => rfl) _ | exact flat_len (s := 5) (enc := encA5int) (fun _ => rfl) _ | exact flat_len (fun _ => rfl) _ | exact encI_len _ | exact Nat.le_of_ble_eq_true rfl | assumption)⟩, trivial⟩) ?_
       refine sem_ret ?_
       have e29 : foldV w m = (⟨(copyV w).Me, (changedV ((copyV w).Seen) (m.L.getD 0 default) (m.L.getD 1 default) (m.L.getD 2 default)), (copyV w).Log, (copyV w).Synced⟩ : GWorld) := by
        unfold foldV
        try dsimp only
        rewrite [if_pos g2, if_neg g5, if_neg g9, if_neg g12, if_neg g16, if_pos g24]
        all_goals rfl
       rw [e29]
       exact answersR rfl ⟨Nat.le_of_ble_eq_true rfl, trivial⟩ (rfl) rfl
      ·have g24 : ¬ ((m.Do : Int) = 6) := beq_f h24
       refine sem_seq (sem_region rfl (step_bin rfl rfl rfl rfl rfl trivial (step_r rfl rfl trivial (step_nil (seqK_n ?_)))))
       refine sem_cond rfl (fun h31 => ?_) (fun h31 => ?_)
       ·have g31 : (m.Do : Int) = 7 := beq_t h31
        have hz := rightM_at (n := 5) (by assumption) g31 (by decide +kernel)
        refine sem_drawn rfl (by decide +kernel) rfl ?_
        refine step_r rfl rfl (by decide) (step_r rfl rfl trivial (step_r rfl rfl (by decide) (step_r rfl rfl trivial ?_)))
        have jk32 : 0 < m.L.length := by first | assumption | omega | (simp only [List.length_set, List.length_append]; omega) | (simp only [IntKind.wrap_i64] at *; omega) | (simp; omega) | simp_all
        refine step_idxS (k := 0) rfl rfl rfl rfl jk32 (encI_ne jk32) rfl (step_load_one rfl rfl rfl (encI_get (get_getD jk32)) rfl (step_r rfl rfl (by decide) (step_r rfl rfl trivial ?_)))
        have jk33 : 1 < m.L.length := by first | assumption | omega | (simp only [List.length_set, List.length_append]; omega) | (simp only [IntKind.wrap_i64] at *; omega) | (simp; omega) | simp_all
        refine step_idxS (k := 1) rfl rfl rfl rfl jk33 (encI_ne jk33) rfl (step_load_one rfl rfl rfl (encI_get (get_getD jk33)) rfl (step_r rfl rfl (by decide) (step_r rfl rfl trivial ?_)))
        have jk34 : 2 < m.L.length := by first | assumption | omega | (simp only [List.length_set, List.length_append]; omega) | (simp only [IntKind.wrap_i64] at *; omega) | (simp; omega) | simp_all
        refine step_idxS (k := 2) rfl rfl rfl rfl jk34 (encI_ne jk34) rfl (step_load_one rfl rfl rfl (encI_get (get_getD jk34)) rfl (step_r rfl rfl (by decide) (step_r rfl rfl trivial ?_)))
        have jk35 : 3 < m.L.length := by first | assumption | omega | (simp only [List.length_set, List.length_append]; omega) | (simp only [IntKind.wrap_i64] at *; omega) | (simp; omega) | simp_all
        refine step_idxS (k := 3) rfl rfl rfl rfl jk35 (encI_ne jk35) rfl (step_load_one rfl rfl rfl (encI_get (get_getD jk35)) rfl (step_r rfl rfl (by decide) (step_r rfl rfl trivial ?_)))
        have jk36 : 4 < m.L.length := by first | assumption | omega | (simp only [List.length_set, List.length_append]; omega) | (simp only [IntKind.wrap_i64] at *; omega) | (simp; omega) | simp_all
        refine step_idxS (k := 4) rfl rfl rfl rfl jk36 (encI_ne jk36) rfl (step_load_one rfl rfl rfl (encI_get (get_getD jk36)) rfl (step_r (v := (.agg [_, _, _, _, _])) rfl rfl trivial (step_n (o := .row _ _ [_, _, _, _, _]) (nx' := 6) rfl rfl rfl (by decide) ?_)))
        refine step_appendC (m := 1) (new := [_, _, _, _, _]) (cs' := ((copyV w).Log ++ [(⟨(m.L.getD 0 default), (m.L.getD 1 default), (m.L.getD 2 default), (m.L.getD 3 default), (m.L.getD 4 default)⟩ : A5int)]).flatMap encA5int) (n' := ((copyV w).Log ++ [(⟨(m.L.getD 0 default), (m.L.getD 1 default), (m.L.getD 2 default), (m.L.getD 3 default), (m.L.getD 4 default)⟩ : A5int)]).length) (H' := [(5, .row _ _ _), (3, .row _ _ _), (4, .row _ _ _), (2, .box [_, _, _, _]), (1, .box [_, _, _]), (0, .box [_, _, _, _])]) rfl rfl rfl (rfl) rfl rfl rfl rfl rfl rfl (flat_len (s := 5) (enc := encA5int) (fun _ => rfl) ((copyV w).Log)) (rfl) (by first | decide | (unfold maxGrow; omega) | (unfold maxGrow; simp; omega) | (unfold maxGrow; simp only [List.length_append, List.length_take, List.length_drop, List.length_cons, List.length_nil, IntKind.wrap_i64] at *; omega)) (len_snoc ((copyV w).Log) _) (((flat_snoc (enc := encA5int) (l := ((copyV w).Log)) (⟨(m.L.getD 0 default), (m.L.getD 1 default), (m.L.getD 2 default), (m.L.getD 3 default), (m.L.getD 4 default)⟩ : A5int))).symm) (.inr (by decide +kernel)) rfl rfl (.keep rfl (.keep rfl (.keep rfl (.keep rfl (.keep rfl (.lose rfl .nil)))))) (.keep rfl (.keep rfl (.keep rfl (.keep rfl (.keep rfl (.keep rfl (.keep rfl (.keep rfl (.keep rfl (.keep rfl (.keep rfl (.keep rfl (.keep rfl (.keep rfl (.keep rfl (.keep rfl (.keep rfl (.keep rfl (.keep rfl (.keep rfl (.keep rfl (.keep rfl (.lose (v' := .undef) rfl (.keep rfl (.keep rfl (.keep rfl (.keep rfl (.keep rfl (.keep rfl (.keep rfl (.keep rfl (.keep rfl (.keep rfl (.keep rfl (.keep rfl (.keep rfl (.keep rfl (.keep rfl (.keep rfl (.keep rfl (.keep rfl (.lose rfl (.keep rfl (.keep rfl (.keep rfl (.keep rfl (.keep rfl (.keep rfl .nil)))))))))))))))))))))))))))))))))))))))))))))))) ?_
        refine step_r rfl rfl (by decide) ?_
        refine step_storeB (H' := [(5, _), (3, _), (4, _), (2, _), (1, _), (0, .box [_, _, _, _])]) rfl rfl rfl rfl rfl rfl (.inr (by decide +kernel)) rfl ?_
        refine step_nil (blkK_n (seqK_n (sem_seq (sem_region rfl (step_r (v := (.agg [_, _, _, _])) rfl rfl (Nat.le_of_ble_eq_true rfl) ?_)))))
        refine step_storeB (H' := [(5, _), (3, _), (4, _), (2, .box [_, _, _, _]), (1, _), (0, _)]) rfl rfl rfl rfl rfl rfl (.inl rfl) rfl ?_
        refine step_nil (seqK_n ?_)
        refine sem_trans (Trans.freezeJ (T' := [(4, .ptr 2 0)]) (H' := [(2, .box [I (copyV w).Me, .pv (.slc (copyV w).Seen.length false ((copyV w).Seen.flatMap encGSeen)), .pv (.slc ((copyV w).Log ++ [(⟨(m.L.getD 0 default), (m.L.getD 1 default), (m.L.getD 2 default), (m.L.getD 3 default), (m.L.getD 4 default)⟩ : A5int)]).length false (((copyV w).Log ++ [(⟨(m.L.getD 0 default), (m.L.getD 1 default), (m.L.getD 2 default), (m.L.getD 3 default), (m.L.getD 4 default)⟩ : A5int)]).flatMap encA5int)), B (copyV w).Synced])]) [3, 4] (by decide) ⟨⟨_, _, rfl, rfl, (by (repeat' apply And.intro) <;> first | trivial | rfl | exact flat_len (s := 11) (enc := encGSeen) (fun _ => rfl) _ | exact flat_len (s := 5) (enc := encA5int) (fun _ => rfl) _ | exact flat_len (fun _ => rfl) _ | exact encI_len _ | exact Nat.le_of_ble_eq_true rfl | assumption)⟩, trivial⟩ ⟨⟨rfl, _, _, rfl, rfl, (by (repeat' apply And.intro) <;> first | trivial | rfl | exact flat_len (s := 11) (enc := encGSeen) (fun _ => rfl) _ | exact flat_len (s := 5) (enc := encA5int) (fun _ => rfl) _ | exact flat_len (fun _ => rfl) _ | exact encI_len _ | exact Nat.le_of_ble_eq_true rfl | assumption)⟩, trivial⟩) ?_
        refine sem_ret ?_
        have e37 : foldV w m = (⟨(copyV w).Me, (copyV w).Seen, ((copyV w).Log ++ [(⟨(m.L.getD 0 default), (m.L.getD 1 default), (m.L.getD 2 default), (m.L.getD 3 default), (m.L.getD 4 default)⟩ : A5int)]), (copyV w).Synced⟩ : GWorld) := by
         unfold foldV
         try dsimp only
         rewrite [if_pos g2, if_neg g5, if_neg g9, if_neg g12, if_neg g16, if_neg g24, if_pos g31]
         all_goals rfl
        rw [e37]
        exact answersR rfl ⟨Nat.le_of_ble_eq_true rfl, trivial⟩ (rfl) rfl
       ·have g31 : ¬ ((m.Do : Int) = 7) := beq_f h31
        refine sem_seq (sem_region rfl (step_bin rfl rfl rfl rfl rfl trivial (step_r rfl rfl trivial (step_nil (seqK_n ?_)))))
        refine sem_cond rfl (fun h39 => ?_) (fun h39 => ?_)
        ·have g39 : (m.Do : Int) = 10 := beq_t h39
         refine sem_region rfl (step_r rfl rfl (by decide) ?_)
         refine step_storeB (H' := [(3, _), (4, _), (2, _), (1, _), (0, .box [_, _, _, _])]) rfl rfl rfl rfl rfl rfl (.inl rfl) rfl ?_
         refine step_nil (blkK_n (seqK_n (sem_seq (sem_region rfl (step_r (v := (.agg [_, _, _, _])) rfl rfl (Nat.le_of_ble_eq_true rfl) ?_)))))
         refine step_storeB (H' := [(3, _), (4, _), (2, .box [_, _, _, _]), (1, _), (0, _)]) rfl rfl rfl rfl rfl rfl (.inl rfl) rfl ?_
         refine step_nil (seqK_n ?_)
         refine sem_trans (Trans.freezeJ (T' := [(4, .ptr 2 0)]) (H' := [(2, .box [I (copyV w).Me, .pv (.slc (copyV w).Seen.length false ((copyV w).Seen.flatMap encGSeen)), .pv (.slc (copyV w).Log.length false ((copyV w).Log.flatMap encA5int)), B true])]) [3, 4] (by decide) ⟨⟨_, _, rfl, rfl, (by (repeat' apply And.intro) <;> first | trivial | rfl | exact flat_len (s := 11) (enc := encGSeen) (fun _ => rfl) _ | exact flat_len (s := 5) (enc := encA5int) (fun _ => rfl) _ | exact flat_len (fun _ => rfl) _ | exact encI_len _ | exact Nat.le_of_ble_eq_true rfl | assumption)⟩, trivial⟩ ⟨⟨rfl, _, _, rfl, rfl, (by (repeat' apply And.intro) <;> first | trivial | rfl | exact flat_len (s := 11) (enc := encGSeen) (fun _ => rfl) _ | exact flat_len (s := 5) (enc := encA5int) (fun _ => rfl) _ | exact flat_len (fun _ => rfl) _ | exact encI_len _ | exact Nat.le_of_ble_eq_true rfl | assumption)⟩, trivial⟩) ?_
         refine sem_ret ?_
         have e40 : foldV w m = (⟨(copyV w).Me, (copyV w).Seen, (copyV w).Log, true⟩ : GWorld) := by
          unfold foldV
          try dsimp only
          rewrite [if_pos g2, if_neg g5, if_neg g9, if_neg g12, if_neg g16, if_neg g24, if_neg g31, if_pos g39]
          all_goals rfl
         rw [e40]
         exact answersR rfl ⟨Nat.le_of_ble_eq_true rfl, trivial⟩ (rfl) rfl
        ·have g39 : ¬ ((m.Do : Int) = 10) := beq_f h39
         refine sem_skip (blkK_n (seqK_n (sem_seq (sem_region rfl (step_r (v := (.agg [_, _, _, _])) rfl rfl (Nat.le_of_ble_eq_true rfl) ?_)))))
         refine step_storeB (H' := [(3, _), (4, _), (2, .box [_, _, _, _]), (1, _), (0, _)]) rfl rfl rfl rfl rfl rfl (.inl rfl) rfl ?_
         refine step_nil (seqK_n ?_)
         refine sem_trans (Trans.freezeJ (T' := [(4, .ptr 2 0)]) (H' := [(2, .box [I (copyV w).Me, .pv (.slc (copyV w).Seen.length false ((copyV w).Seen.flatMap encGSeen)), .pv (.slc (copyV w).Log.length false ((copyV w).Log.flatMap encA5int)), B (copyV w).Synced])]) [3, 4] (by decide) ⟨⟨_, _, rfl, rfl, (by (repeat' apply And.intro) <;> first | trivial | rfl | exact flat_len (s := 11) (enc := encGSeen) (fun _ => rfl) _ | exact flat_len (s := 5) (enc := encA5int) (fun _ => rfl) _ | exact flat_len (fun _ => rfl) _ | exact encI_len _ | exact Nat.le_of_ble_eq_true rfl | assumption)⟩, trivial⟩ ⟨⟨rfl, _, _, rfl, rfl, (by (repeat' apply And.intro) <;> first | trivial | rfl | exact flat_len (s := 11) (enc := encGSeen) (fun _ => rfl) _ | exact flat_len (s := 5) (enc := encA5int) (fun _ => rfl) _ | exact flat_len (fun _ => rfl) _ | exact encI_len _ | exact Nat.le_of_ble_eq_true rfl | assumption)⟩, trivial⟩) ?_
         refine sem_ret ?_
         have e41 : foldV w m = (copyV w) := by
          unfold foldV
          try dsimp only
          rewrite [if_pos g2, if_neg g5, if_neg g9, if_neg g12, if_neg g16, if_neg g24, if_neg g31, if_neg g39]
          all_goals rfl
         rw [e41]
         exact answersR rfl ⟨Nat.le_of_ble_eq_true rfl, trivial⟩ (rfl) rfl

theorem foldV_len (w : GWorld) (m : GMessage) (hs : w.Seen.length ≤ 16770000) : (foldV w m).Seen.length ≤ w.Seen.length + 1 ∧ (foldV w m).Log.length ≤ w.Log.length + 1 := by
  have hc : copyV w = w := rfl
  unfold foldV
  rw [hc]
  have h1 := enteredV_len w.Seen m
  have h2 := changedV_len w.Seen (m.L.getD 0 default) (m.L.getD 1 default) (m.L.getD 2 default)
  have h3 := findV_lt w.Seen (m.L.getD 0 default)
  split
  case isFalse => constructor <;> omega
  split
  · constructor <;> (dsimp only; omega)
  split
  · constructor <;> exact Nat.zero_le _
  split
  · constructor <;> (dsimp only; omega)
  split
  · split
    · constructor
      · dsimp only; simp only [List.length_append, List.length_take, List.length_drop, IntKind.wrap_i64]; omega
      · dsimp only; omega
    · constructor <;> omega
  split
  · constructor <;> (dsimp only; omega)
  split
  · constructor
    · dsimp only; omega
    · dsimp only; simp
  split
  · constructor <;> (dsimp only; omega)
  · constructor <;> omega

def foldsV_L0 : List GMessage → Nat → GWorld → GWorld
  | [], k0, w0 => w0
  | x0 :: l_, k0, w0 => foldsV_L0 l_ (k0 + 1) (foldV w0 x0)
def foldsV (w : GWorld) (l : List GMessage) : GWorld :=
  (let w_0 := foldsV_L0 l 0 (copyV w); w_0)
theorem foldsV_ok (w : GWorld) (l : List GMessage) (l_f : Bool) (hs : w.Seen.length ≤ 8000000) (hg : w.Log.length ≤ 8000000) (hm : l.length ≤ 8000000) : Ok Tryd.prog 9 [aGWorld w, .pv (.slc l.length l_f (l.flatMap encGMessage))] [] (aGWorld (foldsV w l)) [] [] := by
 refine Ok.len fun hlen => ?_
 have hl_w_Seen : w.Seen.length ≤ maxLen := hlen _ (by simp [lensL, lens, lensP])
 have hl_w_Log : w.Log.length ≤ maxLen := hlen _ (by simp [lensL, lens, lensP])
 have hl_l : l.length ≤ maxLen := hlen _ (by simp [lensL, lens, lensP])
 unfold maxLen at hl_w_Seen hl_w_Log hl_l
 refine ok_of_sem Tryd.func9 rfl ?_
 show Walks Tryd.prog _ _ ⟨[(0, aGWorld w), (1, .pv (.slc l.length l_f (l.flatMap encGMessage)))], [], 0, [], 20, 0⟩
 refine sem_seq (sem_region rfl (step_n (o := .box [_, _, _, _]) (nx' := 1) rfl rfl rfl trivial (step_n (o := .box [_, _, _, _]) (nx' := 2) rfl rfl rfl trivial (step_nil (seqK_n (sem_seq (sem_region rfl (step_r (v := (.agg [_, _, _, _])) rfl rfl (Nat.le_of_ble_eq_true rfl) ?_))))))))
 refine step_callN (H' := [(1, _), (0, _)]) (nx' := 2) rfl rfl rfl rfl rfl rfl rfl (by (repeat' apply And.intro) <;> first | trivial | rfl | exact flat_len (fun _ => rfl) _ | exact encI_len _ | exact Nat.le_of_ble_eq_true rfl | assumption) (Ok.frz (copyV_ok w (by first | omega | (simp only [IntKind.wrap_i64]; omega) | (simp only [IntKind.wrap_i64] at *; omega) | (simp; omega)) (by first | omega | (simp only [IntKind.wrap_i64]; omega) | (simp only [IntKind.wrap_i64] at *; omega) | (simp; omega))) rfl rfl (by (repeat' apply And.intro) <;> first | trivial | rfl | exact flat_len (s := 11) (enc := encGSeen) (fun _ => rfl) _ | exact flat_len (s := 5) (enc := encA5int) (fun _ => rfl) _ | exact flat_len (fun _ => rfl) _ | exact encI_len _ | exact Nat.le_of_ble_eq_true rfl | assumption)) rfl rfl rfl rfl ?_
 have p1 := copyV_len w
 refine step_storeB (H' := [(1, _), (0, .box [_, _, _, _])]) rfl rfl rfl rfl rfl rfl (.inl rfl) rfl ?_
 refine step_nil (seqK_n (sem_seq (sem_seq (sem_region rfl (step_r rfl rfl trivial (step_r rfl rfl trivial (step_r rfl rfl trivial (step_nil (seqK_n ?_)))))))))
 refine sem_cutW (fun w_0 : GWorld => (⟨[(2, .ptr 0 0), (4, .ptr 1 0)], [(0, .box [I w_0.Me, .pv (.slc w_0.Seen.length false (w_0.Seen.flatMap encGSeen)), .pv (.slc w_0.Log.length false (w_0.Log.flatMap encA5int)), B w_0.Synced]), (1, .box [I 0, .pv (.slc 0 true []), .pv (.slc 0 true []), B false])], 2, [], 20, 0⟩ : St)) (fun w_ => foldsV_L0 l 0 (copyV w) = w_) ?_ ?_
 ·refine sem_block ?_
  refine sem_loopT (fun w_ : Nat × GWorld => match w_ with | (k0, w0) => (⟨[(2, .ptr 0 0), (4, .ptr 1 0), (9, .pv (.slc l.length l_f (l.flatMap encGMessage))), (10, I l.length), (11, I k0)], [(0, .box [I w0.Me, .pv (.slc w0.Seen.length false (w0.Seen.flatMap encGSeen)), .pv (.slc w0.Log.length false (w0.Log.flatMap encA5int)), B w0.Synced]), (1, .box [I 0, .pv (.slc 0 true []), .pv (.slc 0 true []), B false])], 2, [], 20, 0⟩ : St)) (fun w_ : Nat × GWorld => match w_ with | (k0, w0) => foldsV_L0 (l.drop k0) k0 w0 = foldsV_L0 l 0 (copyV w) ∧ k0 ≤ l.length ∧ w0.Seen.length ≤ w.Seen.length + k0 ∧ w0.Log.length ≤ w.Log.length + k0) (fun w_ : Nat × GWorld => match w_ with | (k0, w0) => l.length - k0) (0, (copyV w)) (⟨rfl, Nat.zero_le _, ⟨Nat.le_refl _, Nat.le_refl _⟩⟩) ?_ (fun w_ hh_ => ?_)
  ·exact (Trans.ren [] (by decide +kernel) (by decide +kernel) rfl ⟨⟨rfl, rfl⟩, ⟨rfl, rfl⟩, ⟨rfl, rfl⟩, ⟨rfl, rfl⟩, ⟨rfl, rfl⟩, trivial⟩ ⟨⟨rfl, rfl, rfl⟩, ⟨rfl, rfl, rfl⟩, trivial⟩ (by decide))
  obtain ⟨k0, w0⟩ := w_
  obtain ⟨hI0, hb0, hv0⟩ := hh_
  show Walks Tryd.prog _ _ (⟨[(2, .ptr 0 0), (4, .ptr 1 0), (9, .pv (.slc l.length l_f (l.flatMap encGMessage))), (10, I l.length), (11, I k0)], [(0, .box [I w0.Me, .pv (.slc w0.Seen.length false (w0.Seen.flatMap encGSeen)), .pv (.slc w0.Log.length false (w0.Log.flatMap encA5int)), B w0.Synced]), (1, .box [I 0, .pv (.slc 0 true []), .pv (.slc 0 true []), B false])], 2, [], 20, 0⟩ : St)
  refine sem_seq (sem_region rfl (step_bin rfl rfl rfl rfl rfl trivial (step_nil (seqK_n (sem_seq ?_)))))
  refine sem_cond rfl (fun h3 => ?_) (fun h3 => ?_)
  ·have g3 : (k0 : Int) < l.length := of_decide_eq_true h3
   have hk0 : k0 < l.length := by omega
   obtain ⟨x0, hx0⟩ : ∃ z_, l[k0]? = some z_ := ⟨_, List.getElem?_eq_getElem hk0⟩
   refine sem_skip (seqK_n (sem_seq (sem_block (sem_seq (sem_region rfl (step_idxS (k := k0) rfl rfl rfl rfl hk0 (flat_ne (s := 3) (enc := encGMessage) (fun _ => rfl) (by decide) hk0) rfl (step_load_row rfl rfl rfl (flat_lt (s := 3) (enc := encGMessage) (fun _ => rfl) hk0) (flat_take (s := 3) (enc := encGMessage) (fun _ => rfl) hx0) rfl (step_n (o := .box [_, _, _]) (nx' := 3) rfl rfl rfl trivial ?_))))))))
   refine step_storeB (H' := [(2, .box [_, _, _]), (0, _), (1, _)]) rfl rfl rfl rfl rfl rfl (.inl rfl) rfl ?_
   refine step_nil (seqK_n (sem_region rfl (step_r (v := (.agg [_, _, _, _])) rfl rfl (Nat.le_of_ble_eq_true rfl) (step_r (v := (.agg [_, _, _])) rfl rfl (Nat.le_of_ble_eq_true rfl) (step_call rfl rfl rfl rfl (foldV_ok w0 x0 (by first | omega | (simp only [IntKind.wrap_i64]; omega) | (simp only [IntKind.wrap_i64] at *; omega) | (simp; omega)) (by first | omega | (simp only [IntKind.wrap_i64]; omega) | (simp only [IntKind.wrap_i64] at *; omega) | (simp; omega))) rfl rfl rfl ?_)))))
   have p4 := foldV_len w0 x0 (by first | omega | (simp only [IntKind.wrap_i64]; omega) | (simp only [IntKind.wrap_i64] at *; omega) | (simp; omega))
   refine step_storeB (H' := [(2, _), (0, .box [_, _, _, _]), (1, _)]) rfl rfl rfl rfl rfl rfl (.inl rfl) rfl ?_
   refine step_nil (blkK_n (seqK_n (sem_region rfl (step_bin rfl rfl rfl rfl rfl trivial (step_r rfl rfl trivial (step_nil ?_))))))
   have e6 : foldsV_L0 (l.drop k0) k0 w0 = foldsV_L0 (l.drop (k0 + 1)) (k0 + 1) (foldV w0 x0) := by
    rewrite [drop_cons hx0]
    rewrite [foldsV_L0]
    try dsimp only
    all_goals rfl
   exact lup_againT (k0 + 1, (foldV w0 x0)) ⟨e6.symm.trans hI0, hk0, by first | omega | assumption | (simp only [List.length_append, List.length_cons, List.length_nil, List.length_set]; omega) | (simp; omega) | grind⟩ (by show l.length - (k0 + 1) < l.length - k0; omega) (Trans.ren [] (by decide +kernel) (by decide +kernel) rfl ⟨⟨rfl, rfl⟩, ⟨rfl, rfl⟩, ⟨rfl, rfl⟩, ⟨rfl, rfl⟩, ⟨congrArg (fun n => some (I n)) (wrapI (k := k0) (by first | omega | (simp; omega))), rfl⟩, trivial⟩ ⟨⟨rfl, rfl, rfl⟩, ⟨rfl, rfl, rfl⟩, trivial⟩ (by decide))
  ·have g3 : ¬ ((k0 : Int) < l.length) := of_decide_eq_false h3
   have hk0 : k0 = l.length := by omega
   refine sem_exit (seqK_e (lupK_e (blkK_t rfl ?_)))
   have e7 : foldsV_L0 l 0 (copyV w) = w0 := by
    rewrite [← hI0, hk0, List.drop_length]
    rewrite [foldsV_L0]
    try dsimp only
    all_goals rfl
   exact cutW_n w0 e7 (Trans.ren [] (by decide +kernel) (by decide +kernel) rfl ⟨⟨rfl, rfl⟩, ⟨rfl, rfl⟩, trivial⟩ ⟨⟨rfl, rfl, rfl⟩, ⟨rfl, rfl, rfl⟩, trivial⟩ (by decide))
 ·rintro w_0 (hJ2 : foldsV_L0 l 0 (copyV w) = w_0)
  show seqK _ _ _ .normal (⟨[(2, .ptr 0 0), (4, .ptr 1 0)], [(0, .box [I w_0.Me, .pv (.slc w_0.Seen.length false (w_0.Seen.flatMap encGSeen)), .pv (.slc w_0.Log.length false (w_0.Log.flatMap encA5int)), B w_0.Synced]), (1, .box [I 0, .pv (.slc 0 true []), .pv (.slc 0 true []), B false])], 2, [], 20, 0⟩ : St)
  refine seqK_n (sem_seq (sem_region rfl (step_r (v := (.agg [_, _, _, _])) rfl rfl (Nat.le_of_ble_eq_true rfl) ?_)))
  refine step_storeB (H' := [(0, _), (1, .box [_, _, _, _])]) rfl rfl rfl rfl rfl rfl (.inl rfl) rfl ?_
  refine step_nil (seqK_n (sem_ret ?_))
  have e8 : foldsV w l = w_0 := by
   unfold foldsV
   try dsimp only
   rewrite [hJ2]
   try dsimp only
   all_goals rfl
  rw [e8]
  exact answersR rfl ⟨Nat.le_of_ble_eq_true rfl, trivial⟩ (rfl) rfl
end Go.Proofs.YtbfmonajbfljmaaDoor

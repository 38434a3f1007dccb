import Derived.Test.YtmijbjpdjggppaaStrike
namespace Go.Proofs.Ytmijbjpdjggppaa
open Go Go.RowKit Go.Proofs.YtmijbjpdjggppaaVm
attribute [local irreducible] opsWp AnswersE OpsS
set_option maxHeartbeats 400000
set_option maxRecDepth 100000
set_option linter.all false
def few18_L0 (x_ : GActor) : Nat → Nat → Sum Bool Unit
  | 0, k0 => .inr ()
  | n_ + 1, k0 => if ((x_.Cools.getD k0 default).Back.length : Int) > 200 then .inl false else few18_L0 x_ n_ (k0 + 1)
def few18 (x_ : GActor) : Bool :=
  (match few18_L0 x_ ((min x_.Cools.length 100) - 0) 0 with
    | .inl r_ => r_
    | .inr () => if (x_.Auras.length : Int) ≤ 40 then (decide ((x_.Cools.length : Int) ≤ 60)) else false)
theorem few18_ok (x_ : GActor) : Ok Try.prog 6 [aGActor x_] [] (B (few18 x_)) [] [] := by
 refine Ok.len fun hlen => ?_
 have hl_x__Auras : x_.Auras.length ≤ maxLen := hlen _ (by simp [lensL, lens, lensP])
 have hl_x__Cools : x_.Cools.length ≤ maxLen := hlen _ (by simp [lensL, lens, lensP])
 unfold maxLen at hl_x__Auras hl_x__Cools
 refine ok_of_sem Try.func6 rfl ?_
 show Walks Try.prog _ _ ⟨[(0, aGActor x_)], [], 0, [], 33, 0⟩
 refine sem_seq (sem_region rfl (step_n (o := .box [_, _, _, _, _, _, _, _, _, _, _, _, _, _, _, _, _, _, _, _, _, _]) (nx' := 1) rfl rfl rfl trivial (step_r rfl rfl trivial (step_nil (seqK_n (sem_seq (sem_seq (sem_region rfl (step_r rfl rfl trivial (step_nil (seqK_n ?_)))))))))))
 refine sem_cutW (fun w_ : Unit => match w_ with | () => (⟨[(1, .ptr 0 0)], [(0, .box [I x_.Unit.Id, I x_.Unit.Kind, I x_.Unit.Group, I x_.Unit.Health, I x_.Unit.MaxHealth, I x_.Unit.Power, I x_.Unit.MaxPower, I x_.Unit.At.X, I x_.Unit.At.Y, I x_.Unit.Casting, .pv (.str x_.Name), .pv (.slc x_.Auras.length false (x_.Auras.flatMap encGActive)), .pv (.slc x_.Cools.length false (x_.Cools.flatMap encGCool)), I x_.Casting.Now.Ability, I x_.Casting.Now.Target, I x_.Casting.Now.Since, I x_.Casting.Now.Until, I x_.Casting.Next.Ability, I x_.Casting.Next.Target, I x_.Casting.Next.Since, I x_.Casting.Next.Until, I x_.Casting.Wait])], 1, [], 33, 0⟩ : St)) (fun w_ => few18_L0 x_ ((min x_.Cools.length 100) - 0) 0 = .inr w_) ?_ ?_
 ·refine sem_block ?_
  refine sem_loopT (fun k0 : Nat => (⟨[(1, .ptr 0 0), (3, I k0)], [(0, .box [I x_.Unit.Id, I x_.Unit.Kind, I x_.Unit.Group, I x_.Unit.Health, I x_.Unit.MaxHealth, I x_.Unit.Power, I x_.Unit.MaxPower, I x_.Unit.At.X, I x_.Unit.At.Y, I x_.Unit.Casting, .pv (.str x_.Name), .pv (.slc x_.Auras.length false (x_.Auras.flatMap encGActive)), .pv (.slc x_.Cools.length false (x_.Cools.flatMap encGCool)), I x_.Casting.Now.Ability, I x_.Casting.Now.Target, I x_.Casting.Now.Since, I x_.Casting.Now.Until, I x_.Casting.Next.Ability, I x_.Casting.Next.Target, I x_.Casting.Next.Since, I x_.Casting.Next.Until, I x_.Casting.Wait])], 1, [], 33, 0⟩ : St)) (fun k0 : Nat => few18_L0 x_ ((min x_.Cools.length 100) - k0) k0 = few18_L0 x_ ((min x_.Cools.length 100) - 0) 0 ∧ k0 ≤ min x_.Cools.length 100) (fun k0 : Nat => min x_.Cools.length 100 - k0) 0 (⟨rfl, (by first | omega | (simp; omega))⟩) ?_ (fun k0 hh_ => ?_)
  ·exact (Trans.ren [] (by decide +kernel) (by decide +kernel) rfl ⟨⟨rfl, rfl⟩, ⟨rfl, rfl⟩, trivial⟩ ⟨⟨rfl, rfl, rfl⟩, trivial⟩ (by decide))
  obtain ⟨hI0, hb0⟩ := hh_
  show Walks Try.prog _ _ (⟨[(1, .ptr 0 0), (3, I k0)], [(0, .box [I x_.Unit.Id, I x_.Unit.Kind, I x_.Unit.Group, I x_.Unit.Health, I x_.Unit.MaxHealth, I x_.Unit.Power, I x_.Unit.MaxPower, I x_.Unit.At.X, I x_.Unit.At.Y, I x_.Unit.Casting, .pv (.str x_.Name), .pv (.slc x_.Auras.length false (x_.Auras.flatMap encGActive)), .pv (.slc x_.Cools.length false (x_.Cools.flatMap encGCool)), I x_.Casting.Now.Ability, I x_.Casting.Now.Target, I x_.Casting.Now.Since, I x_.Casting.Now.Until, I x_.Casting.Next.Ability, I x_.Casting.Next.Target, I x_.Casting.Next.Since, I x_.Casting.Next.Until, I x_.Casting.Wait])], 1, [], 33, 0⟩ : St)
  refine sem_seq (sem_seq (sem_region rfl (step_r rfl rfl trivial (step_r rfl rfl (by decide) (step_r rfl rfl trivial (step_r rfl rfl trivial (step_bin rfl rfl rfl rfl rfl trivial (step_r rfl rfl trivial ?_))))))))
  refine step_gs rfl (fun h4 => ?_) (fun h4 => ?_)
  ·have g4 : (k0 : Int) < x_.Cools.length := of_decide_eq_true h4
   refine step_g1 rfl h4 (step_r rfl rfl trivial (step_g1 rfl h4 (step_bin rfl rfl rfl rfl rfl trivial (step_pickT rfl h4 rfl rfl (step_nil (seqK_n ?_))))))
   refine sem_cond rfl (fun h6 => ?_) (fun h6 => ?_)
   ·have g6 : (k0 : Int) < 100 := of_decide_eq_true h6
    have hm0 : min x_.Cools.length 100 - k0 = (min x_.Cools.length 100 - (k0 + 1)) + 1 := by omega
    refine sem_skip (seqK_n (sem_seq (sem_block (sem_seq (sem_region rfl (step_r rfl rfl (by decide) (step_r rfl rfl trivial (step_r rfl rfl trivial ?_))))))))
    have jk7 : k0 < x_.Cools.length := by first | assumption | omega | (simp only [List.length_set, List.length_append]; omega) | (simp only [IntKind.wrap_i64] at *; omega) | (simp; omega) | simp_all
    refine step_idxS (k := k0) rfl rfl rfl rfl jk7 (flat_ne (s := 2) (enc := encGCool) (fun _ => rfl) (by decide) jk7) rfl (step_r rfl rfl (by decide) (step_load_one rfl rfl rfl (flat_get (s := 2) (enc := encGCool) (fun _ => rfl) (get_getD jk7) (o := 1) rfl (by decide)) rfl (step_r rfl rfl trivial (step_bin rfl rfl rfl rfl rfl trivial (step_nil (seqK_n ?_))))))
    refine sem_cond rfl (fun h8 => ?_) (fun h8 => ?_)
    ·have g8 : ((x_.Cools.getD k0 default).Back.length : Int) > 200 := of_decide_eq_true h8
     refine sem_seq (sem_region rfl (step_r rfl rfl trivial (step_nil (seqK_n (sem_ret (blkK_r (seqK_r (lupK_r (blkK_r (cutW_r (seqK_r ?_)))))))))))
     have e9 : few18_L0 x_ ((min x_.Cools.length 100) - 0) 0 = .inl false := by
      rewrite [← hI0, hm0]
      rewrite [few18_L0]
      try dsimp only
      rewrite [if_pos g8]
      all_goals rfl
     have e10 : few18 x_ = false := by
      unfold few18
      try dsimp only
      rewrite [e9]
      try dsimp only
      all_goals rfl
     rw [e10]
     exact answersR rfl ⟨trivial, trivial⟩ (rfl) rfl
    ·have g8 : ¬ (((x_.Cools.getD k0 default).Back.length : Int) > 200) := of_decide_eq_false h8
     refine sem_skip (blkK_n (seqK_n (sem_region rfl (step_r rfl rfl trivial (step_bin rfl rfl rfl rfl rfl trivial (step_r rfl rfl trivial (step_nil ?_)))))))
     have e12 : few18_L0 x_ ((min x_.Cools.length 100) - k0) k0 = few18_L0 x_ ((min x_.Cools.length 100) - (k0 + 1)) (k0 + 1) := by
      rewrite [hm0]
      rewrite [few18_L0]
      try dsimp only
      rewrite [if_neg g8]
      all_goals rfl
     exact lup_againT (k0 + 1) ⟨e12.symm.trans hI0, (by omega)⟩ (by show min x_.Cools.length 100 - (k0 + 1) < min x_.Cools.length 100 - k0; omega) (Trans.ren [] (by decide +kernel) (by decide +kernel) rfl ⟨⟨rfl, rfl⟩, ⟨congrArg (fun n => some (I n)) (wrapI (k := k0) (by first | omega | (simp; omega))), rfl⟩, trivial⟩ ⟨⟨rfl, rfl, rfl⟩, trivial⟩ (by decide))
   ·have g6 : ¬ ((k0 : Int) < 100) := of_decide_eq_false h6
    have hm0 : min x_.Cools.length 100 - k0 = 0 := by omega
    refine sem_exit (seqK_e (lupK_e (blkK_t rfl ?_)))
    have e13 : few18_L0 x_ ((min x_.Cools.length 100) - 0) 0 = .inr () := by
     rewrite [← hI0, hm0]
     rewrite [few18_L0]
     try dsimp only
     all_goals rfl
    exact cutW_n () e13 (Trans.ren [] (by decide +kernel) (by decide +kernel) rfl ⟨⟨rfl, rfl⟩, trivial⟩ ⟨⟨rfl, rfl, rfl⟩, trivial⟩ (by decide))
  ·have g4 : ¬ ((k0 : Int) < x_.Cools.length) := of_decide_eq_false h4
   refine step_g0 rfl h4 rfl (step_g0 rfl h4 rfl (step_pickF rfl h4 rfl rfl (step_nil (seqK_n (sem_condF rfl ?_)))))
   have hm0 : min x_.Cools.length 100 - k0 = 0 := by omega
   refine sem_exit (seqK_e (lupK_e (blkK_t rfl ?_)))
   have e14 : few18_L0 x_ ((min x_.Cools.length 100) - 0) 0 = .inr () := by
    rewrite [← hI0, hm0]
    rewrite [few18_L0]
    try dsimp only
    all_goals rfl
   exact cutW_n () e14 (Trans.ren [] (by decide +kernel) (by decide +kernel) rfl ⟨⟨rfl, rfl⟩, trivial⟩ ⟨⟨rfl, rfl, rfl⟩, trivial⟩ (by decide))
 ·rintro ⟨⟩ (hJ1 : few18_L0 x_ ((min x_.Cools.length 100) - 0) 0 = .inr ())
  show seqK _ _ _ .normal (⟨[(1, .ptr 0 0)], [(0, .box [I x_.Unit.Id, I x_.Unit.Kind, I x_.Unit.Group, I x_.Unit.Health, I x_.Unit.MaxHealth, I x_.Unit.Power, I x_.Unit.MaxPower, I x_.Unit.At.X, I x_.Unit.At.Y, I x_.Unit.Casting, .pv (.str x_.Name), .pv (.slc x_.Auras.length false (x_.Auras.flatMap encGActive)), .pv (.slc x_.Cools.length false (x_.Cools.flatMap encGCool)), I x_.Casting.Now.Ability, I x_.Casting.Now.Target, I x_.Casting.Now.Since, I x_.Casting.Now.Until, I x_.Casting.Next.Ability, I x_.Casting.Next.Target, I x_.Casting.Next.Since, I x_.Casting.Next.Until, I x_.Casting.Wait])], 1, [], 33, 0⟩ : St)
  refine seqK_n (sem_seq (sem_region rfl (step_r rfl rfl (by decide) (step_r rfl rfl trivial (step_r rfl rfl trivial (step_bin rfl rfl rfl rfl rfl trivial (step_r rfl rfl trivial ?_)))))))
  refine step_gs rfl (fun h16 => ?_) (fun h16 => ?_)
  ·have g16 : (x_.Auras.length : Int) ≤ 40 := of_decide_eq_true h16
   refine step_g1 rfl h16 (step_r rfl rfl (by decide) (step_g1 rfl h16 (step_r rfl rfl trivial (step_g1 rfl h16 (step_r rfl rfl trivial (step_g1 rfl h16 (step_bin rfl rfl rfl rfl rfl trivial (step_pickT rfl h16 rfl rfl (step_r rfl rfl trivial (step_nil (seqK_n ?_)))))))))))
   refine sem_ret ?_
   have e18 : few18 x_ = (decide ((x_.Cools.length : Int) ≤ 60)) := by
    unfold few18
    try dsimp only
    rewrite [hJ1]
    try dsimp only
    rewrite [if_pos g16]
    all_goals rfl
   rw [e18]
   exact answersR rfl ⟨trivial, trivial⟩ (rfl) rfl
  ·have g16 : ¬ ((x_.Auras.length : Int) ≤ 40) := of_decide_eq_false h16
   refine step_g0 rfl h16 rfl (step_g0 rfl h16 rfl (step_g0 rfl h16 rfl (step_g0 rfl h16 rfl (step_pickF rfl h16 rfl rfl (step_r rfl rfl trivial (step_nil (seqK_n (sem_ret ?_))))))))
   have e19 : few18 x_ = false := by
    unfold few18
    try dsimp only
    rewrite [hJ1]
    try dsimp only
    rewrite [if_neg g16]
    all_goals rfl
   rw [e19]
   exact answersR rfl ⟨trivial, trivial⟩ (rfl) rfl

theorem few18_go (x : GActor) : ∀ (n k : Nat), few18_L0 x n k = .inr () → ∀ i, i < n → (x.Cools.getD (k + i) default).Back.length ≤ 200
  | 0, k, _, i, hi => by omega
  | n + 1, k, h, i, hi => by
    rw [few18_L0] at h
    split at h
    · cases h
    · cases i with
      | zero => simp only [Nat.add_zero]; omega
      | succ i => have := few18_go x n (k + 1) h i (by omega); rwa [show k + (i + 1) = k + 1 + i by omega]
theorem few18_no (x : GActor) (b : Bool) : ∀ (n k : Nat), few18_L0 x n k = .inl b → b = false
  | 0, k, h => by rw [few18_L0] at h; cases h
  | n + 1, k, h => by
    rw [few18_L0] at h
    split at h
    · cases h; rfl
    · exact few18_no x b n _ h
theorem few18_of {x : GActor} (h : few18 x = true) : FewX x := by
  unfold few18 at h
  split at h
  · rename_i b hb; have := few18_no _ _ _ _ hb; simp [this] at h
  · rename_i hb
    split at h
    case isFalse => cases h
    have h9 := of_decide_eq_true h
    refine ⟨by omega, by omega, fun j => ?_⟩
    by_cases hj : j < x.Cools.length
    · have := few18_go _ _ _ hb j (by omega); rwa [Nat.zero_add] at this
    · rw [List.getD_eq_getElem?_getD, List.getElem?_eq_none (by omega)]; exact Nat.zero_le _
theorem FewX.keep {x y : GActor} (h : FewX x) (hc : y.Cools = x.Cools) (ha : y.Auras.length ≤ max x.Auras.length 16) : FewX y :=
  ⟨by have := h.au; omega, by rw [hc]; exact h.co, fun j => by rw [hc]; exact h.ba j⟩
theorem layD_is (d : Gdoer) (x : Gactor) (e : GEffect) : (layD d x e).2 = (layD_J14 d x e).1 := rfl
theorem layD_keep (d : Gdoer) (x : Gactor) (e : GEffect) : (layD d x e).2.Actor.Cools = x.Actor.Cools ∧ (layD d x e).2.Actor.Auras.length ≤ max x.Actor.Auras.length 16 := by
  rw [layD_is]
  unfold layD_J14
  split
  · exact ⟨rfl, (apply15_len _ _ _ _ _).2⟩
  · exact ⟨rfl, Nat.le_max_left _ _⟩
theorem doX_keep (c : GContent) (from_ to : GActor) (e : GEffect) (now : Int) : (doX c from_ to e now).1.Cools = to.Cools ∧ (doX c from_ to e now).1.Auras.length ≤ max to.Auras.length 16 := by
  unfold doX doX_J22
  rw [ofX_is]
  split
  rename_i x b hx
  split at hx
  · repeat' split at hx
    · cases hx; exact ⟨rfl, Nat.le_trans (take15_len _ _ _) (Nat.le_max_left _ _)⟩
    · cases hx; exact ⟨rfl, Nat.le_max_left _ _⟩
    · cases hx; exact ⟨rfl, Nat.le_max_left _ _⟩
    · cases hx; exact layD_keep _ _ _
    · cases hx; exact ⟨rfl, Nat.le_trans (dispel15_len _ _ _).1 (Nat.le_max_left _ _)⟩
    · cases hx; exact ⟨rfl, Nat.le_max_left _ _⟩
  · cases hx; exact ⟨rfl, Nat.le_max_left _ _⟩
theorem doX_few {c : GContent} {from_ to : GActor} {e : GEffect} {now : Int} (h : FewX to) : FewX (doX c from_ to e now).1 := h.keep (doX_keep ..).1 (doX_keep ..).2
theorem tickX_cools (x : Gactor) (a : GAura) (n : Int) : (tickX x a n).2.2.Actor.Cools = x.Actor.Cools := by
  unfold tickX; split
  · rfl
  · split <;> rfl
theorem tickE_go (c : GContent) : ∀ (l : List GActive) (k : Nat) (out : List GBlow) (x : Gactor), (tickE_L0 c l k out x).2.Actor.Cools = x.Actor.Cools ∧ (tickE_L0 c l k out x).2.Actor.Auras.length ≤ x.Actor.Auras.length
  | [], k, out, x => by rw [tickE_L0]; exact ⟨rfl, Nat.le_refl _⟩
  | y :: l, k, out, x => by
    rw [tickE_L0]
    split
    · exact ⟨rfl, Nat.le_refl _⟩
    · have h0 := tickX_auras x (getU c y.Aura).1 y.Stacks
      have h1 := tickX_cools x (getU c y.Aura).1 y.Stacks
      split <;> exact ⟨(tickE_go c l _ _ _).1.trans h1, Nat.le_trans (tickE_go c l _ _ _).2 h0⟩
theorem tickE_few {c : GContent} {to : GActor} {now : Int} (h : FewX to) : FewX (tickE c to now).1 := by
  unfold tickE
  rw [ofX_is]
  split
  · have g := tickE_go c (tick15 c to.Auras now).2 0 [] ⟨⟨to.Unit, to.Name, (tick15 c to.Auras now).1, to.Cools, to.Casting⟩, c⟩
    split
    rename_i out x hx
    simp only [hx] at g
    refine h.keep g.1 ?_
    have := (expire15_len x.Actor.Auras now).1
    have := (tick15_len c to.Auras now).1
    simp only [] at *
    omega
  · exact h.keep rfl (Nat.le_max_left _ _)
theorem few_lit {x : GActor} (h1 : x.Auras.length ≤ 100) (h2 : x.Cools = []) : FewX x := ⟨h1, by rw [h2]; exact Nat.zero_le _, fun j => by rw [h2]; exact Nat.zero_le _⟩

def hero18 (health : Int) (l : List GActive) : GActor :=
  (⟨(⟨1, 1, 0, health, 20, 0, 0, (⟨0, 0⟩ : GPos), 0⟩ : GUnit), [], l, [], (⟨(⟨0, 0, 0, 0⟩ : GCast), (⟨0, 0, 0, 0⟩ : GCast), 0⟩ : GCasting)⟩ : GActor)
theorem hero18_ok (health : Int) (l : List GActive) (l_f : Bool) : Ok Try.prog 11 [I health, .pv (.slc l.length l_f (l.flatMap encGActive))] [] (aGActor (hero18 health l)) [] [] := by
 refine Ok.len fun hlen => ?_
 have hl_l : l.length ≤ maxLen := hlen _ (by simp [lensL, lens, lensP])
 unfold maxLen at hl_l
 refine ok_of_sem Try.func11 rfl ?_
 show Walks Try.prog _ _ ⟨[(0, I health), (1, .pv (.slc l.length l_f (l.flatMap encGActive)))], [], 0, [], 9, 0⟩
 refine sem_seq (sem_region rfl (step_n (o := .box [_, _, _, _, _, _, _, _, _, _, _, _, _, _, _, _, _, _, _, _, _, _]) (nx' := 1) rfl rfl rfl trivial (step_nil (seqK_n (sem_seq (sem_region rfl (step_r rfl rfl trivial (step_r (v := (.agg [_, _, _, _, _, _, _, _, _, _])) rfl rfl trivial (step_r rfl rfl trivial (step_r (v := (.agg [_, _, _, _, _, _, _, _, _, _, _, _, _, _, _, _, _, _, _, _, _, _])) rfl rfl trivial ?_))))))))))
 refine step_storeB (H' := [(0, .box [_, _, _, _, _, _, _, _, _, _, _, _, _, _, _, _, _, _, _, _, _, _])]) rfl rfl rfl rfl rfl rfl (.inl rfl) rfl ?_
 refine step_nil (seqK_n ?_)
 refine sem_trans (Trans.loose (T' := [(4, .ptr 0 0)]) (H' := [(0, .box [I 1, I 1, I 0, I health, I 20, I 0, I 0, I 0, I 0, I 0, .pv (.str []), .pv (.slc l.length false (l.flatMap encGActive)), .pv (.slc 0 false []), I 0, I 0, I 0, I 0, I 0, I 0, I 0, I 0, I 0])]) ⟨⟨_, rfl, .inl rfl⟩, trivial⟩ ⟨⟨_, rfl, .inr rfl⟩, trivial⟩) ?_
 refine sem_ret ?_
 have e2 : hero18 health l = (⟨(⟨1, 1, 0, health, 20, 0, 0, (⟨0, 0⟩ : GPos), 0⟩ : GUnit), [], l, [], (⟨(⟨0, 0, 0, 0⟩ : GCast), (⟨0, 0, 0, 0⟩ : GCast), 0⟩ : GCasting)⟩ : GActor) := by
  unfold hero18
  try dsimp only
  all_goals rfl
 rw [e2]
 exact answersR rfl ⟨Nat.le_of_ble_eq_true rfl, trivial⟩ (rfl) rfl

def small18 : Bool :=
  if (((doX (⟨[], [(⟨1, 5, 9, 0, 1, 3, false⟩ : GAura), (⟨2, 1, 9, 1, 2, 4, false⟩ : GAura)], [], (⟨0, 0, []⟩ : GGrid), (⟨0, 0⟩ : GPos), (⟨0, 0⟩ : GPos)⟩ : GContent) (hero18 9 ([])) (hero18 6 ([(⟨1, 0, 1, 9, 0, 3⟩ : GActive)])) (⟨1, 10, 0⟩ : GEffect) 0).1).Unit.Health : Int) = 0 then (if (((doX (⟨[], [(⟨1, 5, 9, 0, 1, 3, false⟩ : GAura), (⟨2, 1, 9, 1, 2, 4, false⟩ : GAura)], [], (⟨0, 0, []⟩ : GGrid), (⟨0, 0⟩ : GPos), (⟨0, 0⟩ : GPos)⟩ : GContent) (hero18 9 ([])) (hero18 6 ([(⟨1, 0, 1, 9, 0, 3⟩ : GActive)])) (⟨1, 10, 0⟩ : GEffect) 0).1).Auras.length : Int) = 0 then (if (((((doX (⟨[], [(⟨1, 5, 9, 0, 1, 3, false⟩ : GAura), (⟨2, 1, 9, 1, 2, 4, false⟩ : GAura)], [], (⟨0, 0, []⟩ : GGrid), (⟨0, 0⟩ : GPos), (⟨0, 0⟩ : GPos)⟩ : GContent) (hero18 9 ([])) (hero18 6 ([(⟨1, 0, 1, 9, 0, 3⟩ : GActive)])) (⟨1, 10, 0⟩ : GEffect) 0).2).Kind) == 1) && (((((doX (⟨[], [(⟨1, 5, 9, 0, 1, 3, false⟩ : GAura), (⟨2, 1, 9, 1, 2, 4, false⟩ : GAura)], [], (⟨0, 0, []⟩ : GGrid), (⟨0, 0⟩ : GPos), (⟨0, 0⟩ : GPos)⟩ : GContent) (hero18 9 ([])) (hero18 6 ([(⟨1, 0, 1, 9, 0, 3⟩ : GActive)])) (⟨1, 10, 0⟩ : GEffect) 0).2).Aura) == 0) && (((((doX (⟨[], [(⟨1, 5, 9, 0, 1, 3, false⟩ : GAura), (⟨2, 1, 9, 1, 2, 4, false⟩ : GAura)], [], (⟨0, 0, []⟩ : GGrid), (⟨0, 0⟩ : GPos), (⟨0, 0⟩ : GPos)⟩ : GContent) (hero18 9 ([])) (hero18 6 ([(⟨1, 0, 1, 9, 0, 3⟩ : GActive)])) (⟨1, 10, 0⟩ : GEffect) 0).2).Amount) == 10) && (((((doX (⟨[], [(⟨1, 5, 9, 0, 1, 3, false⟩ : GAura), (⟨2, 1, 9, 1, 2, 4, false⟩ : GAura)], [], (⟨0, 0, []⟩ : GGrid), (⟨0, 0⟩ : GPos), (⟨0, 0⟩ : GPos)⟩ : GContent) (hero18 9 ([])) (hero18 6 ([(⟨1, 0, 1, 9, 0, 3⟩ : GActive)])) (⟨1, 10, 0⟩ : GEffect) 0).2).Kept) == 3) && (((((doX (⟨[], [(⟨1, 5, 9, 0, 1, 3, false⟩ : GAura), (⟨2, 1, 9, 1, 2, 4, false⟩ : GAura)], [], (⟨0, 0, []⟩ : GGrid), (⟨0, 0⟩ : GPos), (⟨0, 0⟩ : GPos)⟩ : GContent) (hero18 9 ([])) (hero18 6 ([(⟨1, 0, 1, 9, 0, 3⟩ : GActive)])) (⟨1, 10, 0⟩ : GEffect) 0).2).Done) == 6) && true))))) = true then (if (((doX (⟨[], [(⟨1, 5, 9, 0, 1, 3, false⟩ : GAura), (⟨2, 1, 9, 1, 2, 4, false⟩ : GAura)], [], (⟨0, 0, []⟩ : GGrid), (⟨0, 0⟩ : GPos), (⟨0, 0⟩ : GPos)⟩ : GContent) (hero18 9 ([])) (hero18 6 ([])) (⟨2, 3, 0⟩ : GEffect) 0).1).Unit.Health : Int) = 9 then (if (((doX (⟨[], [(⟨1, 5, 9, 0, 1, 3, false⟩ : GAura), (⟨2, 1, 9, 1, 2, 4, false⟩ : GAura)], [], (⟨0, 0, []⟩ : GGrid), (⟨0, 0⟩ : GPos), (⟨0, 0⟩ : GPos)⟩ : GContent) (hero18 9 ([])) (hero18 6 ([])) (⟨2, 3, 0⟩ : GEffect) 0).2).Done : Int) = 3 then (if (((tickE (⟨[], [(⟨1, 5, 9, 0, 1, 3, false⟩ : GAura), (⟨2, 1, 9, 1, 2, 4, false⟩ : GAura)], [], (⟨0, 0, []⟩ : GGrid), (⟨0, 0⟩ : GPos), (⟨0, 0⟩ : GPos)⟩ : GContent) (hero18 9 ([(⟨2, 0, 2, 5, 3, 0⟩ : GActive)])) 5).1).Unit.Health : Int) = 1 then (if (((tickE (⟨[], [(⟨1, 5, 9, 0, 1, 3, false⟩ : GAura), (⟨2, 1, 9, 1, 2, 4, false⟩ : GAura)], [], (⟨0, 0, []⟩ : GGrid), (⟨0, 0⟩ : GPos), (⟨0, 0⟩ : GPos)⟩ : GContent) (hero18 9 ([(⟨2, 0, 2, 5, 3, 0⟩ : GActive)])) 5).1).Auras.length : Int) = 0 then (if ((tickE (⟨[], [(⟨1, 5, 9, 0, 1, 3, false⟩ : GAura), (⟨2, 1, 9, 1, 2, 4, false⟩ : GAura)], [], (⟨0, 0, []⟩ : GGrid), (⟨0, 0⟩ : GPos), (⟨0, 0⟩ : GPos)⟩ : GContent) (hero18 9 ([(⟨2, 0, 2, 5, 3, 0⟩ : GActive)])) 5).2.length : Int) = 1 then (if ((((tickE (⟨[], [(⟨1, 5, 9, 0, 1, 3, false⟩ : GAura), (⟨2, 1, 9, 1, 2, 4, false⟩ : GAura)], [], (⟨0, 0, []⟩ : GGrid), (⟨0, 0⟩ : GPos), (⟨0, 0⟩ : GPos)⟩ : GContent) (hero18 9 ([(⟨2, 0, 2, 5, 3, 0⟩ : GActive)])) 5).2).getD 0 default).Aura : Int) = 2 then (sameX ((doX (⟨[], [(⟨1, 5, 9, 0, 1, 3, false⟩ : GAura), (⟨2, 1, 9, 1, 2, 4, false⟩ : GAura)], [], (⟨0, 0, []⟩ : GGrid), (⟨0, 0⟩ : GPos), (⟨0, 0⟩ : GPos)⟩ : GContent) (hero18 9 ([])) (hero18 6 ([])) (⟨2, 3, 0⟩ : GEffect) 0).1) (copyX ((doX (⟨[], [(⟨1, 5, 9, 0, 1, 3, false⟩ : GAura), (⟨2, 1, 9, 1, 2, 4, false⟩ : GAura)], [], (⟨0, 0, []⟩ : GGrid), (⟨0, 0⟩ : GPos), (⟨0, 0⟩ : GPos)⟩ : GContent) (hero18 9 ([])) (hero18 6 ([])) (⟨2, 3, 0⟩ : GEffect) 0).1))) else false) else false) else false) else false) else false) else false) else false) else false) else false
theorem small18_ok  : Ok Try.prog 4 [] [] (B (small18)) [] [] := by
 refine ok_of_sem Try.func4 rfl ?_
 show Walks Try.prog _ _ ⟨[], [], 0, [], 94, 0⟩
 refine sem_seq (sem_region rfl (step_r rfl rfl trivial (step_nil (seqK_n (sem_seq (sem_region rfl (step_r (v := (.agg [_, _, _, _, _, _, _])) rfl rfl trivial (step_r (v := (.agg [_, _, _, _, _, _, _])) rfl rfl trivial ?_))))))))
 refine step_nF (cs := [_, _, _, _, _, _, _, _, _, _, _, _, _, _]) (n := 2) (nx' := 1) rfl rfl rfl (by decide) rfl ?_
 refine step_r (v := (.agg [_, _, _, _, _, _, _, _, _, _])) rfl rfl trivial (step_n (o := .box [_, _, _, _, _, _, _, _, _, _]) (nx' := 2) rfl rfl rfl trivial ?_)
 refine step_storeB (H' := [(1, .box [_, _, _, _, _, _, _, _, _, _])]) rfl rfl rfl rfl rfl rfl (.inl rfl) rfl ?_
 refine step_nil (seqK_n (sem_seq ?_))
 refine sem_drawnE [(12, 9)] rfl (by decide +kernel) (by decide +kernel) rfl ?_
 refine step_r (v := (.agg [_, _, _, _, _, _, _, _, _, _])) rfl rfl (Nat.le_of_ble_eq_true rfl) ?_
 refine step_callN (H' := [(1, _)]) (nx' := 2) rfl rfl rfl rfl rfl rfl rfl (by (repeat' apply And.intro) <;> first | trivial | rfl | exact flat_len (fun _ => rfl) _ | exact encI_len _ | exact Nat.le_of_ble_eq_true rfl | assumption) (hero18_ok 9 ([]) false) rfl rfl rfl rfl ?_
 refine step_r (v := (.agg [_, _, _, _, _, _])) rfl rfl trivial ?_
 refine step_nF (cs := [_, _, _, _, _, _]) (n := 1) (nx' := 3) rfl rfl rfl (by decide) rfl ?_
 refine step_call rfl rfl rfl rfl (hero18_ok 6 ([(⟨1, 0, 1, 9, 0, 3⟩ : GActive)]) false) rfl rfl rfl (step_r (v := (.agg [_, _, _])) rfl rfl trivial ?_)
 refine step_callN (out' := .tup [(.agg [_, _, _, _, _, _, _, _, _, _, _, _, _, _, _, _, _, _, _, _, _, _]), (.agg [_, _, _, _, _])]) (H' := [(1, _)]) (nx' := 3) rfl rfl rfl rfl rfl rfl rfl (by (repeat' apply And.intro) <;> first | trivial | rfl | exact flat_len (fun _ => rfl) _ | exact encI_len _ | exact Nat.le_of_ble_eq_true rfl | assumption) (doX_ok (⟨[], [(⟨1, 5, 9, 0, 1, 3, false⟩ : GAura), (⟨2, 1, 9, 1, 2, 4, false⟩ : GAura)], [], (⟨0, 0, []⟩ : GGrid), (⟨0, 0⟩ : GPos), (⟨0, 0⟩ : GPos)⟩ : GContent) (hero18 9 ([])) (hero18 6 ([(⟨1, 0, 1, 9, 0, 3⟩ : GActive)])) (⟨1, 10, 0⟩ : GEffect) 0 (by first | assumption | exact few_lit (Nat.le_of_ble_eq_true rfl) rfl | exact FewX.keep (x := to) (by assumption) rfl (Nat.le_max_left _ _))) rfl rfl rfl rfl ?_
 have p1 := doX_few (c := (⟨[], [(⟨1, 5, 9, 0, 1, 3, false⟩ : GAura), (⟨2, 1, 9, 1, 2, 4, false⟩ : GAura)], [], (⟨0, 0, []⟩ : GGrid), (⟨0, 0⟩ : GPos), (⟨0, 0⟩ : GPos)⟩ : GContent)) (from_ := (hero18 9 ([]))) (to := (hero18 6 ([(⟨1, 0, 1, 9, 0, 3⟩ : GActive)]))) (e := (⟨1, 10, 0⟩ : GEffect)) (now := 0) (by first | assumption | exact few_lit (Nat.le_of_ble_eq_true rfl) rfl | exact FewX.keep (x := to) (by assumption) rfl (Nat.le_max_left _ _))
 refine step_r rfl rfl trivial (step_r rfl rfl trivial (step_r rfl rfl trivial (step_n (o := .box [_, _, _, _, _, _, _, _, _, _, _, _, _, _, _, _, _, _, _, _, _, _]) (nx' := 4) rfl rfl rfl trivial (step_n (o := .box [_, _, _, _, _]) (nx' := 5) rfl rfl rfl trivial ?_))))
 refine step_storeB (H' := [(4, _), (3, .box [_, _, _, _, _, _, _, _, _, _, _, _, _, _, _, _, _, _, _, _, _, _]), (1, _)]) rfl rfl rfl rfl rfl rfl (.inr (by decide +kernel)) rfl ?_
 refine step_storeB (H' := [(4, .box [_, _, _, _, _]), (3, _), (1, _)]) rfl rfl rfl rfl rfl rfl (.inr (by decide +kernel)) rfl ?_
 refine step_nil (seqK_n (sem_seq ?_))
 refine sem_drawnE [(10, 7)] rfl (by decide +kernel) (by decide +kernel) rfl ?_
 refine step_r (v := (.agg [_, _, _, _, _, _, _, _, _, _])) rfl rfl (Nat.le_of_ble_eq_true rfl) ?_
 refine step_callN (H' := [(4, _), (3, _), (1, _)]) (nx' := 5) rfl rfl rfl rfl rfl rfl rfl (by (repeat' apply And.intro) <;> first | trivial | rfl | exact flat_len (fun _ => rfl) _ | exact encI_len _ | exact Nat.le_of_ble_eq_true rfl | assumption) (hero18_ok 9 ([]) false) rfl rfl rfl rfl ?_
 refine step_callN (H' := [(4, _), (3, _), (1, _)]) (nx' := 5) rfl rfl rfl rfl rfl rfl rfl (by (repeat' apply And.intro) <;> first | trivial | rfl | exact flat_len (fun _ => rfl) _ | exact encI_len _ | exact Nat.le_of_ble_eq_true rfl | assumption) (hero18_ok 6 ([]) false) rfl rfl rfl rfl ?_
 refine step_r (v := (.agg [_, _, _])) rfl rfl trivial ?_
 refine step_callN (out' := .tup [(.agg [_, _, _, _, _, _, _, _, _, _, _, _, _, _, _, _, _, _, _, _, _, _]), (.agg [_, _, _, _, _])]) (H' := [(4, _), (3, _), (1, _)]) (nx' := 5) rfl rfl rfl rfl rfl rfl rfl (by (repeat' apply And.intro) <;> first | trivial | rfl | exact flat_len (fun _ => rfl) _ | exact encI_len _ | exact Nat.le_of_ble_eq_true rfl | assumption) (doX_ok (⟨[], [(⟨1, 5, 9, 0, 1, 3, false⟩ : GAura), (⟨2, 1, 9, 1, 2, 4, false⟩ : GAura)], [], (⟨0, 0, []⟩ : GGrid), (⟨0, 0⟩ : GPos), (⟨0, 0⟩ : GPos)⟩ : GContent) (hero18 9 ([])) (hero18 6 ([])) (⟨2, 3, 0⟩ : GEffect) 0 (by first | assumption | exact few_lit (Nat.le_of_ble_eq_true rfl) rfl | exact FewX.keep (x := to) (by assumption) rfl (Nat.le_max_left _ _))) rfl rfl rfl rfl ?_
 have p2 := doX_few (c := (⟨[], [(⟨1, 5, 9, 0, 1, 3, false⟩ : GAura), (⟨2, 1, 9, 1, 2, 4, false⟩ : GAura)], [], (⟨0, 0, []⟩ : GGrid), (⟨0, 0⟩ : GPos), (⟨0, 0⟩ : GPos)⟩ : GContent)) (from_ := (hero18 9 ([]))) (to := (hero18 6 ([]))) (e := (⟨2, 3, 0⟩ : GEffect)) (now := 0) (by first | assumption | exact few_lit (Nat.le_of_ble_eq_true rfl) rfl | exact FewX.keep (x := to) (by assumption) rfl (Nat.le_max_left _ _))
 refine step_r rfl rfl trivial (step_r rfl rfl trivial (step_r rfl rfl trivial (step_n (o := .box [_, _, _, _, _, _, _, _, _, _, _, _, _, _, _, _, _, _, _, _, _, _]) (nx' := 6) rfl rfl rfl trivial (step_n (o := .box [_, _, _, _, _]) (nx' := 7) rfl rfl rfl trivial ?_))))
 refine step_storeB (H' := [(6, _), (5, .box [_, _, _, _, _, _, _, _, _, _, _, _, _, _, _, _, _, _, _, _, _, _]), (4, _), (3, _), (1, _)]) rfl rfl rfl rfl rfl rfl (.inr (by decide +kernel)) rfl ?_
 refine step_storeB (H' := [(6, .box [_, _, _, _, _]), (5, _), (4, _), (3, _), (1, _)]) rfl rfl rfl rfl rfl rfl (.inr (by decide +kernel)) rfl ?_
 refine step_nil (seqK_n (sem_seq ?_))
 refine sem_drawnE [(9, 7)] rfl (by decide +kernel) (by decide +kernel) rfl ?_
 refine step_r (v := (.agg [_, _, _, _, _, _, _, _, _, _])) rfl rfl (Nat.le_of_ble_eq_true rfl) (step_r (v := (.agg [_, _, _, _, _, _])) rfl rfl trivial ?_)
 refine step_nF (cs := [_, _, _, _, _, _]) (n := 1) (nx' := 8) rfl rfl rfl (by decide) rfl ?_
 refine step_call rfl rfl rfl rfl (hero18_ok 9 ([(⟨2, 0, 2, 5, 3, 0⟩ : GActive)]) false) rfl rfl rfl ?_
 refine step_callN (out' := .tup [(.agg [_, _, _, _, _, _, _, _, _, _, _, _, _, _, _, _, _, _, _, _, _, _]), .ref 8 _ _ _]) (H' := [(8, .row _ _ _), (6, _), (5, _), (4, _), (3, _), (1, _)]) (nx' := 9) rfl rfl rfl rfl rfl rfl rfl (by (repeat' apply And.intro) <;> first | trivial | rfl | exact flat_len (fun _ => rfl) _ | exact encI_len _ | exact Nat.le_of_ble_eq_true rfl | assumption) (tickE_ok (⟨[], [(⟨1, 5, 9, 0, 1, 3, false⟩ : GAura), (⟨2, 1, 9, 1, 2, 4, false⟩ : GAura)], [], (⟨0, 0, []⟩ : GGrid), (⟨0, 0⟩ : GPos), (⟨0, 0⟩ : GPos)⟩ : GContent) (hero18 9 ([(⟨2, 0, 2, 5, 3, 0⟩ : GActive)])) 5 (by first | assumption | exact few_lit (Nat.le_of_ble_eq_true rfl) rfl | exact FewX.keep (x := to) (by assumption) rfl (Nat.le_max_left _ _))) rfl rfl rfl rfl ?_
 have p3 := tickE_few (c := (⟨[], [(⟨1, 5, 9, 0, 1, 3, false⟩ : GAura), (⟨2, 1, 9, 1, 2, 4, false⟩ : GAura)], [], (⟨0, 0, []⟩ : GGrid), (⟨0, 0⟩ : GPos), (⟨0, 0⟩ : GPos)⟩ : GContent)) (to := (hero18 9 ([(⟨2, 0, 2, 5, 3, 0⟩ : GActive)]))) (now := 5) (by first | assumption | exact few_lit (Nat.le_of_ble_eq_true rfl) rfl | exact FewX.keep (x := to) (by assumption) rfl (Nat.le_max_left _ _))
 refine step_r rfl rfl trivial (step_r rfl rfl trivial (step_r rfl rfl trivial (step_n (o := .box [_, _, _, _, _, _, _, _, _, _, _, _, _, _, _, _, _, _, _, _, _, _]) (nx' := 10) rfl rfl rfl trivial ?_)))
 refine step_storeB (H' := [(9, .box [_, _, _, _, _, _, _, _, _, _, _, _, _, _, _, _, _, _, _, _, _, _]), (8, _), (6, _), (5, _), (4, _), (3, _), (1, _)]) rfl rfl rfl rfl rfl rfl (.inr (by decide +kernel)) rfl ?_
 refine step_r rfl rfl trivial (step_nil (seqK_n (sem_seq ?_)))
 refine sem_drawn rfl (by decide +kernel) rfl ?_
 refine step_r rfl rfl (by decide) (step_r rfl rfl (by decide) (step_r rfl rfl trivial (step_bin rfl rfl rfl rfl rfl trivial (step_r rfl rfl trivial ?_))))
 refine step_gs rfl (fun h5 => ?_) (fun h5 => ?_)
 ·have g5 : (((doX (⟨[], [(⟨1, 5, 9, 0, 1, 3, false⟩ : GAura), (⟨2, 1, 9, 1, 2, 4, false⟩ : GAura)], [], (⟨0, 0, []⟩ : GGrid), (⟨0, 0⟩ : GPos), (⟨0, 0⟩ : GPos)⟩ : GContent) (hero18 9 ([])) (hero18 6 ([(⟨1, 0, 1, 9, 0, 3⟩ : GActive)])) (⟨1, 10, 0⟩ : GEffect) 0).1).Unit.Health : Int) = 0 := beq_t h5
  refine step_g1 rfl h5 (step_r rfl rfl (by decide) (step_g1 rfl h5 (step_r rfl rfl trivial (step_g1 rfl h5 (step_r rfl rfl trivial (step_g1 rfl h5 (step_bin rfl rfl rfl rfl rfl trivial (step_pickT rfl h5 rfl rfl (step_r rfl rfl trivial ?_)))))))))
  refine step_gs rfl (fun h7 => ?_) (fun h7 => ?_)
  ·have g7 : (((doX (⟨[], [(⟨1, 5, 9, 0, 1, 3, false⟩ : GAura), (⟨2, 1, 9, 1, 2, 4, false⟩ : GAura)], [], (⟨0, 0, []⟩ : GGrid), (⟨0, 0⟩ : GPos), (⟨0, 0⟩ : GPos)⟩ : GContent) (hero18 9 ([])) (hero18 6 ([(⟨1, 0, 1, 9, 0, 3⟩ : GActive)])) (⟨1, 10, 0⟩ : GEffect) 0).1).Auras.length : Int) = 0 := beq_t h7
   refine step_g1 rfl h7 (step_r (v := (.agg [_, _, _, _, _])) rfl rfl (Nat.le_of_ble_eq_true rfl) (step_g1 rfl h7 (step_r (v := (.agg [_, _, _, _, _])) rfl rfl trivial (step_g1 rfl h7 ?_))))
   refine step_eqlA rfl rfl rfl (by kernel_rfl) rfl rfl rfl rfl rfl ?_
   refine step_pickT rfl h7 rfl rfl (step_r rfl rfl trivial ?_)
   refine step_gs rfl (fun h9 => ?_) (fun h9 => ?_)
   ·have g9 : (((((doX (⟨[], [(⟨1, 5, 9, 0, 1, 3, false⟩ : GAura), (⟨2, 1, 9, 1, 2, 4, false⟩ : GAura)], [], (⟨0, 0, []⟩ : GGrid), (⟨0, 0⟩ : GPos), (⟨0, 0⟩ : GPos)⟩ : GContent) (hero18 9 ([])) (hero18 6 ([(⟨1, 0, 1, 9, 0, 3⟩ : GActive)])) (⟨1, 10, 0⟩ : GEffect) 0).2).Kind) == 1) && (((((doX (⟨[], [(⟨1, 5, 9, 0, 1, 3, false⟩ : GAura), (⟨2, 1, 9, 1, 2, 4, false⟩ : GAura)], [], (⟨0, 0, []⟩ : GGrid), (⟨0, 0⟩ : GPos), (⟨0, 0⟩ : GPos)⟩ : GContent) (hero18 9 ([])) (hero18 6 ([(⟨1, 0, 1, 9, 0, 3⟩ : GActive)])) (⟨1, 10, 0⟩ : GEffect) 0).2).Aura) == 0) && (((((doX (⟨[], [(⟨1, 5, 9, 0, 1, 3, false⟩ : GAura), (⟨2, 1, 9, 1, 2, 4, false⟩ : GAura)], [], (⟨0, 0, []⟩ : GGrid), (⟨0, 0⟩ : GPos), (⟨0, 0⟩ : GPos)⟩ : GContent) (hero18 9 ([])) (hero18 6 ([(⟨1, 0, 1, 9, 0, 3⟩ : GActive)])) (⟨1, 10, 0⟩ : GEffect) 0).2).Amount) == 10) && (((((doX (⟨[], [(⟨1, 5, 9, 0, 1, 3, false⟩ : GAura), (⟨2, 1, 9, 1, 2, 4, false⟩ : GAura)], [], (⟨0, 0, []⟩ : GGrid), (⟨0, 0⟩ : GPos), (⟨0, 0⟩ : GPos)⟩ : GContent) (hero18 9 ([])) (hero18 6 ([(⟨1, 0, 1, 9, 0, 3⟩ : GActive)])) (⟨1, 10, 0⟩ : GEffect) 0).2).Kept) == 3) && (((((doX (⟨[], [(⟨1, 5, 9, 0, 1, 3, false⟩ : GAura), (⟨2, 1, 9, 1, 2, 4, false⟩ : GAura)], [], (⟨0, 0, []⟩ : GGrid), (⟨0, 0⟩ : GPos), (⟨0, 0⟩ : GPos)⟩ : GContent) (hero18 9 ([])) (hero18 6 ([(⟨1, 0, 1, 9, 0, 3⟩ : GActive)])) (⟨1, 10, 0⟩ : GEffect) 0).2).Done) == 6) && true))))) = true := h9
    refine step_g1 rfl h9 (step_r rfl rfl (by decide) (step_g1 rfl h9 (step_r rfl rfl (by decide) (step_g1 rfl h9 (step_r rfl rfl trivial (step_g1 rfl h9 (step_bin rfl rfl rfl rfl rfl trivial (step_pickT rfl h9 rfl rfl (step_r rfl rfl trivial ?_)))))))))
    refine step_gs rfl (fun h11 => ?_) (fun h11 => ?_)
    ·have g11 : (((doX (⟨[], [(⟨1, 5, 9, 0, 1, 3, false⟩ : GAura), (⟨2, 1, 9, 1, 2, 4, false⟩ : GAura)], [], (⟨0, 0, []⟩ : GGrid), (⟨0, 0⟩ : GPos), (⟨0, 0⟩ : GPos)⟩ : GContent) (hero18 9 ([])) (hero18 6 ([])) (⟨2, 3, 0⟩ : GEffect) 0).1).Unit.Health : Int) = 9 := beq_t h11
     refine step_g1 rfl h11 (step_r rfl rfl (by decide) (step_g1 rfl h11 (step_r rfl rfl trivial (step_g1 rfl h11 (step_bin rfl rfl rfl rfl rfl trivial (step_pickT rfl h11 rfl rfl (step_r rfl rfl trivial ?_)))))))
     refine step_gs rfl (fun h13 => ?_) (fun h13 => ?_)
     ·have g13 : (((doX (⟨[], [(⟨1, 5, 9, 0, 1, 3, false⟩ : GAura), (⟨2, 1, 9, 1, 2, 4, false⟩ : GAura)], [], (⟨0, 0, []⟩ : GGrid), (⟨0, 0⟩ : GPos), (⟨0, 0⟩ : GPos)⟩ : GContent) (hero18 9 ([])) (hero18 6 ([])) (⟨2, 3, 0⟩ : GEffect) 0).2).Done : Int) = 3 := beq_t h13
      refine step_g1 rfl h13 (step_r rfl rfl (by decide) (step_g1 rfl h13 (step_r rfl rfl (by decide) (step_g1 rfl h13 (step_r rfl rfl trivial (step_g1 rfl h13 (step_bin rfl rfl rfl rfl rfl trivial (step_pickT rfl h13 rfl rfl (step_r rfl rfl trivial ?_)))))))))
      refine step_gs rfl (fun h15 => ?_) (fun h15 => ?_)
      ·have g15 : (((tickE (⟨[], [(⟨1, 5, 9, 0, 1, 3, false⟩ : GAura), (⟨2, 1, 9, 1, 2, 4, false⟩ : GAura)], [], (⟨0, 0, []⟩ : GGrid), (⟨0, 0⟩ : GPos), (⟨0, 0⟩ : GPos)⟩ : GContent) (hero18 9 ([(⟨2, 0, 2, 5, 3, 0⟩ : GActive)])) 5).1).Unit.Health : Int) = 1 := beq_t h15
       refine step_g1 rfl h15 (step_r rfl rfl (by decide) (step_g1 rfl h15 (step_r rfl rfl trivial (step_g1 rfl h15 (step_r rfl rfl trivial (step_g1 rfl h15 (step_bin rfl rfl rfl rfl rfl trivial (step_pickT rfl h15 rfl rfl (step_r rfl rfl trivial ?_)))))))))
       refine step_gs rfl (fun h17 => ?_) (fun h17 => ?_)
       ·have g17 : (((tickE (⟨[], [(⟨1, 5, 9, 0, 1, 3, false⟩ : GAura), (⟨2, 1, 9, 1, 2, 4, false⟩ : GAura)], [], (⟨0, 0, []⟩ : GGrid), (⟨0, 0⟩ : GPos), (⟨0, 0⟩ : GPos)⟩ : GContent) (hero18 9 ([(⟨2, 0, 2, 5, 3, 0⟩ : GActive)])) 5).1).Auras.length : Int) = 0 := beq_t h17
        refine step_g1 rfl h17 (step_r rfl rfl trivial (step_g1 rfl h17 (step_r rfl rfl trivial (step_g1 rfl h17 (step_bin rfl rfl rfl rfl rfl trivial (step_pickT rfl h17 rfl rfl (step_r rfl rfl trivial ?_)))))))
        refine step_gs rfl (fun h19 => ?_) (fun h19 => ?_)
        ·have g19 : ((tickE (⟨[], [(⟨1, 5, 9, 0, 1, 3, false⟩ : GAura), (⟨2, 1, 9, 1, 2, 4, false⟩ : GAura)], [], (⟨0, 0, []⟩ : GGrid), (⟨0, 0⟩ : GPos), (⟨0, 0⟩ : GPos)⟩ : GContent) (hero18 9 ([(⟨2, 0, 2, 5, 3, 0⟩ : GActive)])) 5).2.length : Int) = 1 := beq_t h19
         refine step_g1 rfl h19 (step_r rfl rfl trivial (step_g1 rfl h19 ?_))
         have jk20 : 0 < ((tickE (⟨[], [(⟨1, 5, 9, 0, 1, 3, false⟩ : GAura), (⟨2, 1, 9, 1, 2, 4, false⟩ : GAura)], [], (⟨0, 0, []⟩ : GGrid), (⟨0, 0⟩ : GPos), (⟨0, 0⟩ : GPos)⟩ : GContent) (hero18 9 ([(⟨2, 0, 2, 5, 3, 0⟩ : GActive)])) 5).2).length := by first | assumption | omega | (simp only [List.length_set, List.length_append]; omega) | (simp only [IntKind.wrap_i64] at *; omega) | (simp; omega) | simp_all
         refine step_idxR (k := 0) rfl rfl rfl rfl jk20 rfl (step_g1 rfl h19 (step_r rfl rfl (by decide) (step_g1 rfl h19 ?_)))
         refine step_load_oneR rfl rfl rfl rfl (flat_get (s := 5) (enc := encGBlow) (fun _ => rfl) (get_getD jk20) (o := 1) rfl (by decide)) rfl ?_
         refine step_g1 rfl h19 (step_bin rfl rfl rfl rfl rfl trivial (step_pickT rfl h19 rfl rfl (step_r rfl rfl trivial ?_)))
         refine step_gs rfl (fun h22 => ?_) (fun h22 => ?_)
         ·have g22 : ((((tickE (⟨[], [(⟨1, 5, 9, 0, 1, 3, false⟩ : GAura), (⟨2, 1, 9, 1, 2, 4, false⟩ : GAura)], [], (⟨0, 0, []⟩ : GGrid), (⟨0, 0⟩ : GPos), (⟨0, 0⟩ : GPos)⟩ : GContent) (hero18 9 ([(⟨2, 0, 2, 5, 3, 0⟩ : GActive)])) 5).2).getD 0 default).Aura : Int) = 2 := beq_t h22
          refine step_g1 rfl h22 (step_r (v := (.agg [_, _, _, _, _, _, _, _, _, _, _, _, _, _, _, _, _, _, _, _, _, _])) rfl rfl (Nat.le_of_ble_eq_true rfl) (step_g1 rfl h22 (step_r (v := (.agg [_, _, _, _, _, _, _, _, _, _, _, _, _, _, _, _, _, _, _, _, _, _])) rfl rfl (Nat.le_of_ble_eq_true rfl) (step_g1 rfl h22 (step_call rfl rfl rfl rfl (copyX_ok ((doX (⟨[], [(⟨1, 5, 9, 0, 1, 3, false⟩ : GAura), (⟨2, 1, 9, 1, 2, 4, false⟩ : GAura)], [], (⟨0, 0, []⟩ : GGrid), (⟨0, 0⟩ : GPos), (⟨0, 0⟩ : GPos)⟩ : GContent) (hero18 9 ([])) (hero18 6 ([])) (⟨2, 3, 0⟩ : GEffect) 0).1) (by first | assumption)) rfl rfl rfl (step_g1 rfl h22 (step_call rfl rfl rfl rfl (sameX_ok ((doX (⟨[], [(⟨1, 5, 9, 0, 1, 3, false⟩ : GAura), (⟨2, 1, 9, 1, 2, 4, false⟩ : GAura)], [], (⟨0, 0, []⟩ : GGrid), (⟨0, 0⟩ : GPos), (⟨0, 0⟩ : GPos)⟩ : GContent) (hero18 9 ([])) (hero18 6 ([])) (⟨2, 3, 0⟩ : GEffect) 0).1) (copyX ((doX (⟨[], [(⟨1, 5, 9, 0, 1, 3, false⟩ : GAura), (⟨2, 1, 9, 1, 2, 4, false⟩ : GAura)], [], (⟨0, 0, []⟩ : GGrid), (⟨0, 0⟩ : GPos), (⟨0, 0⟩ : GPos)⟩ : GContent) (hero18 9 ([])) (hero18 6 ([])) (⟨2, 3, 0⟩ : GEffect) 0).1))) rfl rfl rfl (step_pickT rfl h22 rfl rfl (step_r rfl rfl trivial (step_nil (seqK_n ?_)))))))))))
          refine sem_ret ?_
          have e24 : small18 = (sameX ((doX (⟨[], [(⟨1, 5, 9, 0, 1, 3, false⟩ : GAura), (⟨2, 1, 9, 1, 2, 4, false⟩ : GAura)], [], (⟨0, 0, []⟩ : GGrid), (⟨0, 0⟩ : GPos), (⟨0, 0⟩ : GPos)⟩ : GContent) (hero18 9 ([])) (hero18 6 ([])) (⟨2, 3, 0⟩ : GEffect) 0).1) (copyX ((doX (⟨[], [(⟨1, 5, 9, 0, 1, 3, false⟩ : GAura), (⟨2, 1, 9, 1, 2, 4, false⟩ : GAura)], [], (⟨0, 0, []⟩ : GGrid), (⟨0, 0⟩ : GPos), (⟨0, 0⟩ : GPos)⟩ : GContent) (hero18 9 ([])) (hero18 6 ([])) (⟨2, 3, 0⟩ : GEffect) 0).1))) := by
           unfold small18
           try dsimp only
           rewrite [if_pos g5, if_pos g7, if_pos g9, if_pos g11, if_pos g13, if_pos g15, if_pos g17, if_pos g19, if_pos g22]
           all_goals rfl
          rw [e24]
          exact answersR rfl ⟨trivial, trivial⟩ (rfl) rfl
         ·have g22 : ¬ (((((tickE (⟨[], [(⟨1, 5, 9, 0, 1, 3, false⟩ : GAura), (⟨2, 1, 9, 1, 2, 4, false⟩ : GAura)], [], (⟨0, 0, []⟩ : GGrid), (⟨0, 0⟩ : GPos), (⟨0, 0⟩ : GPos)⟩ : GContent) (hero18 9 ([(⟨2, 0, 2, 5, 3, 0⟩ : GActive)])) 5).2).getD 0 default).Aura : Int) = 2) := beq_f h22
          refine step_g0 rfl h22 rfl (step_g0 rfl h22 rfl (step_g0 rfl h22 rfl (step_g0 rfl h22 rfl (step_pickF rfl h22 rfl rfl (step_r rfl rfl trivial (step_nil (seqK_n (sem_ret ?_))))))))
          have e25 : small18 = false := by
           unfold small18
           try dsimp only
           rewrite [if_pos g5, if_pos g7, if_pos g9, if_pos g11, if_pos g13, if_pos g15, if_pos g17, if_pos g19, if_neg g22]
           all_goals rfl
          rw [e25]
          exact answersR rfl ⟨trivial, trivial⟩ (rfl) rfl
        ·have g19 : ¬ (((tickE (⟨[], [(⟨1, 5, 9, 0, 1, 3, false⟩ : GAura), (⟨2, 1, 9, 1, 2, 4, false⟩ : GAura)], [], (⟨0, 0, []⟩ : GGrid), (⟨0, 0⟩ : GPos), (⟨0, 0⟩ : GPos)⟩ : GContent) (hero18 9 ([(⟨2, 0, 2, 5, 3, 0⟩ : GActive)])) 5).2.length : Int) = 1) := beq_f h19
         refine step_g0 rfl h19 rfl (step_g0 rfl h19 rfl (step_g0 rfl h19 rfl (step_g0 rfl h19 rfl (step_g0 rfl h19 rfl (step_pickF rfl h19 rfl rfl (step_r rfl rfl trivial (step_gf rfl rfl (step_gf rfl rfl (step_gf rfl rfl (step_gf rfl rfl (step_r rfl rfl trivial ?_)))))))))))
         refine step_r rfl rfl trivial (step_nil (seqK_n (sem_ret ?_)))
         have e26 : small18 = false := by
          unfold small18
          try dsimp only
          rewrite [if_pos g5, if_pos g7, if_pos g9, if_pos g11, if_pos g13, if_pos g15, if_pos g17, if_neg g19]
          all_goals rfl
         rw [e26]
         exact answersR rfl ⟨trivial, trivial⟩ (rfl) rfl
       ·have g17 : ¬ ((((tickE (⟨[], [(⟨1, 5, 9, 0, 1, 3, false⟩ : GAura), (⟨2, 1, 9, 1, 2, 4, false⟩ : GAura)], [], (⟨0, 0, []⟩ : GGrid), (⟨0, 0⟩ : GPos), (⟨0, 0⟩ : GPos)⟩ : GContent) (hero18 9 ([(⟨2, 0, 2, 5, 3, 0⟩ : GActive)])) 5).1).Auras.length : Int) = 0) := beq_f h17
        refine step_g0 rfl h17 rfl (step_g0 rfl h17 rfl (step_g0 rfl h17 rfl (step_pickF rfl h17 rfl rfl (step_r rfl rfl trivial (step_gf rfl rfl (step_gf rfl rfl (step_gf rfl rfl (step_gf rfl rfl (step_gf rfl rfl (step_r rfl rfl trivial (step_r rfl rfl trivial ?_)))))))))))
        refine step_gf rfl rfl (step_gf rfl rfl (step_gf rfl rfl (step_gf rfl rfl (step_r rfl rfl trivial (step_r rfl rfl trivial (step_nil (seqK_n (sem_ret ?_))))))))
        have e27 : small18 = false := by
         unfold small18
         try dsimp only
         rewrite [if_pos g5, if_pos g7, if_pos g9, if_pos g11, if_pos g13, if_pos g15, if_neg g17]
         all_goals rfl
        rw [e27]
        exact answersR rfl ⟨trivial, trivial⟩ (rfl) rfl
      ·have g15 : ¬ ((((tickE (⟨[], [(⟨1, 5, 9, 0, 1, 3, false⟩ : GAura), (⟨2, 1, 9, 1, 2, 4, false⟩ : GAura)], [], (⟨0, 0, []⟩ : GGrid), (⟨0, 0⟩ : GPos), (⟨0, 0⟩ : GPos)⟩ : GContent) (hero18 9 ([(⟨2, 0, 2, 5, 3, 0⟩ : GActive)])) 5).1).Unit.Health : Int) = 1) := beq_f h15
       refine step_g0 rfl h15 rfl (step_g0 rfl h15 rfl (step_g0 rfl h15 rfl (step_g0 rfl h15 rfl (step_pickF rfl h15 rfl rfl (step_r rfl rfl trivial (step_gf rfl rfl (step_gf rfl rfl (step_gf rfl rfl (step_r rfl rfl trivial (step_r rfl rfl trivial (step_gf rfl rfl ?_)))))))))))
       refine step_gf rfl rfl (step_gf rfl rfl (step_gf rfl rfl (step_gf rfl rfl (step_r rfl rfl trivial (step_r rfl rfl trivial (step_gf rfl rfl (step_gf rfl rfl (step_gf rfl rfl (step_gf rfl rfl (step_r rfl rfl trivial (step_r rfl rfl trivial ?_)))))))))))
       refine step_nil (seqK_n (sem_ret ?_))
       have e28 : small18 = false := by
        unfold small18
        try dsimp only
        rewrite [if_pos g5, if_pos g7, if_pos g9, if_pos g11, if_pos g13, if_neg g15]
        all_goals rfl
       rw [e28]
       exact answersR rfl ⟨trivial, trivial⟩ (rfl) rfl
     ·have g13 : ¬ ((((doX (⟨[], [(⟨1, 5, 9, 0, 1, 3, false⟩ : GAura), (⟨2, 1, 9, 1, 2, 4, false⟩ : GAura)], [], (⟨0, 0, []⟩ : GGrid), (⟨0, 0⟩ : GPos), (⟨0, 0⟩ : GPos)⟩ : GContent) (hero18 9 ([])) (hero18 6 ([])) (⟨2, 3, 0⟩ : GEffect) 0).2).Done : Int) = 3) := beq_f h13
      refine step_g0 rfl h13 rfl (step_g0 rfl h13 rfl (step_g0 rfl h13 rfl (step_g0 rfl h13 rfl (step_pickF rfl h13 rfl rfl (step_r rfl rfl trivial (step_gf rfl rfl (step_gf rfl rfl (step_gf rfl rfl (step_gf rfl rfl (step_r rfl rfl trivial (step_r rfl rfl trivial ?_)))))))))))
      refine step_gf rfl rfl (step_gf rfl rfl (step_gf rfl rfl (step_r rfl rfl trivial (step_r rfl rfl trivial (step_gf rfl rfl (step_gf rfl rfl (step_gf rfl rfl (step_gf rfl rfl (step_gf rfl rfl (step_r rfl rfl trivial (step_r rfl rfl trivial ?_)))))))))))
      refine step_gf rfl rfl (step_gf rfl rfl (step_gf rfl rfl (step_gf rfl rfl (step_r rfl rfl trivial (step_r rfl rfl trivial (step_nil (seqK_n (sem_ret ?_))))))))
      have e29 : small18 = false := by
       unfold small18
       try dsimp only
       rewrite [if_pos g5, if_pos g7, if_pos g9, if_pos g11, if_neg g13]
       all_goals rfl
      rw [e29]
      exact answersR rfl ⟨trivial, trivial⟩ (rfl) rfl
    ·have g11 : ¬ ((((doX (⟨[], [(⟨1, 5, 9, 0, 1, 3, false⟩ : GAura), (⟨2, 1, 9, 1, 2, 4, false⟩ : GAura)], [], (⟨0, 0, []⟩ : GGrid), (⟨0, 0⟩ : GPos), (⟨0, 0⟩ : GPos)⟩ : GContent) (hero18 9 ([])) (hero18 6 ([])) (⟨2, 3, 0⟩ : GEffect) 0).1).Unit.Health : Int) = 9) := beq_f h11
     refine step_g0 rfl h11 rfl (step_g0 rfl h11 rfl (step_g0 rfl h11 rfl (step_pickF rfl h11 rfl rfl (step_r rfl rfl trivial (step_gf rfl rfl (step_gf rfl rfl (step_gf rfl rfl (step_gf rfl rfl (step_r rfl rfl trivial (step_r rfl rfl trivial (step_gf rfl rfl ?_)))))))))))
     refine step_gf rfl rfl (step_gf rfl rfl (step_gf rfl rfl (step_r rfl rfl trivial (step_r rfl rfl trivial (step_gf rfl rfl (step_gf rfl rfl (step_gf rfl rfl (step_r rfl rfl trivial (step_r rfl rfl trivial (step_gf rfl rfl (step_gf rfl rfl ?_)))))))))))
     refine step_gf rfl rfl (step_gf rfl rfl (step_gf rfl rfl (step_r rfl rfl trivial (step_r rfl rfl trivial (step_gf rfl rfl (step_gf rfl rfl (step_gf rfl rfl (step_gf rfl rfl (step_r rfl rfl trivial (step_r rfl rfl trivial (step_nil ?_)))))))))))
     refine seqK_n (sem_ret ?_)
     have e30 : small18 = false := by
      unfold small18
      try dsimp only
      rewrite [if_pos g5, if_pos g7, if_pos g9, if_neg g11]
      all_goals rfl
     rw [e30]
     exact answersR rfl ⟨trivial, trivial⟩ (rfl) rfl
   ·have g9 : ¬ ((((((doX (⟨[], [(⟨1, 5, 9, 0, 1, 3, false⟩ : GAura), (⟨2, 1, 9, 1, 2, 4, false⟩ : GAura)], [], (⟨0, 0, []⟩ : GGrid), (⟨0, 0⟩ : GPos), (⟨0, 0⟩ : GPos)⟩ : GContent) (hero18 9 ([])) (hero18 6 ([(⟨1, 0, 1, 9, 0, 3⟩ : GActive)])) (⟨1, 10, 0⟩ : GEffect) 0).2).Kind) == 1) && (((((doX (⟨[], [(⟨1, 5, 9, 0, 1, 3, false⟩ : GAura), (⟨2, 1, 9, 1, 2, 4, false⟩ : GAura)], [], (⟨0, 0, []⟩ : GGrid), (⟨0, 0⟩ : GPos), (⟨0, 0⟩ : GPos)⟩ : GContent) (hero18 9 ([])) (hero18 6 ([(⟨1, 0, 1, 9, 0, 3⟩ : GActive)])) (⟨1, 10, 0⟩ : GEffect) 0).2).Aura) == 0) && (((((doX (⟨[], [(⟨1, 5, 9, 0, 1, 3, false⟩ : GAura), (⟨2, 1, 9, 1, 2, 4, false⟩ : GAura)], [], (⟨0, 0, []⟩ : GGrid), (⟨0, 0⟩ : GPos), (⟨0, 0⟩ : GPos)⟩ : GContent) (hero18 9 ([])) (hero18 6 ([(⟨1, 0, 1, 9, 0, 3⟩ : GActive)])) (⟨1, 10, 0⟩ : GEffect) 0).2).Amount) == 10) && (((((doX (⟨[], [(⟨1, 5, 9, 0, 1, 3, false⟩ : GAura), (⟨2, 1, 9, 1, 2, 4, false⟩ : GAura)], [], (⟨0, 0, []⟩ : GGrid), (⟨0, 0⟩ : GPos), (⟨0, 0⟩ : GPos)⟩ : GContent) (hero18 9 ([])) (hero18 6 ([(⟨1, 0, 1, 9, 0, 3⟩ : GActive)])) (⟨1, 10, 0⟩ : GEffect) 0).2).Kept) == 3) && (((((doX (⟨[], [(⟨1, 5, 9, 0, 1, 3, false⟩ : GAura), (⟨2, 1, 9, 1, 2, 4, false⟩ : GAura)], [], (⟨0, 0, []⟩ : GGrid), (⟨0, 0⟩ : GPos), (⟨0, 0⟩ : GPos)⟩ : GContent) (hero18 9 ([])) (hero18 6 ([(⟨1, 0, 1, 9, 0, 3⟩ : GActive)])) (⟨1, 10, 0⟩ : GEffect) 0).2).Done) == 6) && true))))) = true) := boo_f h9
    refine step_g0 rfl h9 rfl (step_g0 rfl h9 rfl (step_g0 rfl h9 rfl (step_g0 rfl h9 rfl (step_pickF rfl h9 rfl rfl (step_r rfl rfl trivial (step_gf rfl rfl (step_gf rfl rfl (step_gf rfl rfl (step_r rfl rfl trivial (step_r rfl rfl trivial (step_gf rfl rfl ?_)))))))))))
    refine step_gf rfl rfl (step_gf rfl rfl (step_gf rfl rfl (step_r rfl rfl trivial (step_r rfl rfl trivial (step_gf rfl rfl (step_gf rfl rfl (step_gf rfl rfl (step_gf rfl rfl (step_r rfl rfl trivial (step_r rfl rfl trivial (step_gf rfl rfl ?_)))))))))))
    refine step_gf rfl rfl (step_gf rfl rfl (step_r rfl rfl trivial (step_r rfl rfl trivial (step_gf rfl rfl (step_gf rfl rfl (step_gf rfl rfl (step_gf rfl rfl (step_gf rfl rfl (step_r rfl rfl trivial (step_r rfl rfl trivial (step_gf rfl rfl ?_)))))))))))
    refine step_gf rfl rfl (step_gf rfl rfl (step_gf rfl rfl (step_r rfl rfl trivial (step_r rfl rfl trivial (step_nil (seqK_n (sem_ret ?_)))))))
    have e31 : small18 = false := by
     unfold small18
     try dsimp only
     rewrite [if_pos g5, if_pos g7, if_neg g9]
     all_goals rfl
    rw [e31]
    exact answersR rfl ⟨trivial, trivial⟩ (rfl) rfl
  ·have g7 : ¬ ((((doX (⟨[], [(⟨1, 5, 9, 0, 1, 3, false⟩ : GAura), (⟨2, 1, 9, 1, 2, 4, false⟩ : GAura)], [], (⟨0, 0, []⟩ : GGrid), (⟨0, 0⟩ : GPos), (⟨0, 0⟩ : GPos)⟩ : GContent) (hero18 9 ([])) (hero18 6 ([(⟨1, 0, 1, 9, 0, 3⟩ : GActive)])) (⟨1, 10, 0⟩ : GEffect) 0).1).Auras.length : Int) = 0) := beq_f h7
   refine step_g0 rfl h7 rfl (step_g0 rfl h7 rfl (step_g0 rfl h7 rfl (step_pickF rfl h7 rfl rfl (step_r rfl rfl trivial (step_gf rfl rfl (step_gf rfl rfl (step_gf rfl rfl (step_gf rfl rfl (step_r rfl rfl trivial (step_r rfl rfl trivial (step_gf rfl rfl ?_)))))))))))
   refine step_gf rfl rfl (step_gf rfl rfl (step_r rfl rfl trivial (step_r rfl rfl trivial (step_gf rfl rfl (step_gf rfl rfl (step_gf rfl rfl (step_gf rfl rfl (step_r rfl rfl trivial (step_r rfl rfl trivial (step_gf rfl rfl (step_gf rfl rfl ?_)))))))))))
   refine step_gf rfl rfl (step_gf rfl rfl (step_r rfl rfl trivial (step_r rfl rfl trivial (step_gf rfl rfl (step_gf rfl rfl (step_gf rfl rfl (step_r rfl rfl trivial (step_r rfl rfl trivial (step_gf rfl rfl (step_gf rfl rfl (step_gf rfl rfl ?_)))))))))))
   refine step_gf rfl rfl (step_gf rfl rfl (step_r rfl rfl trivial (step_r rfl rfl trivial (step_gf rfl rfl (step_gf rfl rfl (step_gf rfl rfl (step_gf rfl rfl (step_r rfl rfl trivial (step_r rfl rfl trivial (step_nil (seqK_n ?_)))))))))))
   refine sem_ret ?_
   have e32 : small18 = false := by
    unfold small18
    try dsimp only
    rewrite [if_pos g5, if_neg g7]
    all_goals rfl
   rw [e32]
   exact answersR rfl ⟨trivial, trivial⟩ (rfl) rfl
 ·have g5 : ¬ ((((doX (⟨[], [(⟨1, 5, 9, 0, 1, 3, false⟩ : GAura), (⟨2, 1, 9, 1, 2, 4, false⟩ : GAura)], [], (⟨0, 0, []⟩ : GGrid), (⟨0, 0⟩ : GPos), (⟨0, 0⟩ : GPos)⟩ : GContent) (hero18 9 ([])) (hero18 6 ([(⟨1, 0, 1, 9, 0, 3⟩ : GActive)])) (⟨1, 10, 0⟩ : GEffect) 0).1).Unit.Health : Int) = 0) := beq_f h5
  refine step_g0 rfl h5 rfl (step_g0 rfl h5 rfl (step_g0 rfl h5 rfl (step_g0 rfl h5 rfl (step_pickF rfl h5 rfl rfl (step_r rfl rfl trivial (step_gf rfl rfl (step_gf rfl rfl (step_gf rfl rfl (step_r rfl rfl trivial (step_r rfl rfl trivial (step_gf rfl rfl ?_)))))))))))
  refine step_gf rfl rfl (step_gf rfl rfl (step_gf rfl rfl (step_r rfl rfl trivial (step_r rfl rfl trivial (step_gf rfl rfl (step_gf rfl rfl (step_gf rfl rfl (step_r rfl rfl trivial (step_r rfl rfl trivial (step_gf rfl rfl (step_gf rfl rfl ?_)))))))))))
  refine step_gf rfl rfl (step_gf rfl rfl (step_r rfl rfl trivial (step_r rfl rfl trivial (step_gf rfl rfl (step_gf rfl rfl (step_gf rfl rfl (step_gf rfl rfl (step_r rfl rfl trivial (step_r rfl rfl trivial (step_gf rfl rfl (step_gf rfl rfl ?_)))))))))))
  refine step_gf rfl rfl (step_r rfl rfl trivial (step_r rfl rfl trivial (step_gf rfl rfl (step_gf rfl rfl (step_gf rfl rfl (step_gf rfl rfl (step_gf rfl rfl (step_r rfl rfl trivial (step_r rfl rfl trivial (step_gf rfl rfl (step_gf rfl rfl ?_)))))))))))
  refine step_gf rfl rfl (step_gf rfl rfl (step_r rfl rfl trivial (step_r rfl rfl trivial (step_nil (seqK_n (sem_ret ?_))))))
  have e33 : small18 = false := by
   unfold small18
   try dsimp only
   rewrite [if_neg g5]
   all_goals rfl
  rw [e33]
  exact answersR rfl ⟨trivial, trivial⟩ (rfl) rfl
end Go.Proofs.Ytmijbjpdjggppaa

import Derived.Test.YtmijbjpdjggppaaGreatRowp
namespace Go.Proofs.YtmijbjpdjggppaaGreat
open Go Go.RowKit Go.Proofs.YtmijbjpdjggppaaGreatVm
attribute [local irreducible] opsWp AnswersE OpsS
set_option maxHeartbeats 400000
set_option maxRecDepth 100000
set_option linter.all false
def few18_L0 (x_ : GActor) : Nat → Nat → Sum Bool Unit
  | 0, k0 => .inr ()
  | n_ + 1, k0 => if ((x_.Cools.getD k0 default).Back.length : Int) > 200 then .inl false else few18_L0 x_ n_ (k0 + 1)
def few18 (x_ : GActor) : Bool :=
  (match few18_L0 x_ ((min x_.Cools.length 100) - 0) 0 with
    | .inl r_ => r_
    | .inr () => if (x_.Auras.length : Int) ≤ 40 then (decide ((x_.Cools.length : Int) ≤ 60)) else false)
theorem few18_ok (x_ : GActor) : Ok Tryz.prog 6 [aGActor x_] [] (B (few18 x_)) [] [] := by
 refine Ok.len fun hlen => ?_
 have hl_x__Auras : x_.Auras.length ≤ maxLen := hlen _ (by simp [lensL, lens, lensP])
 have hl_x__Cools : x_.Cools.length ≤ maxLen := hlen _ (by simp [lensL, lens, lensP])
 unfold maxLen at hl_x__Auras hl_x__Cools
 refine ok_of_sem Tryz.func6 rfl ?_
 show Walks Tryz.prog _ _ ⟨[(0, aGActor x_)], [], 0, [], 33, 0⟩
 refine sem_seq (sem_region rfl (step_n (o := .box [_, _, _, _, _, _, _, _, _, _, _, _, _, _, _, _, _, _, _, _, _, _]) (nx' := 1) rfl rfl rfl trivial (step_r rfl rfl trivial (step_nil (seqK_n (sem_seq (sem_seq (sem_region rfl (step_r rfl rfl trivial (step_nil (seqK_n ?_)))))))))))
 refine sem_cutW (fun w_ : Unit => match w_ with | () => (⟨[(1, .ptr 0 0)], [(0, .box [I x_.Unit.Id, I x_.Unit.Kind, I x_.Unit.Group, I x_.Unit.Health, I x_.Unit.MaxHealth, I x_.Unit.Power, I x_.Unit.MaxPower, I x_.Unit.At.X, I x_.Unit.At.Y, I x_.Unit.Casting, .pv (.str x_.Name), .pv (.slc x_.Auras.length false (x_.Auras.flatMap encGActive)), .pv (.slc x_.Cools.length false (x_.Cools.flatMap encGCool)), I x_.Casting.Now.Ability, I x_.Casting.Now.Target, I x_.Casting.Now.Since, I x_.Casting.Now.Until, I x_.Casting.Next.Ability, I x_.Casting.Next.Target, I x_.Casting.Next.Since, I x_.Casting.Next.Until, I x_.Casting.Wait])], 1, [], 33, 0⟩ : St)) (fun w_ => few18_L0 x_ ((min x_.Cools.length 100) - 0) 0 = .inr w_) ?_ ?_
 ·refine sem_block ?_
  refine sem_loopT (fun k0 : Nat => (⟨[(1, .ptr 0 0), (3, I k0)], [(0, .box [I x_.Unit.Id, I x_.Unit.Kind, I x_.Unit.Group, I x_.Unit.Health, I x_.Unit.MaxHealth, I x_.Unit.Power, I x_.Unit.MaxPower, I x_.Unit.At.X, I x_.Unit.At.Y, I x_.Unit.Casting, .pv (.str x_.Name), .pv (.slc x_.Auras.length false (x_.Auras.flatMap encGActive)), .pv (.slc x_.Cools.length false (x_.Cools.flatMap encGCool)), I x_.Casting.Now.Ability, I x_.Casting.Now.Target, I x_.Casting.Now.Since, I x_.Casting.Now.Until, I x_.Casting.Next.Ability, I x_.Casting.Next.Target, I x_.Casting.Next.Since, I x_.Casting.Next.Until, I x_.Casting.Wait])], 1, [], 33, 0⟩ : St)) (fun k0 : Nat => few18_L0 x_ ((min x_.Cools.length 100) - k0) k0 = few18_L0 x_ ((min x_.Cools.length 100) - 0) 0 ∧ k0 ≤ min x_.Cools.length 100) (fun k0 : Nat => min x_.Cools.length 100 - k0) 0 (⟨rfl, (by first | omega | (simp; omega))⟩) ?_ (fun k0 hh_ => ?_)
  ·exact (Trans.ren [] (by decide +kernel) (by decide +kernel) rfl ⟨⟨rfl, rfl⟩, ⟨rfl, rfl⟩, trivial⟩ ⟨⟨rfl, rfl, rfl⟩, trivial⟩ (by decide))
  obtain ⟨hI0, hb0⟩ := hh_
  show Walks Tryz.prog _ _ (⟨[(1, .ptr 0 0), (3, I k0)], [(0, .box [I x_.Unit.Id, I x_.Unit.Kind, I x_.Unit.Group, I x_.Unit.Health, I x_.Unit.MaxHealth, I x_.Unit.Power, I x_.Unit.MaxPower, I x_.Unit.At.X, I x_.Unit.At.Y, I x_.Unit.Casting, .pv (.str x_.Name), .pv (.slc x_.Auras.length false (x_.Auras.flatMap encGActive)), .pv (.slc x_.Cools.length false (x_.Cools.flatMap encGCool)), I x_.Casting.Now.Ability, I x_.Casting.Now.Target, I x_.Casting.Now.Since, I x_.Casting.Now.Until, I x_.Casting.Next.Ability, I x_.Casting.Next.Target, I x_.Casting.Next.Since, I x_.Casting.Next.Until, I x_.Casting.Wait])], 1, [], 33, 0⟩ : St)
  refine sem_seq (sem_seq (sem_region rfl (step_r rfl rfl trivial (step_r rfl rfl (by decide) (step_r rfl rfl trivial (step_r rfl rfl trivial (step_bin rfl rfl rfl rfl rfl trivial (step_r rfl rfl trivial ?_))))))))
  refine step_gs rfl (fun h4 => ?_) (fun h4 => ?_)
  ·have g4 : (k0 : Int) < x_.Cools.length := of_decide_eq_true h4
   refine step_g1 rfl h4 (step_r rfl rfl trivial (step_g1 rfl h4 (step_bin rfl rfl rfl rfl rfl trivial (step_pickT rfl h4 rfl rfl (step_nil (seqK_n ?_))))))
   refine sem_cond rfl (fun h6 => ?_) (fun h6 => ?_)
   ·have g6 : (k0 : Int) < 100 := of_decide_eq_true h6
    have hm0 : min x_.Cools.length 100 - k0 = (min x_.Cools.length 100 - (k0 + 1)) + 1 := by omega
    refine sem_skip (seqK_n (sem_seq (sem_block (sem_seq (sem_region rfl (step_r rfl rfl (by decide) (step_r rfl rfl trivial (step_r rfl rfl trivial ?_))))))))
    have jk7 : k0 < x_.Cools.length := by first | assumption | omega | (simp only [List.length_set, List.length_append]; omega) | (simp only [IntKind.wrap_i64] at *; omega) | (simp; omega) | simp_all
    refine step_idxS (k := k0) rfl rfl rfl rfl jk7 (flat_ne (s := 2) (enc := encGCool) (fun _ => rfl) (by decide) jk7) rfl (step_r rfl rfl (by decide) (step_load_one rfl rfl rfl (flat_get (s := 2) (enc := encGCool) (fun _ => rfl) (get_getD jk7) (o := 1) rfl (by decide)) rfl (step_r rfl rfl trivial (step_bin rfl rfl rfl rfl rfl trivial (step_nil (seqK_n ?_))))))
    refine sem_cond rfl (fun h8 => ?_) (fun h8 => ?_)
    ·have g8 : ((x_.Cools.getD k0 default).Back.length : Int) > 200 := of_decide_eq_true h8
     refine sem_seq (sem_region rfl (step_r rfl rfl trivial (step_nil (seqK_n (sem_ret (blkK_r (seqK_r (lupK_r (blkK_r (cutW_r (seqK_r ?_)))))))))))
     have e9 : few18_L0 x_ ((min x_.Cools.length 100) - 0) 0 = .inl false := by
      rewrite [← hI0, hm0]
      rewrite [few18_L0]
      try dsimp only
      rewrite [if_pos g8]
      all_goals rfl
     have e10 : few18 x_ = false := by
      unfold few18
      try dsimp only
      rewrite [e9]
      try dsimp only
      all_goals rfl
     rw [e10]
     exact answersR rfl ⟨trivial, trivial⟩ (rfl) rfl
    ·have g8 : ¬ (((x_.Cools.getD k0 default).Back.length : Int) > 200) := of_decide_eq_false h8
     refine sem_skip (blkK_n (seqK_n (sem_region rfl (step_r rfl rfl trivial (step_bin rfl rfl rfl rfl rfl trivial (step_r rfl rfl trivial (step_nil ?_)))))))
     have e12 : few18_L0 x_ ((min x_.Cools.length 100) - k0) k0 = few18_L0 x_ ((min x_.Cools.length 100) - (k0 + 1)) (k0 + 1) := by
      rewrite [hm0]
      rewrite [few18_L0]
      try dsimp only
      rewrite [if_neg g8]
      all_goals rfl
     exact lup_againT (k0 + 1) ⟨e12.symm.trans hI0, (by omega)⟩ (by show min x_.Cools.length 100 - (k0 + 1) < min x_.Cools.length 100 - k0; omega) (Trans.ren [] (by decide +kernel) (by decide +kernel) rfl ⟨⟨rfl, rfl⟩, ⟨congrArg (fun n => some (I n)) (wrapI (k := k0) (by first | omega | (simp; omega))), rfl⟩, trivial⟩ ⟨⟨rfl, rfl, rfl⟩, trivial⟩ (by decide))
   ·have g6 : ¬ ((k0 : Int) < 100) := of_decide_eq_false h6
    have hm0 : min x_.Cools.length 100 - k0 = 0 := by omega
    refine sem_exit (seqK_e (lupK_e (blkK_t rfl ?_)))
    have e13 : few18_L0 x_ ((min x_.Cools.length 100) - 0) 0 = .inr () := by
     rewrite [← hI0, hm0]
     rewrite [few18_L0]
     try dsimp only
     all_goals rfl
    exact cutW_n () e13 (Trans.ren [] (by decide +kernel) (by decide +kernel) rfl ⟨⟨rfl, rfl⟩, trivial⟩ ⟨⟨rfl, rfl, rfl⟩, trivial⟩ (by decide))
  ·have g4 : ¬ ((k0 : Int) < x_.Cools.length) := of_decide_eq_false h4
   refine step_g0 rfl h4 rfl (step_g0 rfl h4 rfl (step_pickF rfl h4 rfl rfl (step_nil (seqK_n (sem_condF rfl ?_)))))
   have hm0 : min x_.Cools.length 100 - k0 = 0 := by omega
   refine sem_exit (seqK_e (lupK_e (blkK_t rfl ?_)))
   have e14 : few18_L0 x_ ((min x_.Cools.length 100) - 0) 0 = .inr () := by
    rewrite [← hI0, hm0]
    rewrite [few18_L0]
    try dsimp only
    all_goals rfl
   exact cutW_n () e14 (Trans.ren [] (by decide +kernel) (by decide +kernel) rfl ⟨⟨rfl, rfl⟩, trivial⟩ ⟨⟨rfl, rfl, rfl⟩, trivial⟩ (by decide))
 ·rintro ⟨⟩ (hJ1 : few18_L0 x_ ((min x_.Cools.length 100) - 0) 0 = .inr ())
  show seqK _ _ _ .normal (⟨[(1, .ptr 0 0)], [(0, .box [I x_.Unit.Id, I x_.Unit.Kind, I x_.Unit.Group, I x_.Unit.Health, I x_.Unit.MaxHealth, I x_.Unit.Power, I x_.Unit.MaxPower, I x_.Unit.At.X, I x_.Unit.At.Y, I x_.Unit.Casting, .pv (.str x_.Name), .pv (.slc x_.Auras.length false (x_.Auras.flatMap encGActive)), .pv (.slc x_.Cools.length false (x_.Cools.flatMap encGCool)), I x_.Casting.Now.Ability, I x_.Casting.Now.Target, I x_.Casting.Now.Since, I x_.Casting.Now.Until, I x_.Casting.Next.Ability, I x_.Casting.Next.Target, I x_.Casting.Next.Since, I x_.Casting.Next.Until, I x_.Casting.Wait])], 1, [], 33, 0⟩ : St)
  refine seqK_n (sem_seq (sem_region rfl (step_r rfl rfl (by decide) (step_r rfl rfl trivial (step_r rfl rfl trivial (step_bin rfl rfl rfl rfl rfl trivial (step_r rfl rfl trivial ?_)))))))
  refine step_gs rfl (fun h16 => ?_) (fun h16 => ?_)
  ·have g16 : (x_.Auras.length : Int) ≤ 40 := of_decide_eq_true h16
   refine step_g1 rfl h16 (step_r rfl rfl (by decide) (step_g1 rfl h16 (step_r rfl rfl trivial (step_g1 rfl h16 (step_r rfl rfl trivial (step_g1 rfl h16 (step_bin rfl rfl rfl rfl rfl trivial (step_pickT rfl h16 rfl rfl (step_r rfl rfl trivial (step_nil (seqK_n ?_)))))))))))
   refine sem_ret ?_
   have e18 : few18 x_ = (decide ((x_.Cools.length : Int) ≤ 60)) := by
    unfold few18
    try dsimp only
    rewrite [hJ1]
    try dsimp only
    rewrite [if_pos g16]
    all_goals rfl
   rw [e18]
   exact answersR rfl ⟨trivial, trivial⟩ (rfl) rfl
  ·have g16 : ¬ ((x_.Auras.length : Int) ≤ 40) := of_decide_eq_false h16
   refine step_g0 rfl h16 rfl (step_g0 rfl h16 rfl (step_g0 rfl h16 rfl (step_g0 rfl h16 rfl (step_pickF rfl h16 rfl rfl (step_r rfl rfl trivial (step_nil (seqK_n (sem_ret ?_))))))))
   have e19 : few18 x_ = false := by
    unfold few18
    try dsimp only
    rewrite [hJ1]
    try dsimp only
    rewrite [if_neg g16]
    all_goals rfl
   rw [e19]
   exact answersR rfl ⟨trivial, trivial⟩ (rfl) rfl

theorem few18_go (x : GActor) : ∀ (n k : Nat), few18_L0 x n k = .inr () → ∀ i, i < n → (x.Cools.getD (k + i) default).Back.length ≤ 200
  | 0, k, _, i, hi => by omega
  | n + 1, k, h, i, hi => by
    rw [few18_L0] at h
    split at h
    · cases h
    · cases i with
      | zero => simp only [Nat.add_zero]; omega
      | succ i => have := few18_go x n (k + 1) h i (by omega); rwa [show k + (i + 1) = k + 1 + i by omega]
theorem few18_no (x : GActor) (b : Bool) : ∀ (n k : Nat), few18_L0 x n k = .inl b → b = false
  | 0, k, h => by rw [few18_L0] at h; cases h
  | n + 1, k, h => by
    rw [few18_L0] at h
    split at h
    · cases h; rfl
    · exact few18_no x b n _ h
theorem few18_of {x : GActor} (h : few18 x = true) : FewX x := by
  unfold few18 at h
  split at h
  · rename_i b hb; have := few18_no _ _ _ _ hb; simp [this] at h
  · rename_i hb
    split at h
    case isFalse => cases h
    have h9 := of_decide_eq_true h
    refine ⟨by omega, by omega, fun j => ?_⟩
    by_cases hj : j < x.Cools.length
    · have := few18_go _ _ _ hb j (by omega); rwa [Nat.zero_add] at this
    · rw [List.getD_eq_getElem?_getD, List.getElem?_eq_none (by omega)]; exact Nat.zero_le _
theorem FewX.keep {x y : GActor} (h : FewX x) (hc : y.Cools = x.Cools) (ha : y.Auras.length ≤ max x.Auras.length 16) : FewX y :=
  ⟨by have := h.au; omega, by rw [hc]; exact h.co, fun j => by rw [hc]; exact h.ba j⟩
theorem layD_is (d : Gdoer) (x : Gactor) (e : GEffect) : (layD d x e).2 = (layD_J14 d x e).1 := rfl
theorem layD_keep (d : Gdoer) (x : Gactor) (e : GEffect) : (layD d x e).2.Actor.Cools = x.Actor.Cools ∧ (layD d x e).2.Actor.Auras.length ≤ max x.Actor.Auras.length 16 := by
  rw [layD_is]
  unfold layD_J14
  split
  · exact ⟨rfl, (apply15_len _ _ _ _ _).2⟩
  · exact ⟨rfl, Nat.le_max_left _ _⟩
theorem doX_keep (c : GContent) (from_ to : GActor) (e : GEffect) (now : Int) : (doX c from_ to e now).1.Cools = to.Cools ∧ (doX c from_ to e now).1.Auras.length ≤ max to.Auras.length 16 := by
  unfold doX doX_J22
  rw [ofX_is]
  split
  rename_i x b hx
  split at hx
  · repeat' split at hx
    · cases hx; exact ⟨rfl, Nat.le_trans (take15_len _ _ _) (Nat.le_max_left _ _)⟩
    · cases hx; exact ⟨rfl, Nat.le_max_left _ _⟩
    · cases hx; exact ⟨rfl, Nat.le_max_left _ _⟩
    · cases hx; exact layD_keep _ _ _
    · cases hx; exact ⟨rfl, Nat.le_trans (dispel15_len _ _ _).1 (Nat.le_max_left _ _)⟩
    · cases hx; exact ⟨rfl, Nat.le_max_left _ _⟩
  · cases hx; exact ⟨rfl, Nat.le_max_left _ _⟩
theorem doX_few {c : GContent} {from_ to : GActor} {e : GEffect} {now : Int} (h : FewX to) : FewX (doX c from_ to e now).1 := h.keep (doX_keep ..).1 (doX_keep ..).2
theorem tickX_cools (x : Gactor) (a : GAura) (n : Int) : (tickX x a n).2.2.Actor.Cools = x.Actor.Cools := by
  unfold tickX; split
  · rfl
  · split <;> rfl
theorem tickE_go (c : GContent) : ∀ (l : List GActive) (k : Nat) (out : List GBlow) (x : Gactor), (tickE_L0 c l k out x).2.Actor.Cools = x.Actor.Cools ∧ (tickE_L0 c l k out x).2.Actor.Auras.length ≤ x.Actor.Auras.length
  | [], k, out, x => by rw [tickE_L0]; exact ⟨rfl, Nat.le_refl _⟩
  | y :: l, k, out, x => by
    rw [tickE_L0]
    split
    · exact ⟨rfl, Nat.le_refl _⟩
    · have h0 := tickX_auras x (getU c y.Aura).1 y.Stacks
      have h1 := tickX_cools x (getU c y.Aura).1 y.Stacks
      split <;> exact ⟨(tickE_go c l _ _ _).1.trans h1, Nat.le_trans (tickE_go c l _ _ _).2 h0⟩
theorem tickE_few {c : GContent} {to : GActor} {now : Int} (h : FewX to) : FewX (tickE c to now).1 := by
  unfold tickE
  rw [ofX_is]
  split
  · have g := tickE_go c (tick15 c to.Auras now).2 0 [] ⟨⟨to.Unit, to.Name, (tick15 c to.Auras now).1, to.Cools, to.Casting⟩, c⟩
    split
    rename_i out x hx
    simp only [hx] at g
    refine h.keep g.1 ?_
    have := (expire15_len x.Actor.Auras now).1
    have := (tick15_len c to.Auras now).1
    simp only [] at *
    omega
  · exact h.keep rfl (Nat.le_max_left _ _)
theorem few_lit {x : GActor} (h1 : x.Auras.length ≤ 100) (h2 : x.Cools = []) : FewX x := ⟨h1, by rw [h2]; exact Nat.zero_le _, fun j => by rw [h2]; exact Nat.zero_le _⟩

def hero18 (health : Int) (l : List GActive) : GActor :=
  (⟨(⟨1, 1, 0, health, 20, 0, 0, (⟨0, 0⟩ : GPos), 0⟩ : GUnit), [], l, [], (⟨(⟨0, 0, 0, 0⟩ : GCast), (⟨0, 0, 0, 0⟩ : GCast), 0⟩ : GCasting)⟩ : GActor)
theorem hero18_ok (health : Int) (l : List GActive) (l_f : Bool) : Ok Tryz.prog 11 [I health, .pv (.slc l.length l_f (l.flatMap encGActive))] [] (aGActor (hero18 health l)) [] [] := by
 refine Ok.len fun hlen => ?_
 have hl_l : l.length ≤ maxLen := hlen _ (by simp [lensL, lens, lensP])
 unfold maxLen at hl_l
 refine ok_of_sem Tryz.func11 rfl ?_
 show Walks Tryz.prog _ _ ⟨[(0, I health), (1, .pv (.slc l.length l_f (l.flatMap encGActive)))], [], 0, [], 9, 0⟩
 refine sem_seq (sem_region rfl (step_n (o := .box [_, _, _, _, _, _, _, _, _, _, _, _, _, _, _, _, _, _, _, _, _, _]) (nx' := 1) rfl rfl rfl trivial (step_nil (seqK_n (sem_seq (sem_region rfl (step_r rfl rfl trivial (step_r (v := (.agg [_, _, _, _, _, _, _, _, _, _])) rfl rfl trivial (step_r rfl rfl trivial (step_r (v := (.agg [_, _, _, _, _, _, _, _, _, _, _, _, _, _, _, _, _, _, _, _, _, _])) rfl rfl trivial ?_))))))))))
 refine step_storeB (H' := [(0, .box [_, _, _, _, _, _, _, _, _, _, _, _, _, _, _, _, _, _, _, _, _, _])]) rfl rfl rfl rfl rfl rfl (.inl rfl) rfl ?_
 refine step_nil (seqK_n ?_)
 refine sem_trans (Trans.loose (T' := [(4, .ptr 0 0)]) (H' := [(0, .box [I 1, I 1, I 0, I health, I 20, I 0, I 0, I 0, I 0, I 0, .pv (.str []), .pv (.slc l.length false (l.flatMap encGActive)), .pv (.slc 0 false []), I 0, I 0, I 0, I 0, I 0, I 0, I 0, I 0, I 0])]) ⟨⟨_, rfl, .inl rfl⟩, trivial⟩ ⟨⟨_, rfl, .inr rfl⟩, trivial⟩) ?_
 refine sem_ret ?_
 have e2 : hero18 health l = (⟨(⟨1, 1, 0, health, 20, 0, 0, (⟨0, 0⟩ : GPos), 0⟩ : GUnit), [], l, [], (⟨(⟨0, 0, 0, 0⟩ : GCast), (⟨0, 0, 0, 0⟩ : GCast), 0⟩ : GCasting)⟩ : GActor) := by
  unfold hero18
  try dsimp only
  all_goals rfl
 rw [e2]
 exact answersR rfl ⟨Nat.le_of_ble_eq_true rfl, trivial⟩ (rfl) rfl

def small18 : Bool :=
  if (((doX (⟨[], [(⟨1, 5, 9, 0, 1, 3, false⟩ : GAura), (⟨2, 1, 9, 1, 2, 4, false⟩ : GAura)], [], (⟨0, 0, []⟩ : GGrid), (⟨0, 0⟩ : GPos), (⟨0, 0⟩ : GPos)⟩ : GContent) (hero18 9 ([])) (hero18 6 ([(⟨1, 0, 1, 9, 0, 3⟩ : GActive)])) (⟨1, 10, 0⟩ : GEffect) 0).1).Unit.Health : Int) = 0 then (if (((doX (⟨[], [(⟨1, 5, 9, 0, 1, 3, false⟩ : GAura), (⟨2, 1, 9, 1, 2, 4, false⟩ : GAura)], [], (⟨0, 0, []⟩ : GGrid), (⟨0, 0⟩ : GPos), (⟨0, 0⟩ : GPos)⟩ : GContent) (hero18 9 ([])) (hero18 6 ([(⟨1, 0, 1, 9, 0, 3⟩ : GActive)])) (⟨1, 10, 0⟩ : GEffect) 0).1).Auras.length : Int) = 0 then (if (((((doX (⟨[], [(⟨1, 5, 9, 0, 1, 3, false⟩ : GAura), (⟨2, 1, 9, 1, 2, 4, false⟩ : GAura)], [], (⟨0, 0, []⟩ : GGrid), (⟨0, 0⟩ : GPos), (⟨0, 0⟩ : GPos)⟩ : GContent) (hero18 9 ([])) (hero18 6 ([(⟨1, 0, 1, 9, 0, 3⟩ : GActive)])) (⟨1, 10, 0⟩ : GEffect) 0).2).Kind) == 1) && (((((doX (⟨[], [(⟨1, 5, 9, 0, 1, 3, false⟩ : GAura), (⟨2, 1, 9, 1, 2, 4, false⟩ : GAura)], [], (⟨0, 0, []⟩ : GGrid), (⟨0, 0⟩ : GPos), (⟨0, 0⟩ : GPos)⟩ : GContent) (hero18 9 ([])) (hero18 6 ([(⟨1, 0, 1, 9, 0, 3⟩ : GActive)])) (⟨1, 10, 0⟩ : GEffect) 0).2).Aura) == 0) && (((((doX (⟨[], [(⟨1, 5, 9, 0, 1, 3, false⟩ : GAura), (⟨2, 1, 9, 1, 2, 4, false⟩ : GAura)], [], (⟨0, 0, []⟩ : GGrid), (⟨0, 0⟩ : GPos), (⟨0, 0⟩ : GPos)⟩ : GContent) (hero18 9 ([])) (hero18 6 ([(⟨1, 0, 1, 9, 0, 3⟩ : GActive)])) (⟨1, 10, 0⟩ : GEffect) 0).2).Amount) == 10) && (((((doX (⟨[], [(⟨1, 5, 9, 0, 1, 3, false⟩ : GAura), (⟨2, 1, 9, 1, 2, 4, false⟩ : GAura)], [], (⟨0, 0, []⟩ : GGrid), (⟨0, 0⟩ : GPos), (⟨0, 0⟩ : GPos)⟩ : GContent) (hero18 9 ([])) (hero18 6 ([(⟨1, 0, 1, 9, 0, 3⟩ : GActive)])) (⟨1, 10, 0⟩ : GEffect) 0).2).Kept) == 3) && (((((doX (⟨[], [(⟨1, 5, 9, 0, 1, 3, false⟩ : GAura), (⟨2, 1, 9, 1, 2, 4, false⟩ : GAura)], [], (⟨0, 0, []⟩ : GGrid), (⟨0, 0⟩ : GPos), (⟨0, 0⟩ : GPos)⟩ : GContent) (hero18 9 ([])) (hero18 6 ([(⟨1, 0, 1, 9, 0, 3⟩ : GActive)])) (⟨1, 10, 0⟩ : GEffect) 0).2).Done) == 6) && true))))) = true then (if (((doX (⟨[], [(⟨1, 5, 9, 0, 1, 3, false⟩ : GAura), (⟨2, 1, 9, 1, 2, 4, false⟩ : GAura)], [], (⟨0, 0, []⟩ : GGrid), (⟨0, 0⟩ : GPos), (⟨0, 0⟩ : GPos)⟩ : GContent) (hero18 9 ([])) (hero18 6 ([])) (⟨2, 3, 0⟩ : GEffect) 0).1).Unit.Health : Int) = 9 then (if (((doX (⟨[], [(⟨1, 5, 9, 0, 1, 3, false⟩ : GAura), (⟨2, 1, 9, 1, 2, 4, false⟩ : GAura)], [], (⟨0, 0, []⟩ : GGrid), (⟨0, 0⟩ : GPos), (⟨0, 0⟩ : GPos)⟩ : GContent) (hero18 9 ([])) (hero18 6 ([])) (⟨2, 3, 0⟩ : GEffect) 0).2).Done : Int) = 3 then (if (((tickE (⟨[], [(⟨1, 5, 9, 0, 1, 3, false⟩ : GAura), (⟨2, 1, 9, 1, 2, 4, false⟩ : GAura)], [], (⟨0, 0, []⟩ : GGrid), (⟨0, 0⟩ : GPos), (⟨0, 0⟩ : GPos)⟩ : GContent) (hero18 9 ([(⟨2, 0, 2, 5, 3, 0⟩ : GActive)])) 5).1).Unit.Health : Int) = 1 then (if (((tickE (⟨[], [(⟨1, 5, 9, 0, 1, 3, false⟩ : GAura), (⟨2, 1, 9, 1, 2, 4, false⟩ : GAura)], [], (⟨0, 0, []⟩ : GGrid), (⟨0, 0⟩ : GPos), (⟨0, 0⟩ : GPos)⟩ : GContent) (hero18 9 ([(⟨2, 0, 2, 5, 3, 0⟩ : GActive)])) 5).1).Auras.length : Int) = 0 then (if ((tickE (⟨[], [(⟨1, 5, 9, 0, 1, 3, false⟩ : GAura), (⟨2, 1, 9, 1, 2, 4, false⟩ : GAura)], [], (⟨0, 0, []⟩ : GGrid), (⟨0, 0⟩ : GPos), (⟨0, 0⟩ : GPos)⟩ : GContent) (hero18 9 ([(⟨2, 0, 2, 5, 3, 0⟩ : GActive)])) 5).2.length : Int) = 1 then (if ((((tickE (⟨[], [(⟨1, 5, 9, 0, 1, 3, false⟩ : GAura), (⟨2, 1, 9, 1, 2, 4, false⟩ : GAura)], [], (⟨0, 0, []⟩ : GGrid), (⟨0, 0⟩ : GPos), (⟨0, 0⟩ : GPos)⟩ : GContent) (hero18 9 ([(⟨2, 0, 2, 5, 3, 0⟩ : GActive)])) 5).2).getD 0 default).Aura : Int) = 2 then (sameX ((doX (⟨[], [(⟨1, 5, 9, 0, 1, 3, false⟩ : GAura), (⟨2, 1, 9, 1, 2, 4, false⟩ : GAura)], [], (⟨0, 0, []⟩ : GGrid), (⟨0, 0⟩ : GPos), (⟨0, 0⟩ : GPos)⟩ : GContent) (hero18 9 ([])) (hero18 6 ([])) (⟨2, 3, 0⟩ : GEffect) 0).1) (copyX ((doX (⟨[], [(⟨1, 5, 9, 0, 1, 3, false⟩ : GAura), (⟨2, 1, 9, 1, 2, 4, false⟩ : GAura)], [], (⟨0, 0, []⟩ : GGrid), (⟨0, 0⟩ : GPos), (⟨0, 0⟩ : GPos)⟩ : GContent) (hero18 9 ([])) (hero18 6 ([])) (⟨2, 3, 0⟩ : GEffect) 0).1))) else false) else false) else false) else false) else false) else false) else false) else false) else false
theorem small18_ok  : Ok Tryz.prog 4 [] [] (B (small18)) [] [] := by
 refine ok_of_sem Tryz.func4 rfl ?_
 show Walks Tryz.prog _ _ ⟨[], [], 0, [], 94, 0⟩
 refine sem_seq (sem_region rfl (step_r rfl rfl trivial (step_nil (seqK_n (sem_seq (sem_region rfl (step_r (v := (.agg [_, _, _, _, _, _, _])) rfl rfl trivial (step_r (v := (.agg [_, _, _, _, _, _, _])) rfl rfl trivial ?_))))))))
 refine step_nF (cs := [_, _, _, _, _, _, _, _, _, _, _, _, _, _]) (n := 2) (nx' := 1) rfl rfl rfl (by decide) rfl ?_
 refine step_r (v := (.agg [_, _, _, _, _, _, _, _, _, _])) rfl rfl trivial (step_n (o := .box [_, _, _, _, _, _, _, _, _, _]) (nx' := 2) rfl rfl rfl trivial ?_)
 refine step_storeB (H' := [(1, .box [_, _, _, _, _, _, _, _, _, _])]) rfl rfl rfl rfl rfl rfl (.inl rfl) rfl ?_
 refine step_nil (seqK_n (sem_seq ?_))
 refine sem_drawnE [(12, 9)] rfl (by decide +kernel) (by decide +kernel) rfl ?_
 refine step_r (v := (.agg [_, _, _, _, _, _, _, _, _, _])) rfl rfl (Nat.le_of_ble_eq_true rfl) ?_
 refine step_callN (H' := [(1, _)]) (nx' := 2) rfl rfl rfl rfl rfl rfl rfl (by (repeat' apply And.intro) <;> first | trivial | rfl | exact flat_len (fun _ => rfl) _ | exact encI_len _ | exact Nat.le_of_ble_eq_true rfl | assumption) (hero18_ok 9 ([]) false) rfl rfl rfl rfl ?_
 refine step_r (v := (.agg [_, _, _, _, _, _])) rfl rfl trivial ?_
 refine step_nF (cs := [_, _, _, _, _, _]) (n := 1) (nx' := 3) rfl rfl rfl (by decide) rfl ?_
 refine step_call rfl rfl rfl rfl (hero18_ok 6 ([(⟨1, 0, 1, 9, 0, 3⟩ : GActive)]) false) rfl rfl rfl (step_r (v := (.agg [_, _, _])) rfl rfl trivial ?_)
 refine step_callN (out' := .tup [(.agg [_, _, _, _, _, _, _, _, _, _, _, _, _, _, _, _, _, _, _, _, _, _]), (.agg [_, _, _, _, _])]) (H' := [(1, _)]) (nx' := 3) rfl rfl rfl rfl rfl rfl rfl (by (repeat' apply And.intro) <;> first | trivial | rfl | exact flat_len (fun _ => rfl) _ | exact encI_len _ | exact Nat.le_of_ble_eq_true rfl | assumption) (doX_ok (⟨[], [(⟨1, 5, 9, 0, 1, 3, false⟩ : GAura), (⟨2, 1, 9, 1, 2, 4, false⟩ : GAura)], [], (⟨0, 0, []⟩ : GGrid), (⟨0, 0⟩ : GPos), (⟨0, 0⟩ : GPos)⟩ : GContent) (hero18 9 ([])) (hero18 6 ([(⟨1, 0, 1, 9, 0, 3⟩ : GActive)])) (⟨1, 10, 0⟩ : GEffect) 0 (by first | assumption | exact few_lit (Nat.le_of_ble_eq_true rfl) rfl)) rfl rfl rfl rfl ?_
 have p1 := doX_few (c := (⟨[], [(⟨1, 5, 9, 0, 1, 3, false⟩ : GAura), (⟨2, 1, 9, 1, 2, 4, false⟩ : GAura)], [], (⟨0, 0, []⟩ : GGrid), (⟨0, 0⟩ : GPos), (⟨0, 0⟩ : GPos)⟩ : GContent)) (from_ := (hero18 9 ([]))) (to := (hero18 6 ([(⟨1, 0, 1, 9, 0, 3⟩ : GActive)]))) (e := (⟨1, 10, 0⟩ : GEffect)) (now := 0) (by first | assumption | exact few_lit (Nat.le_of_ble_eq_true rfl) rfl)
 refine step_r rfl rfl trivial (step_r rfl rfl trivial (step_r rfl rfl trivial (step_n (o := .box [_, _, _, _, _, _, _, _, _, _, _, _, _, _, _, _, _, _, _, _, _, _]) (nx' := 4) rfl rfl rfl trivial (step_n (o := .box [_, _, _, _, _]) (nx' := 5) rfl rfl rfl trivial ?_))))
 refine step_storeB (H' := [(4, _), (3, .box [_, _, _, _, _, _, _, _, _, _, _, _, _, _, _, _, _, _, _, _, _, _]), (1, _)]) rfl rfl rfl rfl rfl rfl (.inr (by decide +kernel)) rfl ?_
 refine step_storeB (H' := [(4, .box [_, _, _, _, _]), (3, _), (1, _)]) rfl rfl rfl rfl rfl rfl (.inr (by decide +kernel)) rfl ?_
 refine step_nil (seqK_n (sem_seq ?_))
 refine sem_drawnE [(10, 7)] rfl (by decide +kernel) (by decide +kernel) rfl ?_
 refine step_r (v := (.agg [_, _, _, _, _, _, _, _, _, _])) rfl rfl (Nat.le_of_ble_eq_true rfl) ?_
 refine step_callN (H' := [(4, _), (3, _), (1, _)]) (nx' := 5) rfl rfl rfl rfl rfl rfl rfl (by (repeat' apply And.intro) <;> first | trivial | rfl | exact flat_len (fun _ => rfl) _ | exact encI_len _ | exact Nat.le_of_ble_eq_true rfl | assumption) (hero18_ok 9 ([]) false) rfl rfl rfl rfl ?_
 refine step_callN (H' := [(4, _), (3, _), (1, _)]) (nx' := 5) rfl rfl rfl rfl rfl rfl rfl (by (repeat' apply And.intro) <;> first | trivial | rfl | exact flat_len (fun _ => rfl) _ | exact encI_len _ | exact Nat.le_of_ble_eq_true rfl | assumption) (hero18_ok 6 ([]) false) rfl rfl rfl rfl ?_
 refine step_r (v := (.agg [_, _, _])) rfl rfl trivial ?_
 refine step_callN (out' := .tup [(.agg [_, _, _, _, _, _, _, _, _, _, _, _, _, _, _, _, _, _, _, _, _, _]), (.agg [_, _, _, _, _])]) (H' := [(4, _), (3, _), (1, _)]) (nx' := 5) rfl rfl rfl rfl rfl rfl rfl (by (repeat' apply And.intro) <;> first | trivial | rfl | exact flat_len (fun _ => rfl) _ | exact encI_len _ | exact Nat.le_of_ble_eq_true rfl | assumption) (doX_ok (⟨[], [(⟨1, 5, 9, 0, 1, 3, false⟩ : GAura), (⟨2, 1, 9, 1, 2, 4, false⟩ : GAura)], [], (⟨0, 0, []⟩ : GGrid), (⟨0, 0⟩ : GPos), (⟨0, 0⟩ : GPos)⟩ : GContent) (hero18 9 ([])) (hero18 6 ([])) (⟨2, 3, 0⟩ : GEffect) 0 (by first | assumption | exact few_lit (Nat.le_of_ble_eq_true rfl) rfl)) rfl rfl rfl rfl ?_
 have p2 := doX_few (c := (⟨[], [(⟨1, 5, 9, 0, 1, 3, false⟩ : GAura), (⟨2, 1, 9, 1, 2, 4, false⟩ : GAura)], [], (⟨0, 0, []⟩ : GGrid), (⟨0, 0⟩ : GPos), (⟨0, 0⟩ : GPos)⟩ : GContent)) (from_ := (hero18 9 ([]))) (to := (hero18 6 ([]))) (e := (⟨2, 3, 0⟩ : GEffect)) (now := 0) (by first | assumption | exact few_lit (Nat.le_of_ble_eq_true rfl) rfl)
 refine step_r rfl rfl trivial (step_r rfl rfl trivial (step_r rfl rfl trivial (step_n (o := .box [_, _, _, _, _, _, _, _, _, _, _, _, _, _, _, _, _, _, _, _, _, _]) (nx' := 6) rfl rfl rfl trivial (step_n (o := .box [_, _, _, _, _]) (nx' := 7) rfl rfl rfl trivial ?_))))
 refine step_storeB (H' := [(6, _), (5, .box [_, _, _, _, _, _, _, _, _, _, _, _, _, _, _, _, _, _, _, _, _, _]), (4, _), (3, _), (1, _)]) rfl rfl rfl rfl rfl rfl (.inr (by decide +kernel)) rfl ?_
 refine step_storeB (H' := [(6, .box [_, _, _, _, _]), (5, _), (4, _), (3, _), (1, _)]) rfl rfl rfl rfl rfl rfl (.inr (by decide +kernel)) rfl ?_
 refine step_nil (seqK_n (sem_seq ?_))
 refine sem_drawnE [(9, 7)] rfl (by decide +kernel) (by decide +kernel) rfl ?_
 refine step_r (v := (.agg [_, _, _, _, _, _, _, _, _, _])) rfl rfl (Nat.le_of_ble_eq_true rfl) (step_r (v := (.agg [_, _, _, _, _, _])) rfl rfl trivial ?_)
 refine step_nF (cs := [_, _, _, _, _, _]) (n := 1) (nx' := 8) rfl rfl rfl (by decide) rfl ?_
 refine step_call rfl rfl rfl rfl (hero18_ok 9 ([(⟨2, 0, 2, 5, 3, 0⟩ : GActive)]) false) rfl rfl rfl ?_
 refine step_callN (out' := .tup [(.agg [_, _, _, _, _, _, _, _, _, _, _, _, _, _, _, _, _, _, _, _, _, _]), .ref 8 _ _ _]) (H' := [(8, .row _ _ _), (6, _), (5, _), (4, _), (3, _), (1, _)]) (nx' := 9) rfl rfl rfl rfl rfl rfl rfl (by (repeat' apply And.intro) <;> first | trivial | rfl | exact flat_len (fun _ => rfl) _ | exact encI_len _ | exact Nat.le_of_ble_eq_true rfl | assumption) (tickE_ok (⟨[], [(⟨1, 5, 9, 0, 1, 3, false⟩ : GAura), (⟨2, 1, 9, 1, 2, 4, false⟩ : GAura)], [], (⟨0, 0, []⟩ : GGrid), (⟨0, 0⟩ : GPos), (⟨0, 0⟩ : GPos)⟩ : GContent) (hero18 9 ([(⟨2, 0, 2, 5, 3, 0⟩ : GActive)])) 5 (by first | assumption | exact few_lit (Nat.le_of_ble_eq_true rfl) rfl)) rfl rfl rfl rfl ?_
 have p3 := tickE_few (c := (⟨[], [(⟨1, 5, 9, 0, 1, 3, false⟩ : GAura), (⟨2, 1, 9, 1, 2, 4, false⟩ : GAura)], [], (⟨0, 0, []⟩ : GGrid), (⟨0, 0⟩ : GPos), (⟨0, 0⟩ : GPos)⟩ : GContent)) (to := (hero18 9 ([(⟨2, 0, 2, 5, 3, 0⟩ : GActive)]))) (now := 5) (by first | assumption | exact few_lit (Nat.le_of_ble_eq_true rfl) rfl)
 refine step_r rfl rfl trivial (step_r rfl rfl trivial (step_r rfl rfl trivial (step_n (o := .box [_, _, _, _, _, _, _, _, _, _, _, _, _, _, _, _, _, _, _, _, _, _]) (nx' := 10) rfl rfl rfl trivial ?_)))
 refine step_storeB (H' := [(9, .box [_, _, _, _, _, _, _, _, _, _, _, _, _, _, _, _, _, _, _, _, _, _]), (8, _), (6, _), (5, _), (4, _), (3, _), (1, _)]) rfl rfl rfl rfl rfl rfl (.inr (by decide +kernel)) rfl ?_
 refine step_r rfl rfl trivial (step_nil (seqK_n (sem_seq ?_)))
 refine sem_drawn rfl (by decide +kernel) rfl ?_
 refine step_r rfl rfl (by decide) (step_r rfl rfl (by decide) (step_r rfl rfl trivial (step_bin rfl rfl rfl rfl rfl trivial (step_r rfl rfl trivial ?_))))
 refine step_gs rfl (fun h5 => ?_) (fun h5 => ?_)
 ·have g5 : (((doX (⟨[], [(⟨1, 5, 9, 0, 1, 3, false⟩ : GAura), (⟨2, 1, 9, 1, 2, 4, false⟩ : GAura)], [], (⟨0, 0, []⟩ : GGrid), (⟨0, 0⟩ : GPos), (⟨0, 0⟩ : GPos)⟩ : GContent) (hero18 9 ([])) (hero18 6 ([(⟨1, 0, 1, 9, 0, 3⟩ : GActive)])) (⟨1, 10, 0⟩ : GEffect) 0).1).Unit.Health : Int) = 0 := beq_t h5
  refine step_g1 rfl h5 (step_r rfl rfl (by decide) (step_g1 rfl h5 (step_r rfl rfl trivial (step_g1 rfl h5 (step_r rfl rfl trivial (step_g1 rfl h5 (step_bin rfl rfl rfl rfl rfl trivial (step_pickT rfl h5 rfl rfl (step_r rfl rfl trivial ?_)))))))))
  refine step_gs rfl (fun h7 => ?_) (fun h7 => ?_)
  ·have g7 : (((doX (⟨[], [(⟨1, 5, 9, 0, 1, 3, false⟩ : GAura), (⟨2, 1, 9, 1, 2, 4, false⟩ : GAura)], [], (⟨0, 0, []⟩ : GGrid), (⟨0, 0⟩ : GPos), (⟨0, 0⟩ : GPos)⟩ : GContent) (hero18 9 ([])) (hero18 6 ([(⟨1, 0, 1, 9, 0, 3⟩ : GActive)])) (⟨1, 10, 0⟩ : GEffect) 0).1).Auras.length : Int) = 0 := beq_t h7
   refine step_g1 rfl h7 (step_r (v := (.agg [_, _, _, _, _])) rfl rfl (Nat.le_of_ble_eq_true rfl) (step_g1 rfl h7 (step_r (v := (.agg [_, _, _, _, _])) rfl rfl trivial (step_g1 rfl h7 ?_))))
   refine step_eqlA rfl rfl rfl (by kernel_rfl) rfl rfl rfl rfl rfl ?_
   refine step_pickT rfl h7 rfl rfl (step_r rfl rfl trivial ?_)
   refine step_gs rfl (fun h9 => ?_) (fun h9 => ?_)
   ·have g9 : (((((doX (⟨[], [(⟨1, 5, 9, 0, 1, 3, false⟩ : GAura), (⟨2, 1, 9, 1, 2, 4, false⟩ : GAura)], [], (⟨0, 0, []⟩ : GGrid), (⟨0, 0⟩ : GPos), (⟨0, 0⟩ : GPos)⟩ : GContent) (hero18 9 ([])) (hero18 6 ([(⟨1, 0, 1, 9, 0, 3⟩ : GActive)])) (⟨1, 10, 0⟩ : GEffect) 0).2).Kind) == 1) && (((((doX (⟨[], [(⟨1, 5, 9, 0, 1, 3, false⟩ : GAura), (⟨2, 1, 9, 1, 2, 4, false⟩ : GAura)], [], (⟨0, 0, []⟩ : GGrid), (⟨0, 0⟩ : GPos), (⟨0, 0⟩ : GPos)⟩ : GContent) (hero18 9 ([])) (hero18 6 ([(⟨1, 0, 1, 9, 0, 3⟩ : GActive)])) (⟨1, 10, 0⟩ : GEffect) 0).2).Aura) == 0) && (((((doX (⟨[], [(⟨1, 5, 9, 0, 1, 3, false⟩ : GAura), (⟨2, 1, 9, 1, 2, 4, false⟩ : GAura)], [], (⟨0, 0, []⟩ : GGrid), (⟨0, 0⟩ : GPos), (⟨0, 0⟩ : GPos)⟩ : GContent) (hero18 9 ([])) (hero18 6 ([(⟨1, 0, 1, 9, 0, 3⟩ : GActive)])) (⟨1, 10, 0⟩ : GEffect) 0).2).Amount) == 10) && (((((doX (⟨[], [(⟨1, 5, 9, 0, 1, 3, false⟩ : GAura), (⟨2, 1, 9, 1, 2, 4, false⟩ : GAura)], [], (⟨0, 0, []⟩ : GGrid), (⟨0, 0⟩ : GPos), (⟨0, 0⟩ : GPos)⟩ : GContent) (hero18 9 ([])) (hero18 6 ([(⟨1, 0, 1, 9, 0, 3⟩ : GActive)])) (⟨1, 10, 0⟩ : GEffect) 0).2).Kept) == 3) && (((((doX (⟨[], [(⟨1, 5, 9, 0, 1, 3, false⟩ : GAura), (⟨2, 1, 9, 1, 2, 4, false⟩ : GAura)], [], (⟨0, 0, []⟩ : GGrid), (⟨0, 0⟩ : GPos), (⟨0, 0⟩ : GPos)⟩ : GContent) (hero18 9 ([])) (hero18 6 ([(⟨1, 0, 1, 9, 0, 3⟩ : GActive)])) (⟨1, 10, 0⟩ : GEffect) 0).2).Done) == 6) && true))))) = true := h9
    refine step_g1 rfl h9 (step_r rfl rfl (by decide) (step_g1 rfl h9 (step_r rfl rfl (by decide) (step_g1 rfl h9 (step_r rfl rfl trivial (step_g1 rfl h9 (step_bin rfl rfl rfl rfl rfl trivial (step_pickT rfl h9 rfl rfl (step_r rfl rfl trivial ?_)))))))))
    refine step_gs rfl (fun h11 => ?_) (fun h11 => ?_)
    ·have g11 : (((doX (⟨[], [(⟨1, 5, 9, 0, 1, 3, false⟩ : GAura), (⟨2, 1, 9, 1, 2, 4, false⟩ : GAura)], [], (⟨0, 0, []⟩ : GGrid), (⟨0, 0⟩ : GPos), (⟨0, 0⟩ : GPos)⟩ : GContent) (hero18 9 ([])) (hero18 6 ([])) (⟨2, 3, 0⟩ : GEffect) 0).1).Unit.Health : Int) = 9 := beq_t h11
     refine step_g1 rfl h11 (step_r rfl rfl (by decide) (step_g1 rfl h11 (step_r rfl rfl trivial (step_g1 rfl h11 (step_bin rfl rfl rfl rfl rfl trivial (step_pickT rfl h11 rfl rfl (step_r rfl rfl trivial ?_)))))))
     refine step_gs rfl (fun h13 => ?_) (fun h13 => ?_)
     ·have g13 : (((doX (⟨[], [(⟨1, 5, 9, 0, 1, 3, false⟩ : GAura), (⟨2, 1, 9, 1, 2, 4, false⟩ : GAura)], [], (⟨0, 0, []⟩ : GGrid), (⟨0, 0⟩ : GPos), (⟨0, 0⟩ : GPos)⟩ : GContent) (hero18 9 ([])) (hero18 6 ([])) (⟨2, 3, 0⟩ : GEffect) 0).2).Done : Int) = 3 := beq_t h13
      refine step_g1 rfl h13 (step_r rfl rfl (by decide) (step_g1 rfl h13 (step_r rfl rfl (by decide) (step_g1 rfl h13 (step_r rfl rfl trivial (step_g1 rfl h13 (step_bin rfl rfl rfl rfl rfl trivial (step_pickT rfl h13 rfl rfl (step_r rfl rfl trivial ?_)))))))))
      refine step_gs rfl (fun h15 => ?_) (fun h15 => ?_)
      ·have g15 : (((tickE (⟨[], [(⟨1, 5, 9, 0, 1, 3, false⟩ : GAura), (⟨2, 1, 9, 1, 2, 4, false⟩ : GAura)], [], (⟨0, 0, []⟩ : GGrid), (⟨0, 0⟩ : GPos), (⟨0, 0⟩ : GPos)⟩ : GContent) (hero18 9 ([(⟨2, 0, 2, 5, 3, 0⟩ : GActive)])) 5).1).Unit.Health : Int) = 1 := beq_t h15
       refine step_g1 rfl h15 (step_r rfl rfl (by decide) (step_g1 rfl h15 (step_r rfl rfl trivial (step_g1 rfl h15 (step_r rfl rfl trivial (step_g1 rfl h15 (step_bin rfl rfl rfl rfl rfl trivial (step_pickT rfl h15 rfl rfl (step_r rfl rfl trivial ?_)))))))))
       refine step_gs rfl (fun h17 => ?_) (fun h17 => ?_)
       ·have g17 : (((tickE (⟨[], [(⟨1, 5, 9, 0, 1, 3, false⟩ : GAura), (⟨2, 1, 9, 1, 2, 4, false⟩ : GAura)], [], (⟨0, 0, []⟩ : GGrid), (⟨0, 0⟩ : GPos), (⟨0, 0⟩ : GPos)⟩ : GContent) (hero18 9 ([(⟨2, 0, 2, 5, 3, 0⟩ : GActive)])) 5).1).Auras.length : Int) = 0 := beq_t h17
        refine step_g1 rfl h17 (step_r rfl rfl trivial (step_g1 rfl h17 (step_r rfl rfl trivial (step_g1 rfl h17 (step_bin rfl rfl rfl rfl rfl trivial (step_pickT rfl h17 rfl rfl (step_r rfl rfl trivial ?_)))))))
        refine step_gs rfl (fun h19 => ?_) (fun h19 => ?_)
        ·have g19 : ((tickE (⟨[], [(⟨1, 5, 9, 0, 1, 3, false⟩ : GAura), (⟨2, 1, 9, 1, 2, 4, false⟩ : GAura)], [], (⟨0, 0, []⟩ : GGrid), (⟨0, 0⟩ : GPos), (⟨0, 0⟩ : GPos)⟩ : GContent) (hero18 9 ([(⟨2, 0, 2, 5, 3, 0⟩ : GActive)])) 5).2.length : Int) = 1 := beq_t h19
         refine step_g1 rfl h19 (step_r rfl rfl trivial (step_g1 rfl h19 ?_))
         have jk20 : 0 < ((tickE (⟨[], [(⟨1, 5, 9, 0, 1, 3, false⟩ : GAura), (⟨2, 1, 9, 1, 2, 4, false⟩ : GAura)], [], (⟨0, 0, []⟩ : GGrid), (⟨0, 0⟩ : GPos), (⟨0, 0⟩ : GPos)⟩ : GContent) (hero18 9 ([(⟨2, 0, 2, 5, 3, 0⟩ : GActive)])) 5).2).length := by first | assumption | omega | (simp only [List.length_set, List.length_append]; omega) | (simp only [IntKind.wrap_i64] at *; omega) | (simp; omega) | simp_all
         refine step_idxR (k := 0) rfl rfl rfl rfl jk20 rfl (step_g1 rfl h19 (step_r rfl rfl (by decide) (step_g1 rfl h19 ?_)))
         refine step_load_oneR rfl rfl rfl rfl (flat_get (s := 5) (enc := encGBlow) (fun _ => rfl) (get_getD jk20) (o := 1) rfl (by decide)) rfl ?_
         refine step_g1 rfl h19 (step_bin rfl rfl rfl rfl rfl trivial (step_pickT rfl h19 rfl rfl (step_r rfl rfl trivial ?_)))
         refine step_gs rfl (fun h22 => ?_) (fun h22 => ?_)
         ·have g22 : ((((tickE (⟨[], [(⟨1, 5, 9, 0, 1, 3, false⟩ : GAura), (⟨2, 1, 9, 1, 2, 4, false⟩ : GAura)], [], (⟨0, 0, []⟩ : GGrid), (⟨0, 0⟩ : GPos), (⟨0, 0⟩ : GPos)⟩ : GContent) (hero18 9 ([(⟨2, 0, 2, 5, 3, 0⟩ : GActive)])) 5).2).getD 0 default).Aura : Int) = 2 := beq_t h22
          refine step_g1 rfl h22 (step_r (v := (.agg [_, _, _, _, _, _, _, _, _, _, _, _, _, _, _, _, _, _, _, _, _, _])) rfl rfl (Nat.le_of_ble_eq_true rfl) (step_g1 rfl h22 (step_r (v := (.agg [_, _, _, _, _, _, _, _, _, _, _, _, _, _, _, _, _, _, _, _, _, _])) rfl rfl (Nat.le_of_ble_eq_true rfl) (step_g1 rfl h22 (step_call rfl rfl rfl rfl (copyX_ok ((doX (⟨[], [(⟨1, 5, 9, 0, 1, 3, false⟩ : GAura), (⟨2, 1, 9, 1, 2, 4, false⟩ : GAura)], [], (⟨0, 0, []⟩ : GGrid), (⟨0, 0⟩ : GPos), (⟨0, 0⟩ : GPos)⟩ : GContent) (hero18 9 ([])) (hero18 6 ([])) (⟨2, 3, 0⟩ : GEffect) 0).1) (by first | assumption)) rfl rfl rfl (step_g1 rfl h22 (step_call rfl rfl rfl rfl (sameX_ok ((doX (⟨[], [(⟨1, 5, 9, 0, 1, 3, false⟩ : GAura), (⟨2, 1, 9, 1, 2, 4, false⟩ : GAura)], [], (⟨0, 0, []⟩ : GGrid), (⟨0, 0⟩ : GPos), (⟨0, 0⟩ : GPos)⟩ : GContent) (hero18 9 ([])) (hero18 6 ([])) (⟨2, 3, 0⟩ : GEffect) 0).1) (copyX ((doX (⟨[], [(⟨1, 5, 9, 0, 1, 3, false⟩ : GAura), (⟨2, 1, 9, 1, 2, 4, false⟩ : GAura)], [], (⟨0, 0, []⟩ : GGrid), (⟨0, 0⟩ : GPos), (⟨0, 0⟩ : GPos)⟩ : GContent) (hero18 9 ([])) (hero18 6 ([])) (⟨2, 3, 0⟩ : GEffect) 0).1))) rfl rfl rfl (step_pickT rfl h22 rfl rfl (step_r rfl rfl trivial (step_nil (seqK_n ?_)))))))))))
          refine sem_ret ?_
          have e24 : small18 = (sameX ((doX (⟨[], [(⟨1, 5, 9, 0, 1, 3, false⟩ : GAura), (⟨2, 1, 9, 1, 2, 4, false⟩ : GAura)], [], (⟨0, 0, []⟩ : GGrid), (⟨0, 0⟩ : GPos), (⟨0, 0⟩ : GPos)⟩ : GContent) (hero18 9 ([])) (hero18 6 ([])) (⟨2, 3, 0⟩ : GEffect) 0).1) (copyX ((doX (⟨[], [(⟨1, 5, 9, 0, 1, 3, false⟩ : GAura), (⟨2, 1, 9, 1, 2, 4, false⟩ : GAura)], [], (⟨0, 0, []⟩ : GGrid), (⟨0, 0⟩ : GPos), (⟨0, 0⟩ : GPos)⟩ : GContent) (hero18 9 ([])) (hero18 6 ([])) (⟨2, 3, 0⟩ : GEffect) 0).1))) := by
           unfold small18
           try dsimp only
           rewrite [if_pos g5, if_pos g7, if_pos g9, if_pos g11, if_pos g13, if_pos g15, if_pos g17, if_pos g19, if_pos g22]
           all_goals rfl
          rw [e24]
          exact answersR rfl ⟨trivial, trivial⟩ (rfl) rfl
         ·have g22 : ¬ (((((tickE (⟨[], [(⟨1, 5, 9, 0, 1, 3, false⟩ : GAura), (⟨2, 1, 9, 1, 2, 4, false⟩ : GAura)], [], (⟨0, 0, []⟩ : GGrid), (⟨0, 0⟩ : GPos), (⟨0, 0⟩ : GPos)⟩ : GContent) (hero18 9 ([(⟨2, 0, 2, 5, 3, 0⟩ : GActive)])) 5).2).getD 0 default).Aura : Int) = 2) := beq_f h22
          refine step_g0 rfl h22 rfl (step_g0 rfl h22 rfl (step_g0 rfl h22 rfl (step_g0 rfl h22 rfl (step_pickF rfl h22 rfl rfl (step_r rfl rfl trivial (step_nil (seqK_n (sem_ret ?_))))))))
          have e25 : small18 = false := by
           unfold small18
           try dsimp only
           rewrite [if_pos g5, if_pos g7, if_pos g9, if_pos g11, if_pos g13, if_pos g15, if_pos g17, if_pos g19, if_neg g22]
           all_goals rfl
          rw [e25]
          exact answersR rfl ⟨trivial, trivial⟩ (rfl) rfl
        ·have g19 : ¬ (((tickE (⟨[], [(⟨1, 5, 9, 0, 1, 3, false⟩ : GAura), (⟨2, 1, 9, 1, 2, 4, false⟩ : GAura)], [], (⟨0, 0, []⟩ : GGrid), (⟨0, 0⟩ : GPos), (⟨0, 0⟩ : GPos)⟩ : GContent) (hero18 9 ([(⟨2, 0, 2, 5, 3, 0⟩ : GActive)])) 5).2.length : Int) = 1) := beq_f h19
         refine step_g0 rfl h19 rfl (step_g0 rfl h19 rfl (step_g0 rfl h19 rfl (step_g0 rfl h19 rfl (step_g0 rfl h19 rfl (step_pickF rfl h19 rfl rfl (step_r rfl rfl trivial (step_gf rfl rfl (step_gf rfl rfl (step_gf rfl rfl (step_gf rfl rfl (step_r rfl rfl trivial ?_)))))))))))
         refine step_r rfl rfl trivial (step_nil (seqK_n (sem_ret ?_)))
         have e26 : small18 = false := by
          unfold small18
          try dsimp only
          rewrite [if_pos g5, if_pos g7, if_pos g9, if_pos g11, if_pos g13, if_pos g15, if_pos g17, if_neg g19]
          all_goals rfl
         rw [e26]
         exact answersR rfl ⟨trivial, trivial⟩ (rfl) rfl
       ·have g17 : ¬ ((((tickE (⟨[], [(⟨1, 5, 9, 0, 1, 3, false⟩ : GAura), (⟨2, 1, 9, 1, 2, 4, false⟩ : GAura)], [], (⟨0, 0, []⟩ : GGrid), (⟨0, 0⟩ : GPos), (⟨0, 0⟩ : GPos)⟩ : GContent) (hero18 9 ([(⟨2, 0, 2, 5, 3, 0⟩ : GActive)])) 5).1).Auras.length : Int) = 0) := beq_f h17
        refine step_g0 rfl h17 rfl (step_g0 rfl h17 rfl (step_g0 rfl h17 rfl (step_pickF rfl h17 rfl rfl (step_r rfl rfl trivial (step_gf rfl rfl (step_gf rfl rfl (step_gf rfl rfl (step_gf rfl rfl (step_gf rfl rfl (step_r rfl rfl trivial (step_r rfl rfl trivial ?_)))))))))))
        refine step_gf rfl rfl (step_gf rfl rfl (step_gf rfl rfl (step_gf rfl rfl (step_r rfl rfl trivial (step_r rfl rfl trivial (step_nil (seqK_n (sem_ret ?_))))))))
        have e27 : small18 = false := by
         unfold small18
         try dsimp only
         rewrite [if_pos g5, if_pos g7, if_pos g9, if_pos g11, if_pos g13, if_pos g15, if_neg g17]
         all_goals rfl
        rw [e27]
        exact answersR rfl ⟨trivial, trivial⟩ (rfl) rfl
      ·have g15 : ¬ ((((tickE (⟨[], [(⟨1, 5, 9, 0, 1, 3, false⟩ : GAura), (⟨2, 1, 9, 1, 2, 4, false⟩ : GAura)], [], (⟨0, 0, []⟩ : GGrid), (⟨0, 0⟩ : GPos), (⟨0, 0⟩ : GPos)⟩ : GContent) (hero18 9 ([(⟨2, 0, 2, 5, 3, 0⟩ : GActive)])) 5).1).Unit.Health : Int) = 1) := beq_f h15
       refine step_g0 rfl h15 rfl (step_g0 rfl h15 rfl (step_g0 rfl h15 rfl (step_g0 rfl h15 rfl (step_pickF rfl h15 rfl rfl (step_r rfl rfl trivial (step_gf rfl rfl (step_gf rfl rfl (step_gf rfl rfl (step_r rfl rfl trivial (step_r rfl rfl trivial (step_gf rfl rfl ?_)))))))))))
       refine step_gf rfl rfl (step_gf rfl rfl (step_gf rfl rfl (step_gf rfl rfl (step_r rfl rfl trivial (step_r rfl rfl trivial (step_gf rfl rfl (step_gf rfl rfl (step_gf rfl rfl (step_gf rfl rfl (step_r rfl rfl trivial (step_r rfl rfl trivial ?_)))))))))))
       refine step_nil (seqK_n (sem_ret ?_))
       have e28 : small18 = false := by
        unfold small18
        try dsimp only
        rewrite [if_pos g5, if_pos g7, if_pos g9, if_pos g11, if_pos g13, if_neg g15]
        all_goals rfl
       rw [e28]
       exact answersR rfl ⟨trivial, trivial⟩ (rfl) rfl
     ·have g13 : ¬ ((((doX (⟨[], [(⟨1, 5, 9, 0, 1, 3, false⟩ : GAura), (⟨2, 1, 9, 1, 2, 4, false⟩ : GAura)], [], (⟨0, 0, []⟩ : GGrid), (⟨0, 0⟩ : GPos), (⟨0, 0⟩ : GPos)⟩ : GContent) (hero18 9 ([])) (hero18 6 ([])) (⟨2, 3, 0⟩ : GEffect) 0).2).Done : Int) = 3) := beq_f h13
      refine step_g0 rfl h13 rfl (step_g0 rfl h13 rfl (step_g0 rfl h13 rfl (step_g0 rfl h13 rfl (step_pickF rfl h13 rfl rfl (step_r rfl rfl trivial (step_gf rfl rfl (step_gf rfl rfl (step_gf rfl rfl (step_gf rfl rfl (step_r rfl rfl trivial (step_r rfl rfl trivial ?_)))))))))))
      refine step_gf rfl rfl (step_gf rfl rfl (step_gf rfl rfl (step_r rfl rfl trivial (step_r rfl rfl trivial (step_gf rfl rfl (step_gf rfl rfl (step_gf rfl rfl (step_gf rfl rfl (step_gf rfl rfl (step_r rfl rfl trivial (step_r rfl rfl trivial ?_)))))))))))
      refine step_gf rfl rfl (step_gf rfl rfl (step_gf rfl rfl (step_gf rfl rfl (step_r rfl rfl trivial (step_r rfl rfl trivial (step_nil (seqK_n (sem_ret ?_))))))))
      have e29 : small18 = false := by
       unfold small18
       try dsimp only
       rewrite [if_pos g5, if_pos g7, if_pos g9, if_pos g11, if_neg g13]
       all_goals rfl
      rw [e29]
      exact answersR rfl ⟨trivial, trivial⟩ (rfl) rfl
    ·have g11 : ¬ ((((doX (⟨[], [(⟨1, 5, 9, 0, 1, 3, false⟩ : GAura), (⟨2, 1, 9, 1, 2, 4, false⟩ : GAura)], [], (⟨0, 0, []⟩ : GGrid), (⟨0, 0⟩ : GPos), (⟨0, 0⟩ : GPos)⟩ : GContent) (hero18 9 ([])) (hero18 6 ([])) (⟨2, 3, 0⟩ : GEffect) 0).1).Unit.Health : Int) = 9) := beq_f h11
     refine step_g0 rfl h11 rfl (step_g0 rfl h11 rfl (step_g0 rfl h11 rfl (step_pickF rfl h11 rfl rfl (step_r rfl rfl trivial (step_gf rfl rfl (step_gf rfl rfl (step_gf rfl rfl (step_gf rfl rfl (step_r rfl rfl trivial (step_r rfl rfl trivial (step_gf rfl rfl ?_)))))))))))
     refine step_gf rfl rfl (step_gf rfl rfl (step_gf rfl rfl (step_r rfl rfl trivial (step_r rfl rfl trivial (step_gf rfl rfl (step_gf rfl rfl (step_gf rfl rfl (step_r rfl rfl trivial (step_r rfl rfl trivial (step_gf rfl rfl (step_gf rfl rfl ?_)))))))))))
     refine step_gf rfl rfl (step_gf rfl rfl (step_gf rfl rfl (step_r rfl rfl trivial (step_r rfl rfl trivial (step_gf rfl rfl (step_gf rfl rfl (step_gf rfl rfl (step_gf rfl rfl (step_r rfl rfl trivial (step_r rfl rfl trivial (step_nil ?_)))))))))))
     refine seqK_n (sem_ret ?_)
     have e30 : small18 = false := by
      unfold small18
      try dsimp only
      rewrite [if_pos g5, if_pos g7, if_pos g9, if_neg g11]
      all_goals rfl
     rw [e30]
     exact answersR rfl ⟨trivial, trivial⟩ (rfl) rfl
   ·have g9 : ¬ ((((((doX (⟨[], [(⟨1, 5, 9, 0, 1, 3, false⟩ : GAura), (⟨2, 1, 9, 1, 2, 4, false⟩ : GAura)], [], (⟨0, 0, []⟩ : GGrid), (⟨0, 0⟩ : GPos), (⟨0, 0⟩ : GPos)⟩ : GContent) (hero18 9 ([])) (hero18 6 ([(⟨1, 0, 1, 9, 0, 3⟩ : GActive)])) (⟨1, 10, 0⟩ : GEffect) 0).2).Kind) == 1) && (((((doX (⟨[], [(⟨1, 5, 9, 0, 1, 3, false⟩ : GAura), (⟨2, 1, 9, 1, 2, 4, false⟩ : GAura)], [], (⟨0, 0, []⟩ : GGrid), (⟨0, 0⟩ : GPos), (⟨0, 0⟩ : GPos)⟩ : GContent) (hero18 9 ([])) (hero18 6 ([(⟨1, 0, 1, 9, 0, 3⟩ : GActive)])) (⟨1, 10, 0⟩ : GEffect) 0).2).Aura) == 0) && (((((doX (⟨[], [(⟨1, 5, 9, 0, 1, 3, false⟩ : GAura), (⟨2, 1, 9, 1, 2, 4, false⟩ : GAura)], [], (⟨0, 0, []⟩ : GGrid), (⟨0, 0⟩ : GPos), (⟨0, 0⟩ : GPos)⟩ : GContent) (hero18 9 ([])) (hero18 6 ([(⟨1, 0, 1, 9, 0, 3⟩ : GActive)])) (⟨1, 10, 0⟩ : GEffect) 0).2).Amount) == 10) && (((((doX (⟨[], [(⟨1, 5, 9, 0, 1, 3, false⟩ : GAura), (⟨2, 1, 9, 1, 2, 4, false⟩ : GAura)], [], (⟨0, 0, []⟩ : GGrid), (⟨0, 0⟩ : GPos), (⟨0, 0⟩ : GPos)⟩ : GContent) (hero18 9 ([])) (hero18 6 ([(⟨1, 0, 1, 9, 0, 3⟩ : GActive)])) (⟨1, 10, 0⟩ : GEffect) 0).2).Kept) == 3) && (((((doX (⟨[], [(⟨1, 5, 9, 0, 1, 3, false⟩ : GAura), (⟨2, 1, 9, 1, 2, 4, false⟩ : GAura)], [], (⟨0, 0, []⟩ : GGrid), (⟨0, 0⟩ : GPos), (⟨0, 0⟩ : GPos)⟩ : GContent) (hero18 9 ([])) (hero18 6 ([(⟨1, 0, 1, 9, 0, 3⟩ : GActive)])) (⟨1, 10, 0⟩ : GEffect) 0).2).Done) == 6) && true))))) = true) := boo_f h9
    refine step_g0 rfl h9 rfl (step_g0 rfl h9 rfl (step_g0 rfl h9 rfl (step_g0 rfl h9 rfl (step_pickF rfl h9 rfl rfl (step_r rfl rfl trivial (step_gf rfl rfl (step_gf rfl rfl (step_gf rfl rfl (step_r rfl rfl trivial (step_r rfl rfl trivial (step_gf rfl rfl ?_)))))))))))
    refine step_gf rfl rfl (step_gf rfl rfl (step_gf rfl rfl (step_r rfl rfl trivial (step_r rfl rfl trivial (step_gf rfl rfl (step_gf rfl rfl (step_gf rfl rfl (step_gf rfl rfl (step_r rfl rfl trivial (step_r rfl rfl trivial (step_gf rfl rfl ?_)))))))))))
    refine step_gf rfl rfl (step_gf rfl rfl (step_r rfl rfl trivial (step_r rfl rfl trivial (step_gf rfl rfl (step_gf rfl rfl (step_gf rfl rfl (step_gf rfl rfl (step_gf rfl rfl (step_r rfl rfl trivial (step_r rfl rfl trivial (step_gf rfl rfl ?_)))))))))))
    refine step_gf rfl rfl (step_gf rfl rfl (step_gf rfl rfl (step_r rfl rfl trivial (step_r rfl rfl trivial (step_nil (seqK_n (sem_ret ?_)))))))
    have e31 : small18 = false := by
     unfold small18
     try dsimp only
     rewrite [if_pos g5, if_pos g7, if_neg g9]
     all_goals rfl
    rw [e31]
    exact answersR rfl ⟨trivial, trivial⟩ (rfl) rfl
  ·have g7 : ¬ ((((doX (⟨[], [(⟨1, 5, 9, 0, 1, 3, false⟩ : GAura), (⟨2, 1, 9, 1, 2, 4, false⟩ : GAura)], [], (⟨0, 0, []⟩ : GGrid), (⟨0, 0⟩ : GPos), (⟨0, 0⟩ : GPos)⟩ : GContent) (hero18 9 ([])) (hero18 6 ([(⟨1, 0, 1, 9, 0, 3⟩ : GActive)])) (⟨1, 10, 0⟩ : GEffect) 0).1).Auras.length : Int) = 0) := beq_f h7
   refine step_g0 rfl h7 rfl (step_g0 rfl h7 rfl (step_g0 rfl h7 rfl (step_pickF rfl h7 rfl rfl (step_r rfl rfl trivial (step_gf rfl rfl (step_gf rfl rfl (step_gf rfl rfl (step_gf rfl rfl (step_r rfl rfl trivial (step_r rfl rfl trivial (step_gf rfl rfl ?_)))))))))))
   refine step_gf rfl rfl (step_gf rfl rfl (step_r rfl rfl trivial (step_r rfl rfl trivial (step_gf rfl rfl (step_gf rfl rfl (step_gf rfl rfl (step_gf rfl rfl (step_r rfl rfl trivial (step_r rfl rfl trivial (step_gf rfl rfl (step_gf rfl rfl ?_)))))))))))
   refine step_gf rfl rfl (step_gf rfl rfl (step_r rfl rfl trivial (step_r rfl rfl trivial (step_gf rfl rfl (step_gf rfl rfl (step_gf rfl rfl (step_r rfl rfl trivial (step_r rfl rfl trivial (step_gf rfl rfl (step_gf rfl rfl (step_gf rfl rfl ?_)))))))))))
   refine step_gf rfl rfl (step_gf rfl rfl (step_r rfl rfl trivial (step_r rfl rfl trivial (step_gf rfl rfl (step_gf rfl rfl (step_gf rfl rfl (step_gf rfl rfl (step_r rfl rfl trivial (step_r rfl rfl trivial (step_nil (seqK_n ?_)))))))))))
   refine sem_ret ?_
   have e32 : small18 = false := by
    unfold small18
    try dsimp only
    rewrite [if_pos g5, if_neg g7]
    all_goals rfl
   rw [e32]
   exact answersR rfl ⟨trivial, trivial⟩ (rfl) rfl
 ·have g5 : ¬ ((((doX (⟨[], [(⟨1, 5, 9, 0, 1, 3, false⟩ : GAura), (⟨2, 1, 9, 1, 2, 4, false⟩ : GAura)], [], (⟨0, 0, []⟩ : GGrid), (⟨0, 0⟩ : GPos), (⟨0, 0⟩ : GPos)⟩ : GContent) (hero18 9 ([])) (hero18 6 ([(⟨1, 0, 1, 9, 0, 3⟩ : GActive)])) (⟨1, 10, 0⟩ : GEffect) 0).1).Unit.Health : Int) = 0) := beq_f h5
  refine step_g0 rfl h5 rfl (step_g0 rfl h5 rfl (step_g0 rfl h5 rfl (step_g0 rfl h5 rfl (step_pickF rfl h5 rfl rfl (step_r rfl rfl trivial (step_gf rfl rfl (step_gf rfl rfl (step_gf rfl rfl (step_r rfl rfl trivial (step_r rfl rfl trivial (step_gf rfl rfl ?_)))))))))))
  refine step_gf rfl rfl (step_gf rfl rfl (step_gf rfl rfl (step_r rfl rfl trivial (step_r rfl rfl trivial (step_gf rfl rfl (step_gf rfl rfl (step_gf rfl rfl (step_r rfl rfl trivial (step_r rfl rfl trivial (step_gf rfl rfl (step_gf rfl rfl ?_)))))))))))
  refine step_gf rfl rfl (step_gf rfl rfl (step_r rfl rfl trivial (step_r rfl rfl trivial (step_gf rfl rfl (step_gf rfl rfl (step_gf rfl rfl (step_gf rfl rfl (step_r rfl rfl trivial (step_r rfl rfl trivial (step_gf rfl rfl (step_gf rfl rfl ?_)))))))))))
  refine step_gf rfl rfl (step_r rfl rfl trivial (step_r rfl rfl trivial (step_gf rfl rfl (step_gf rfl rfl (step_gf rfl rfl (step_gf rfl rfl (step_gf rfl rfl (step_r rfl rfl trivial (step_r rfl rfl trivial (step_gf rfl rfl (step_gf rfl rfl ?_)))))))))))
  refine step_gf rfl rfl (step_gf rfl rfl (step_r rfl rfl trivial (step_r rfl rfl trivial (step_nil (seqK_n (sem_ret ?_))))))
  have e33 : small18 = false := by
   unfold small18
   try dsimp only
   rewrite [if_neg g5]
   all_goals rfl
  rw [e33]
  exact answersR rfl ⟨trivial, trivial⟩ (rfl) rfl

def stays18_J21 (c : GContent) (from_ : GActor) (to : GActor) : Bool :=
  if few9 c = true then (if few18 from_ = true then (few18 to) else false) else false
def stays18_J84 (c : GContent) (from_ : GActor) (now : Int) (to0 : GActor) (x0 : GEffect) : Sum Bool Unit :=
  if (x0.Kind : Int) = 1 then (if (((doX c from_ to0 x0 now).2).Kept : Int) < 0 then .inl false else if (((doX c from_ to0 x0 now).2).Done : Int) < 0 then .inl false else if (IntKind.i64.wrap ((IntKind.i64.wrap ((((doX c from_ to0 x0 now).2).Amount) - (((doX c from_ to0 x0 now).2).Kept))) - (((doX c from_ to0 x0 now).2).Done)) : Int) < 0 then .inl false else if (IntKind.i64.wrap (to0.Unit.Health - (((doX c from_ to0 x0 now).1).Unit.Health)) : Int) = (((doX c from_ to0 x0 now).2).Done) then (if (IntKind.i64.wrap ((IntKind.i64.wrap ((((doX c from_ to0 x0 now).2).Amount) - (((doX c from_ to0 x0 now).2).Kept))) - (((doX c from_ to0 x0 now).2).Done)) : Int) > 0 then (if (((doX c from_ to0 x0 now).1).Unit.Health : Int) > 0 then .inl false else if (x0.Kind : Int) = 1 then .inr () else if (((doX c from_ to0 x0 now).1).Unit.Health : Int) < to0.Unit.Health then .inl false else .inr ()) else if (x0.Kind : Int) = 1 then .inr () else if (((doX c from_ to0 x0 now).1).Unit.Health : Int) < to0.Unit.Health then .inl false else .inr ()) else .inl false) else if (x0.Kind : Int) = 1 then .inr () else if (((doX c from_ to0 x0 now).1).Unit.Health : Int) < to0.Unit.Health then .inl false else .inr ()
def stays18_L0 (c : GContent) (from_ : GActor) (now : Int) : List GEffect → Nat → GActor → Sum Bool Unit
  | [], k0, to0 => .inr ()
  | x0 :: l_, k0, to0 => (match stays18_J84 c from_ now to0 x0 with
    | .inl r_ => .inl r_
    | .inr () => if Right (((doX c from_ to0 x0 now).1).Unit) then (if right15 c (((doX c from_ to0 x0 now).1).Auras) = true then (if Right (((tickE c ((doX c from_ to0 x0 now).1) now).1).Unit) then (if right15 c (((tickE c ((doX c from_ to0 x0 now).1) now).1).Auras) = true then (if (((doX c from_ to0 x0 now).1).Unit.Id : Int) = to0.Unit.Id then (if (((doX c from_ to0 x0 now).1).Name) = to0.Name then (if (((((tickE c ((doX c from_ to0 x0 now).1) now).1).Unit.At.X) == to0.Unit.At.X) && (((((tickE c ((doX c from_ to0 x0 now).1) now).1).Unit.At.Y) == to0.Unit.At.Y) && true)) = true then stays18_L0 c from_ now l_ (k0 + 1) ((tickE c ((doX c from_ to0 x0 now).1) now).1) else .inl false) else .inl false) else .inl false) else .inl false) else .inl false) else .inl false) else .inl false)
def stays18 (c : GContent) (from_ : GActor) (to : GActor) (l : List GEffect) (now : Int) : Bool :=
  (let ok_21 := stays18_J21 c from_ to; if ok_21 = true then (if (l.length : Int) > 30 then (small18) else if Right to.Unit then (if right15 c to.Auras = true then (match stays18_L0 c from_ now l 0 to with
    | .inl r_ => r_
    | .inr () => (small18)) else (small18)) else (small18)) else (small18))
theorem stays18_ok (c : GContent) (from_ : GActor) (to : GActor) (l : List GEffect) (l_f : Bool) (now : Int) : Ok Tryz.prog 3 [aGContent c, aGActor from_, aGActor to, .pv (.slc l.length l_f (l.flatMap encGEffect)), I now] [] (B (stays18 c from_ to l now)) [] [] := by
 refine Ok.len fun hlen => ?_
 have hl_c_Abilities : c.Abilities.length ≤ maxLen := hlen _ (by simp [lensL, lens, lensP])
 have hl_c_Auras : c.Auras.length ≤ maxLen := hlen _ (by simp [lensL, lens, lensP])
 have hl_c_Foes : c.Foes.length ≤ maxLen := hlen _ (by simp [lensL, lens, lensP])
 have hl_c_Map_Wall : c.Map.Wall.length ≤ maxLen := hlen _ (by simp [lensL, lens, lensP])
 have hl_from__Auras : from_.Auras.length ≤ maxLen := hlen _ (by simp [lensL, lens, lensP])
 have hl_from__Cools : from_.Cools.length ≤ maxLen := hlen _ (by simp [lensL, lens, lensP])
 have hl_to_Auras : to.Auras.length ≤ maxLen := hlen _ (by simp [lensL, lens, lensP])
 have hl_to_Cools : to.Cools.length ≤ maxLen := hlen _ (by simp [lensL, lens, lensP])
 have hl_l : l.length ≤ maxLen := hlen _ (by simp [lensL, lens, lensP])
 unfold maxLen at hl_c_Abilities hl_c_Auras hl_c_Foes hl_c_Map_Wall hl_from__Auras hl_from__Cools hl_to_Auras hl_to_Cools hl_l
 refine ok_of_sem Tryz.func3 rfl ?_
 show Walks Tryz.prog _ _ ⟨[(0, aGContent c), (1, aGActor from_), (2, aGActor to), (3, .pv (.slc l.length l_f (l.flatMap encGEffect))), (4, I now)], [], 0, [], 192, 0⟩
 refine sem_seq (sem_region rfl (step_n (o := .box [_, _, _, _, _, _, _, _, _, _]) (nx' := 1) rfl rfl rfl trivial (step_n (o := .box [_, _, _, _, _, _, _, _, _, _, _, _, _, _, _, _, _, _, _, _, _, _]) (nx' := 2) rfl rfl rfl trivial (step_n (o := .box [_, _, _, _, _, _, _, _, _, _, _, _, _, _, _, _, _, _, _, _, _, _]) (nx' := 3) rfl rfl rfl trivial (step_r rfl rfl trivial (step_nil (seqK_n (sem_seq (sem_region rfl (step_call rfl rfl rfl rfl (small18_ok ) rfl rfl rfl (step_r rfl rfl trivial ?_)))))))))))
 refine step_nil (seqK_n (sem_seq ?_))
 refine sem_cutW (fun ok_21 : Bool => (⟨[(3, .pv (.slc l.length l_f (l.flatMap encGEffect))), (4, I now), (5, .ptr 0 0), (6, .ptr 1 0), (7, .ptr 2 0), (11, B (small18)), (12, B ok_21)], [(0, .box [.pv (.slc c.Abilities.length false (c.Abilities.flatMap encGAbility)), .pv (.slc c.Auras.length false (c.Auras.flatMap encGAura)), .pv (.slc c.Foes.length false (c.Foes.flatMap encGFoe)), I c.Map.W, I c.Map.H, .pv (.slc c.Map.Wall.length false (encB c.Map.Wall)), I c.Door.X, I c.Door.Y, I c.Lair.X, I c.Lair.Y]), (1, .box [I from_.Unit.Id, I from_.Unit.Kind, I from_.Unit.Group, I from_.Unit.Health, I from_.Unit.MaxHealth, I from_.Unit.Power, I from_.Unit.MaxPower, I from_.Unit.At.X, I from_.Unit.At.Y, I from_.Unit.Casting, .pv (.str from_.Name), .pv (.slc from_.Auras.length false (from_.Auras.flatMap encGActive)), .pv (.slc from_.Cools.length false (from_.Cools.flatMap encGCool)), I from_.Casting.Now.Ability, I from_.Casting.Now.Target, I from_.Casting.Now.Since, I from_.Casting.Now.Until, I from_.Casting.Next.Ability, I from_.Casting.Next.Target, I from_.Casting.Next.Since, I from_.Casting.Next.Until, I from_.Casting.Wait]), (2, .box [I to.Unit.Id, I to.Unit.Kind, I to.Unit.Group, I to.Unit.Health, I to.Unit.MaxHealth, I to.Unit.Power, I to.Unit.MaxPower, I to.Unit.At.X, I to.Unit.At.Y, I to.Unit.Casting, .pv (.str to.Name), .pv (.slc to.Auras.length false (to.Auras.flatMap encGActive)), .pv (.slc to.Cools.length false (to.Cools.flatMap encGCool)), I to.Casting.Now.Ability, I to.Casting.Now.Target, I to.Casting.Now.Since, I to.Casting.Now.Until, I to.Casting.Next.Ability, I to.Casting.Next.Target, I to.Casting.Next.Since, I to.Casting.Next.Until, I to.Casting.Wait])], 3, [], 192, 0⟩ : St)) (fun ok_21 : Bool => stays18_J21 c from_ to = ok_21 ∧ (ok_21 = true → (Few9 c ∧ FewX from_ ∧ FewX to))) ?_ ?_
 ·refine sem_region rfl (step_r (v := (.agg [_, _, _, _, _, _, _, _, _, _])) rfl rfl (Nat.le_of_ble_eq_true rfl) (step_call rfl rfl rfl rfl (few9_ok c) rfl rfl rfl (step_r rfl rfl trivial ?_)))
  refine step_gs rfl (fun h4 => ?_) (fun h4 => ?_)
  ·have g4 : few9 c = true := h4
   have qg4 := few_of g4
   refine step_g1 rfl h4 (step_r (v := (.agg [_, _, _, _, _, _, _, _, _, _, _, _, _, _, _, _, _, _, _, _, _, _])) rfl rfl (Nat.le_of_ble_eq_true rfl) (step_g1 rfl h4 (step_call rfl rfl rfl rfl (few18_ok from_) rfl rfl rfl (step_pickT rfl h4 rfl rfl (step_r rfl rfl trivial ?_)))))
   refine step_gs rfl (fun h6 => ?_) (fun h6 => ?_)
   ·have g6 : few18 from_ = true := h6
    have qg6 := few18_of g6
    refine step_g1 rfl h6 (step_r (v := (.agg [_, _, _, _, _, _, _, _, _, _, _, _, _, _, _, _, _, _, _, _, _, _])) rfl rfl (Nat.le_of_ble_eq_true rfl) (step_g1 rfl h6 (step_call rfl rfl rfl rfl (few18_ok to) rfl rfl rfl (step_pickT rfl h6 rfl rfl (step_r rfl rfl trivial (step_nil ?_))))))
    have e8 : stays18_J21 c from_ to = (few18 to) := by
     unfold stays18_J21
     try dsimp only
     rewrite [if_pos g4, if_pos g6]
     all_goals rfl
    exact cutW_n (few18 to) ⟨e8, by first | assumption | (intro hj; first | exact ⟨by assumption, by assumption, few18_of hj⟩ | simp at hj) | omega | (simp; omega) | simp_all | grind⟩ (Trans.ren [] (by decide +kernel) (by decide +kernel) rfl ⟨⟨rfl, rfl⟩, ⟨rfl, rfl⟩, ⟨rfl, rfl⟩, ⟨rfl, rfl⟩, ⟨rfl, rfl⟩, ⟨rfl, rfl⟩, ⟨rfl, rfl⟩, trivial⟩ ⟨⟨rfl, rfl, rfl⟩, ⟨rfl, rfl, rfl⟩, ⟨rfl, rfl, rfl⟩, trivial⟩ (by decide))
   ·have g6 : ¬ (few18 from_ = true) := boo_f h6
    refine step_g0 rfl h6 rfl (step_g0 rfl h6 rfl (step_pickF rfl h6 rfl rfl (step_r rfl rfl trivial (step_nil ?_))))
    have e9 : stays18_J21 c from_ to = false := by
     unfold stays18_J21
     try dsimp only
     rewrite [if_pos g4, if_neg g6]
     all_goals rfl
    exact cutW_n false ⟨e9, by first | assumption | (intro hj; first | exact ⟨by assumption, by assumption, few18_of hj⟩ | simp at hj) | omega | (simp; omega) | simp_all | grind⟩ (Trans.ren [] (by decide +kernel) (by decide +kernel) rfl ⟨⟨rfl, rfl⟩, ⟨rfl, rfl⟩, ⟨rfl, rfl⟩, ⟨rfl, rfl⟩, ⟨rfl, rfl⟩, ⟨rfl, rfl⟩, ⟨rfl, rfl⟩, trivial⟩ ⟨⟨rfl, rfl, rfl⟩, ⟨rfl, rfl, rfl⟩, ⟨rfl, rfl, rfl⟩, trivial⟩ (by decide))
  ·have g4 : ¬ (few9 c = true) := boo_f h4
   refine step_g0 rfl h4 rfl (step_g0 rfl h4 rfl (step_pickF rfl h4 rfl rfl (step_r rfl rfl trivial (step_gf rfl rfl (step_gf rfl rfl (step_r rfl rfl trivial (step_r rfl rfl trivial (step_nil ?_))))))))
   have e10 : stays18_J21 c from_ to = false := by
    unfold stays18_J21
    try dsimp only
    rewrite [if_neg g4]
    all_goals rfl
   exact cutW_n false ⟨e10, by first | assumption | (intro hj; first | exact ⟨by assumption, by assumption, few18_of hj⟩ | simp at hj) | omega | (simp; omega) | simp_all | grind⟩ (Trans.ren [] (by decide +kernel) (by decide +kernel) rfl ⟨⟨rfl, rfl⟩, ⟨rfl, rfl⟩, ⟨rfl, rfl⟩, ⟨rfl, rfl⟩, ⟨rfl, rfl⟩, ⟨rfl, rfl⟩, ⟨rfl, rfl⟩, trivial⟩ ⟨⟨rfl, rfl, rfl⟩, ⟨rfl, rfl, rfl⟩, ⟨rfl, rfl, rfl⟩, trivial⟩ (by decide))
 ·rintro ok_21 ⟨(hJ2 : stays18_J21 c from_ to = ok_21), hK21⟩
  show seqK _ _ _ .normal (⟨[(3, .pv (.slc l.length l_f (l.flatMap encGEffect))), (4, I now), (5, .ptr 0 0), (6, .ptr 1 0), (7, .ptr 2 0), (11, B (small18)), (12, B ok_21)], [(0, .box [.pv (.slc c.Abilities.length false (c.Abilities.flatMap encGAbility)), .pv (.slc c.Auras.length false (c.Auras.flatMap encGAura)), .pv (.slc c.Foes.length false (c.Foes.flatMap encGFoe)), I c.Map.W, I c.Map.H, .pv (.slc c.Map.Wall.length false (encB c.Map.Wall)), I c.Door.X, I c.Door.Y, I c.Lair.X, I c.Lair.Y]), (1, .box [I from_.Unit.Id, I from_.Unit.Kind, I from_.Unit.Group, I from_.Unit.Health, I from_.Unit.MaxHealth, I from_.Unit.Power, I from_.Unit.MaxPower, I from_.Unit.At.X, I from_.Unit.At.Y, I from_.Unit.Casting, .pv (.str from_.Name), .pv (.slc from_.Auras.length false (from_.Auras.flatMap encGActive)), .pv (.slc from_.Cools.length false (from_.Cools.flatMap encGCool)), I from_.Casting.Now.Ability, I from_.Casting.Now.Target, I from_.Casting.Now.Since, I from_.Casting.Now.Until, I from_.Casting.Next.Ability, I from_.Casting.Next.Target, I from_.Casting.Next.Since, I from_.Casting.Next.Until, I from_.Casting.Wait]), (2, .box [I to.Unit.Id, I to.Unit.Kind, I to.Unit.Group, I to.Unit.Health, I to.Unit.MaxHealth, I to.Unit.Power, I to.Unit.MaxPower, I to.Unit.At.X, I to.Unit.At.Y, I to.Unit.Casting, .pv (.str to.Name), .pv (.slc to.Auras.length false (to.Auras.flatMap encGActive)), .pv (.slc to.Cools.length false (to.Cools.flatMap encGCool)), I to.Casting.Now.Ability, I to.Casting.Now.Target, I to.Casting.Now.Since, I to.Casting.Now.Until, I to.Casting.Next.Ability, I to.Casting.Next.Target, I to.Casting.Next.Since, I to.Casting.Next.Until, I to.Casting.Wait])], 3, [], 192, 0⟩ : St)
  refine seqK_n (sem_seq (sem_seq (sem_region rfl (step_r rfl rfl trivial (step_r rfl rfl trivial (step_r rfl rfl trivial ?_))))))
  refine step_gs rfl (fun h13 => ?_) (fun h13 => ?_)
  ·have g13 : ¬ (ok_21 = true) := boo_f (not_t h13)
   refine step_g0 rfl h13 rfl (step_g0 rfl h13 rfl (step_g0 rfl h13 rfl (step_pickT rfl h13 rfl rfl (step_r rfl rfl trivial (step_gf rfl rfl (step_gf rfl rfl (step_gf rfl rfl (step_gf rfl rfl (step_r rfl rfl trivial (step_r rfl rfl trivial (step_gf rfl rfl ?_)))))))))))
   refine step_gf rfl rfl (step_gf rfl rfl (step_gf rfl rfl (step_gf rfl rfl (step_r rfl rfl trivial (step_nil (seqK_n (sem_condT rfl (sem_seq (sem_region rfl (step_r rfl rfl trivial (step_r rfl rfl trivial ?_)))))))))))
   refine step_nil (seqK_n (sem_ret (seqK_r ?_)))
   have e15 : stays18 c from_ to l now = (small18) := by
    unfold stays18
    try dsimp only
    rewrite [hJ2]
    try dsimp only
    rewrite [if_neg g13]
    all_goals rfl
   rw [e15]
   exact answersR rfl ⟨trivial, trivial⟩ (rfl) rfl
  ·have g13 : ok_21 = true := (not_f h13)
   have hFF := (by assumption : ok_21 = true → (Few9 c ∧ FewX from_ ∧ FewX to)) g13
   have hF1 := hFF.1
   have hF2 := hFF.2.1
   have hF3 := hFF.2.2
   refine step_g1 rfl h13 (step_r rfl rfl trivial (step_g1 rfl h13 (step_r rfl rfl trivial (step_g1 rfl h13 (step_bin rfl rfl rfl rfl rfl trivial (step_pickF rfl h13 rfl rfl (step_r rfl rfl trivial ?_)))))))
   refine step_gs rfl (fun h17 => ?_) (fun h17 => ?_)
   ·have g17 : (l.length : Int) > 30 := of_decide_eq_true h17
    refine step_g0 rfl h17 rfl (step_g0 rfl h17 rfl (step_g0 rfl h17 rfl (step_g0 rfl h17 rfl (step_pickT rfl h17 rfl rfl (step_r rfl rfl trivial (step_gf rfl rfl (step_gf rfl rfl (step_gf rfl rfl (step_gf rfl rfl (step_gf rfl rfl (step_r rfl rfl trivial ?_)))))))))))
    refine step_nil (seqK_n (sem_condT rfl (sem_seq (sem_region rfl (step_r rfl rfl trivial (step_r rfl rfl trivial (step_nil (seqK_n (sem_ret (seqK_r ?_))))))))))
    have e19 : stays18 c from_ to l now = (small18) := by
     unfold stays18
     try dsimp only
     rewrite [hJ2]
     try dsimp only
     rewrite [if_pos g13, if_pos g17]
     all_goals rfl
    rw [e19]
    exact answersR rfl ⟨trivial, trivial⟩ (rfl) rfl
   ·have g17 : ¬ ((l.length : Int) > 30) := of_decide_eq_false h17
    refine step_g1 rfl h17 (step_r rfl rfl (by decide) (step_g1 rfl h17 (step_r (v := (.agg [_, _, _, _, _, _, _, _, _, _])) rfl rfl (Nat.le_of_ble_eq_true rfl) (step_g1 rfl h17 (step_call rfl rfl rfl rfl (right_ok to.Unit) rfl rfl rfl (step_g1 rfl h17 (step_r rfl rfl trivial (step_pickF rfl h17 rfl rfl (step_r rfl rfl trivial ?_)))))))))
    refine step_gs rfl (fun h21 => ?_) (fun h21 => ?_)
    ·have g21 : ¬ (Right to.Unit) := of_decide_eq_false (not_t h21)
     refine step_g0 rfl h21 rfl (step_g0 rfl h21 rfl (step_g0 rfl h21 rfl (step_g0 rfl h21 rfl (step_g0 rfl h21 rfl (step_pickT rfl h21 rfl rfl (step_nil (seqK_n (sem_condT rfl (sem_seq (sem_region rfl (step_r rfl rfl trivial ?_)))))))))))
     refine step_r rfl rfl trivial (step_nil (seqK_n (sem_ret (seqK_r ?_))))
     have e23 : stays18 c from_ to l now = (small18) := by
      unfold stays18
      try dsimp only
      rewrite [hJ2]
      try dsimp only
      rewrite [if_pos g13, if_neg g17, if_neg g21]
      all_goals rfl
     rw [e23]
     exact answersR rfl ⟨trivial, trivial⟩ (rfl) rfl
    ·have g21 : Right to.Unit := of_decide_eq_true (not_f h21)
     refine step_g1 rfl h21 (step_r (v := (.agg [_, _, _, _, _, _, _, _, _, _])) rfl rfl (Nat.le_of_ble_eq_true rfl) (step_g1 rfl h21 (step_r rfl rfl (by decide) (step_g1 rfl h21 (step_r rfl rfl trivial (step_g1 rfl h21 (step_call rfl rfl rfl rfl (right15_ok c to.Auras false (by first | assumption | exact few_small (by decide +kernel))) rfl rfl rfl (step_g1 rfl h21 (step_r rfl rfl trivial (step_pickF rfl h21 rfl rfl (step_nil ?_)))))))))))
     refine seqK_n ?_
     refine sem_cond rfl (fun h25 => ?_) (fun h25 => ?_)
     ·have g25 : ¬ (right15 c to.Auras = true) := boo_f (not_t h25)
      refine sem_seq (sem_region rfl (step_r rfl rfl trivial (step_r rfl rfl trivial (step_nil (seqK_n (sem_ret (seqK_r ?_)))))))
      have e27 : stays18 c from_ to l now = (small18) := by
       unfold stays18
       try dsimp only
       rewrite [hJ2]
       try dsimp only
       rewrite [if_pos g13, if_neg g17, if_pos g21, if_neg g25]
       all_goals rfl
      rw [e27]
      exact answersR rfl ⟨trivial, trivial⟩ (rfl) rfl
     ·have g25 : right15 c to.Auras = true := (not_f h25)
      have qg25 := right15_both g25
      refine sem_skip (seqK_n (sem_seq (sem_seq (sem_region rfl (step_r rfl rfl trivial (step_nil (seqK_n ?_)))))))
      refine sem_cutW (fun w_ : Unit => match w_ with | () => (⟨[(11, B (small18))], [], 0, [], 192, 0⟩ : St)) (fun w_ => stays18_L0 c from_ now l 0 to = .inr w_) ?_ ?_
      ·refine sem_block ?_
       refine sem_loopT (fun w_ : Nat × GActor => match w_ with | (k0, to0) => (⟨[(3, .pv (.slc l.length l_f (l.flatMap encGEffect))), (4, I now), (5, .ptr 0 0), (6, .ptr 1 0), (7, .ptr 2 0), (11, B (small18)), (13, I k0)], [(0, .box [.pv (.slc c.Abilities.length false (c.Abilities.flatMap encGAbility)), .pv (.slc c.Auras.length false (c.Auras.flatMap encGAura)), .pv (.slc c.Foes.length false (c.Foes.flatMap encGFoe)), I c.Map.W, I c.Map.H, .pv (.slc c.Map.Wall.length false (encB c.Map.Wall)), I c.Door.X, I c.Door.Y, I c.Lair.X, I c.Lair.Y]), (1, .box [I from_.Unit.Id, I from_.Unit.Kind, I from_.Unit.Group, I from_.Unit.Health, I from_.Unit.MaxHealth, I from_.Unit.Power, I from_.Unit.MaxPower, I from_.Unit.At.X, I from_.Unit.At.Y, I from_.Unit.Casting, .pv (.str from_.Name), .pv (.slc from_.Auras.length false (from_.Auras.flatMap encGActive)), .pv (.slc from_.Cools.length false (from_.Cools.flatMap encGCool)), I from_.Casting.Now.Ability, I from_.Casting.Now.Target, I from_.Casting.Now.Since, I from_.Casting.Now.Until, I from_.Casting.Next.Ability, I from_.Casting.Next.Target, I from_.Casting.Next.Since, I from_.Casting.Next.Until, I from_.Casting.Wait]), (2, .box [I to0.Unit.Id, I to0.Unit.Kind, I to0.Unit.Group, I to0.Unit.Health, I to0.Unit.MaxHealth, I to0.Unit.Power, I to0.Unit.MaxPower, I to0.Unit.At.X, I to0.Unit.At.Y, I to0.Unit.Casting, .pv (.str to0.Name), .pv (.slc to0.Auras.length false (to0.Auras.flatMap encGActive)), .pv (.slc to0.Cools.length false (to0.Cools.flatMap encGCool)), I to0.Casting.Now.Ability, I to0.Casting.Now.Target, I to0.Casting.Now.Since, I to0.Casting.Now.Until, I to0.Casting.Next.Ability, I to0.Casting.Next.Target, I to0.Casting.Next.Since, I to0.Casting.Next.Until, I to0.Casting.Wait])], 3, [], 192, 0⟩ : St)) (fun w_ : Nat × GActor => match w_ with | (k0, to0) => stays18_L0 c from_ now (l.drop k0) k0 to0 = stays18_L0 c from_ now l 0 to ∧ k0 ≤ l.length ∧ FewX to0) (fun w_ : Nat × GActor => match w_ with | (k0, to0) => l.length - k0) (0, to) (⟨rfl, Nat.zero_le _, by first | omega | simp | (simp; omega)⟩) ?_ (fun w_ hh_ => ?_)
       ·exact (Trans.ren [] (by decide +kernel) (by decide +kernel) rfl ⟨⟨rfl, rfl⟩, ⟨rfl, rfl⟩, ⟨rfl, rfl⟩, ⟨rfl, rfl⟩, ⟨rfl, rfl⟩, ⟨rfl, rfl⟩, ⟨rfl, rfl⟩, trivial⟩ ⟨⟨rfl, rfl, rfl⟩, ⟨rfl, rfl, rfl⟩, ⟨rfl, rfl, rfl⟩, trivial⟩ (by decide))
       obtain ⟨k0, to0⟩ := w_
       obtain ⟨hI0, hb0, hv0⟩ := hh_
       show Walks Tryz.prog _ _ (⟨[(3, .pv (.slc l.length l_f (l.flatMap encGEffect))), (4, I now), (5, .ptr 0 0), (6, .ptr 1 0), (7, .ptr 2 0), (11, B (small18)), (13, I k0)], [(0, .box [.pv (.slc c.Abilities.length false (c.Abilities.flatMap encGAbility)), .pv (.slc c.Auras.length false (c.Auras.flatMap encGAura)), .pv (.slc c.Foes.length false (c.Foes.flatMap encGFoe)), I c.Map.W, I c.Map.H, .pv (.slc c.Map.Wall.length false (encB c.Map.Wall)), I c.Door.X, I c.Door.Y, I c.Lair.X, I c.Lair.Y]), (1, .box [I from_.Unit.Id, I from_.Unit.Kind, I from_.Unit.Group, I from_.Unit.Health, I from_.Unit.MaxHealth, I from_.Unit.Power, I from_.Unit.MaxPower, I from_.Unit.At.X, I from_.Unit.At.Y, I from_.Unit.Casting, .pv (.str from_.Name), .pv (.slc from_.Auras.length false (from_.Auras.flatMap encGActive)), .pv (.slc from_.Cools.length false (from_.Cools.flatMap encGCool)), I from_.Casting.Now.Ability, I from_.Casting.Now.Target, I from_.Casting.Now.Since, I from_.Casting.Now.Until, I from_.Casting.Next.Ability, I from_.Casting.Next.Target, I from_.Casting.Next.Since, I from_.Casting.Next.Until, I from_.Casting.Wait]), (2, .box [I to0.Unit.Id, I to0.Unit.Kind, I to0.Unit.Group, I to0.Unit.Health, I to0.Unit.MaxHealth, I to0.Unit.Power, I to0.Unit.MaxPower, I to0.Unit.At.X, I to0.Unit.At.Y, I to0.Unit.Casting, .pv (.str to0.Name), .pv (.slc to0.Auras.length false (to0.Auras.flatMap encGActive)), .pv (.slc to0.Cools.length false (to0.Cools.flatMap encGCool)), I to0.Casting.Now.Ability, I to0.Casting.Now.Target, I to0.Casting.Now.Since, I to0.Casting.Now.Until, I to0.Casting.Next.Ability, I to0.Casting.Next.Target, I to0.Casting.Next.Since, I to0.Casting.Next.Until, I to0.Casting.Wait])], 3, [], 192, 0⟩ : St)
       refine sem_seq (sem_seq (sem_region rfl (step_r rfl rfl trivial (step_r rfl rfl trivial (step_r rfl rfl trivial (step_bin rfl rfl rfl rfl rfl trivial (step_nil (seqK_n ?_))))))))
       refine sem_cond rfl (fun h30 => ?_) (fun h30 => ?_)
       ·have g30 : (k0 : Int) < l.length := of_decide_eq_true h30
        have hk0 : k0 < l.length := by omega
        obtain ⟨x0, hx0⟩ : ∃ z_, l[k0]? = some z_ := ⟨_, List.getElem?_eq_getElem hk0⟩
        refine sem_skip (seqK_n (sem_seq (sem_block (sem_seq ?_))))
        refine sem_drawnE [(14, 11)] rfl (by decide +kernel) (by decide +kernel) rfl ?_
        refine step_r (v := (.agg [_, _, _, _, _, _, _, _, _, _])) rfl rfl (Nat.le_of_ble_eq_true rfl) (step_r (v := (.agg [_, _, _, _, _, _, _, _, _, _, _, _, _, _, _, _, _, _, _, _, _, _])) rfl rfl (Nat.le_of_ble_eq_true rfl) (step_r (v := (.agg [_, _, _, _, _, _, _, _, _, _, _, _, _, _, _, _, _, _, _, _, _, _])) rfl rfl (Nat.le_of_ble_eq_true rfl) (step_r rfl rfl trivial (step_r rfl rfl trivial (step_idxS (k := k0) rfl rfl rfl rfl hk0 (flat_ne (s := 3) (enc := encGEffect) (fun _ => rfl) (by decide) hk0) rfl (step_load_row rfl rfl rfl (flat_lt (s := 3) (enc := encGEffect) (fun _ => rfl) hk0) (flat_take (s := 3) (enc := encGEffect) (fun _ => rfl) hx0) rfl (step_r rfl rfl trivial (step_call rfl rfl rfl rfl (doX_ok c from_ to0 x0 now (by first | assumption | exact few_lit (Nat.le_of_ble_eq_true rfl) rfl)) rfl rfl rfl ?_))))))))
        have p32 := doX_few (c := c) (from_ := from_) (to := to0) (e := x0) (now := now) (by first | assumption | exact few_lit (Nat.le_of_ble_eq_true rfl) rfl)
        refine step_r rfl rfl trivial (step_r rfl rfl trivial (step_r rfl rfl trivial (step_n (o := .box [_, _, _, _, _, _, _, _, _, _, _, _, _, _, _, _, _, _, _, _, _, _]) (nx' := 4) rfl rfl rfl trivial (step_n (o := .box [_, _, _, _, _]) (nx' := 5) rfl rfl rfl trivial ?_))))
        refine step_storeB (H' := [(4, _), (3, .box [_, _, _, _, _, _, _, _, _, _, _, _, _, _, _, _, _, _, _, _, _, _]), (0, _), (1, _), (2, _)]) rfl rfl rfl rfl rfl rfl (.inr (by decide +kernel)) rfl ?_
        refine step_storeB (H' := [(4, .box [_, _, _, _, _]), (3, _), (0, _), (1, _), (2, _)]) rfl rfl rfl rfl rfl rfl (.inr (by decide +kernel)) rfl ?_
        refine step_nil (seqK_n (sem_seq (sem_region rfl (step_r rfl rfl (by decide) (step_r rfl rfl trivial (step_r rfl rfl (by decide) (step_r rfl rfl trivial (step_bin rfl rfl rfl rfl rfl trivial (step_r rfl rfl (by decide) (step_r rfl rfl trivial (step_bin rfl rfl rfl rfl rfl trivial ?_)))))))))))
        refine step_r rfl rfl trivial (step_nil (seqK_n (sem_seq (sem_region rfl (step_r rfl rfl trivial (step_r rfl rfl trivial (step_idxS (k := k0) rfl rfl rfl rfl hk0 (flat_ne (s := 3) (enc := encGEffect) (fun _ => rfl) (by decide) hk0) rfl (step_r rfl rfl (by decide) (step_load_one rfl rfl rfl (flat_get (s := 3) (enc := encGEffect) (fun _ => rfl) hx0 (o := 0) rfl (by decide)) rfl (step_bin rfl rfl rfl rfl rfl trivial (step_r rfl rfl trivial ?_)))))))))))
        refine step_nil (seqK_n (sem_seq ?_))
        refine sem_cutW (fun w_ : Unit => match w_ with | () => (⟨[(3, .pv (.slc l.length l_f (l.flatMap encGEffect))), (4, I now), (5, .ptr 0 0), (6, .ptr 1 0), (7, .ptr 2 0), (11, B (small18)), (13, I k0), (14, .ptr 3 0)], [(0, .box [.pv (.slc c.Abilities.length false (c.Abilities.flatMap encGAbility)), .pv (.slc c.Auras.length false (c.Auras.flatMap encGAura)), .pv (.slc c.Foes.length false (c.Foes.flatMap encGFoe)), I c.Map.W, I c.Map.H, .pv (.slc c.Map.Wall.length false (encB c.Map.Wall)), I c.Door.X, I c.Door.Y, I c.Lair.X, I c.Lair.Y]), (1, .box [I from_.Unit.Id, I from_.Unit.Kind, I from_.Unit.Group, I from_.Unit.Health, I from_.Unit.MaxHealth, I from_.Unit.Power, I from_.Unit.MaxPower, I from_.Unit.At.X, I from_.Unit.At.Y, I from_.Unit.Casting, .pv (.str from_.Name), .pv (.slc from_.Auras.length false (from_.Auras.flatMap encGActive)), .pv (.slc from_.Cools.length false (from_.Cools.flatMap encGCool)), I from_.Casting.Now.Ability, I from_.Casting.Now.Target, I from_.Casting.Now.Since, I from_.Casting.Now.Until, I from_.Casting.Next.Ability, I from_.Casting.Next.Target, I from_.Casting.Next.Since, I from_.Casting.Next.Until, I from_.Casting.Wait]), (2, .box [I to0.Unit.Id, I to0.Unit.Kind, I to0.Unit.Group, I to0.Unit.Health, I to0.Unit.MaxHealth, I to0.Unit.Power, I to0.Unit.MaxPower, I to0.Unit.At.X, I to0.Unit.At.Y, I to0.Unit.Casting, .pv (.str to0.Name), .pv (.slc to0.Auras.length false (to0.Auras.flatMap encGActive)), .pv (.slc to0.Cools.length false (to0.Cools.flatMap encGCool)), I to0.Casting.Now.Ability, I to0.Casting.Now.Target, I to0.Casting.Now.Since, I to0.Casting.Now.Until, I to0.Casting.Next.Ability, I to0.Casting.Next.Target, I to0.Casting.Next.Since, I to0.Casting.Next.Until, I to0.Casting.Wait]), (3, .box [I ((doX c from_ to0 x0 now).1).Unit.Id, I ((doX c from_ to0 x0 now).1).Unit.Kind, I ((doX c from_ to0 x0 now).1).Unit.Group, I ((doX c from_ to0 x0 now).1).Unit.Health, I ((doX c from_ to0 x0 now).1).Unit.MaxHealth, I ((doX c from_ to0 x0 now).1).Unit.Power, I ((doX c from_ to0 x0 now).1).Unit.MaxPower, I ((doX c from_ to0 x0 now).1).Unit.At.X, I ((doX c from_ to0 x0 now).1).Unit.At.Y, I ((doX c from_ to0 x0 now).1).Unit.Casting, .pv (.str ((doX c from_ to0 x0 now).1).Name), .pv (.slc ((doX c from_ to0 x0 now).1).Auras.length false (((doX c from_ to0 x0 now).1).Auras.flatMap encGActive)), .pv (.slc ((doX c from_ to0 x0 now).1).Cools.length false (((doX c from_ to0 x0 now).1).Cools.flatMap encGCool)), I ((doX c from_ to0 x0 now).1).Casting.Now.Ability, I ((doX c from_ to0 x0 now).1).Casting.Now.Target, I ((doX c from_ to0 x0 now).1).Casting.Now.Since, I ((doX c from_ to0 x0 now).1).Casting.Now.Until, I ((doX c from_ to0 x0 now).1).Casting.Next.Ability, I ((doX c from_ to0 x0 now).1).Casting.Next.Target, I ((doX c from_ to0 x0 now).1).Casting.Next.Since, I ((doX c from_ to0 x0 now).1).Casting.Next.Until, I ((doX c from_ to0 x0 now).1).Casting.Wait])], 4, [], 192, 0⟩ : St)) (fun w_ => stays18_J84 c from_ now to0 x0 = .inr w_) ?_ ?_
        ·refine sem_seq (sem_region rfl (step_r rfl rfl trivial (step_r rfl rfl trivial ?_)))
         refine step_gs rfl (fun h36 => ?_) (fun h36 => ?_)
         ·have g36 : (x0.Kind : Int) = 1 := beq_t h36
          refine step_g1 rfl h36 (step_r rfl rfl (by decide) (step_g1 rfl h36 (step_r rfl rfl trivial (step_g1 rfl h36 (step_bin rfl rfl rfl rfl rfl trivial (step_g1 rfl h36 (step_r rfl rfl trivial ?_)))))))
          refine step_gs rfl (fun h38 => ?_) (fun h38 => ?_)
          ·have g38 : (((doX c from_ to0 x0 now).2).Kept : Int) < 0 := of_decide_eq_true h38
           refine step_g0 rfl h38 rfl (step_g0 rfl h38 rfl (step_g0 rfl h38 rfl (step_g1 rfl h36 (step_pickT rfl h38 rfl rfl (step_g1 rfl h36 (step_r rfl rfl trivial (step_gf rfl rfl (step_gf rfl rfl (step_g1 rfl h36 (step_r rfl rfl trivial (step_g1 rfl h36 ?_)))))))))))
           refine step_r rfl rfl trivial (step_gf rfl rfl (step_gf rfl rfl (step_gf rfl rfl (step_gf rfl rfl (step_gf rfl rfl (step_gf rfl rfl (step_gf rfl rfl (step_gf rfl rfl (step_gf rfl rfl (step_gf rfl rfl (step_g1 rfl h36 ?_)))))))))))
           refine step_r rfl rfl trivial (step_g1 rfl h36 (step_r rfl rfl trivial (step_gf rfl rfl (step_gf rfl rfl (step_gf rfl rfl (step_gf rfl rfl (step_gf rfl rfl (step_gf rfl rfl (step_gf rfl rfl (step_gf rfl rfl (step_g1 rfl h36 ?_)))))))))))
           refine step_r rfl rfl trivial (step_pickT rfl h36 rfl rfl (step_r rfl rfl trivial (step_gf rfl rfl (step_gf rfl rfl (step_gf rfl rfl (step_gf rfl rfl (step_gf rfl rfl (step_gf rfl rfl (step_gf rfl rfl (step_gf rfl rfl (step_gf rfl rfl ?_)))))))))))
           refine step_gf rfl rfl (step_gf rfl rfl (step_r rfl rfl trivial (step_nil (seqK_n (sem_condT rfl (sem_seq (sem_region rfl (step_r rfl rfl trivial (step_nil (seqK_n (sem_ret ?_)))))))))))
           refine cutW_r (seqK_r (blkK_r (seqK_r (lupK_r (blkK_r (cutW_r (seqK_r ?_)))))))
           have e39 : stays18_J84 c from_ now to0 x0 = .inl false := by
            unfold stays18_J84
            try dsimp only
            rewrite [if_pos g36, if_pos g38]
            all_goals rfl
           have e40 : stays18_L0 c from_ now l 0 to = .inl false := by
            rewrite [← hI0, drop_cons hx0]
            rewrite [stays18_L0]
            try dsimp only
            rewrite [e39]
            try dsimp only
            all_goals rfl
           have e41 : stays18 c from_ to l now = false := by
            unfold stays18
            try dsimp only
            rewrite [hJ2]
            try dsimp only
            rewrite [if_pos g13, if_neg g17, if_pos g21, if_pos g25, e40]
            try dsimp only
            all_goals rfl
           rw [e41]
           exact answersR rfl ⟨trivial, trivial⟩ (rfl) rfl
          ·have g38 : ¬ ((((doX c from_ to0 x0 now).2).Kept : Int) < 0) := of_decide_eq_false h38
           refine step_g1 rfl h38 (step_r rfl rfl (by decide) (step_g1 rfl h38 (step_r rfl rfl trivial (step_g1 rfl h38 (step_bin rfl rfl rfl rfl rfl trivial (step_g1 rfl h36 (step_pickF rfl h38 rfl rfl (step_g1 rfl h36 (step_r rfl rfl trivial ?_)))))))))
           refine step_gs rfl (fun h43 => ?_) (fun h43 => ?_)
           ·have g43 : (((doX c from_ to0 x0 now).2).Done : Int) < 0 := of_decide_eq_true h43
            refine step_g0 rfl h43 rfl (step_g0 rfl h43 rfl (step_g1 rfl h36 (step_pickT rfl h43 rfl rfl (step_g1 rfl h36 (step_r rfl rfl trivial (step_gf rfl rfl (step_gf rfl rfl (step_gf rfl rfl (step_gf rfl rfl (step_gf rfl rfl (step_gf rfl rfl ?_)))))))))))
            refine step_gf rfl rfl (step_gf rfl rfl (step_gf rfl rfl (step_gf rfl rfl (step_g1 rfl h36 (step_r rfl rfl trivial (step_g1 rfl h36 (step_r rfl rfl trivial (step_gf rfl rfl (step_gf rfl rfl (step_gf rfl rfl (step_gf rfl rfl ?_)))))))))))
            refine step_gf rfl rfl (step_gf rfl rfl (step_gf rfl rfl (step_gf rfl rfl (step_g1 rfl h36 (step_r rfl rfl trivial (step_pickT rfl h36 rfl rfl (step_r rfl rfl trivial (step_gf rfl rfl (step_gf rfl rfl (step_gf rfl rfl (step_gf rfl rfl ?_)))))))))))
            refine step_gf rfl rfl (step_gf rfl rfl (step_gf rfl rfl (step_gf rfl rfl (step_gf rfl rfl (step_gf rfl rfl (step_gf rfl rfl (step_r rfl rfl trivial (step_nil (seqK_n (sem_condT rfl (sem_seq ?_)))))))))))
            refine sem_region rfl (step_r rfl rfl trivial (step_nil (seqK_n (sem_ret (cutW_r (seqK_r (blkK_r (seqK_r (lupK_r (blkK_r (cutW_r ?_)))))))))))
            refine seqK_r ?_
            have e44 : stays18_J84 c from_ now to0 x0 = .inl false := by
             unfold stays18_J84
             try dsimp only
             rewrite [if_pos g36, if_neg g38, if_pos g43]
             all_goals rfl
            have e45 : stays18_L0 c from_ now l 0 to = .inl false := by
             rewrite [← hI0, drop_cons hx0]
             rewrite [stays18_L0]
             try dsimp only
             rewrite [e44]
             try dsimp only
             all_goals rfl
            have e46 : stays18 c from_ to l now = false := by
             unfold stays18
             try dsimp only
             rewrite [hJ2]
             try dsimp only
             rewrite [if_pos g13, if_neg g17, if_pos g21, if_pos g25, e45]
             try dsimp only
             all_goals rfl
            rw [e46]
            exact answersR rfl ⟨trivial, trivial⟩ (rfl) rfl
           ·have g43 : ¬ ((((doX c from_ to0 x0 now).2).Done : Int) < 0) := of_decide_eq_false h43
            refine step_g1 rfl h43 (step_r rfl rfl trivial (step_g1 rfl h43 (step_bin rfl rfl rfl rfl rfl trivial (step_g1 rfl h36 (step_pickF rfl h43 rfl rfl (step_g1 rfl h36 (step_r rfl rfl trivial ?_)))))))
            refine step_gs rfl (fun h48 => ?_) (fun h48 => ?_)
            ·have g48 : (IntKind.i64.wrap ((IntKind.i64.wrap ((((doX c from_ to0 x0 now).2).Amount) - (((doX c from_ to0 x0 now).2).Kept))) - (((doX c from_ to0 x0 now).2).Done)) : Int) < 0 := of_decide_eq_true h48
             refine step_g0 rfl h48 rfl (step_g0 rfl h48 rfl (step_g0 rfl h48 rfl (step_g0 rfl h48 rfl (step_g0 rfl h48 rfl (step_g0 rfl h48 rfl (step_g0 rfl h48 rfl (step_g0 rfl h48 rfl (step_g0 rfl h48 rfl (step_g0 rfl h48 rfl (step_g1 rfl h36 (step_pickT rfl h48 rfl rfl ?_)))))))))))
             refine step_g1 rfl h36 (step_r rfl rfl trivial (step_gf rfl rfl (step_gf rfl rfl (step_gf rfl rfl (step_gf rfl rfl (step_gf rfl rfl (step_gf rfl rfl (step_gf rfl rfl (step_gf rfl rfl (step_g1 rfl h36 (step_r rfl rfl trivial ?_)))))))))))
             refine step_pickT rfl h36 rfl rfl (step_r rfl rfl trivial (step_gf rfl rfl (step_gf rfl rfl (step_gf rfl rfl (step_gf rfl rfl (step_gf rfl rfl (step_gf rfl rfl (step_gf rfl rfl (step_gf rfl rfl (step_gf rfl rfl (step_gf rfl rfl ?_)))))))))))
             refine step_gf rfl rfl (step_r rfl rfl trivial (step_nil (seqK_n (sem_condT rfl (sem_seq (sem_region rfl (step_r rfl rfl trivial (step_nil (seqK_n (sem_ret (cutW_r ?_)))))))))))
             refine seqK_r (blkK_r (seqK_r (lupK_r (blkK_r (cutW_r (seqK_r ?_))))))
             have e49 : stays18_J84 c from_ now to0 x0 = .inl false := by
              unfold stays18_J84
              try dsimp only
              rewrite [if_pos g36, if_neg g38, if_neg g43, if_pos g48]
              all_goals rfl
             have e50 : stays18_L0 c from_ now l 0 to = .inl false := by
              rewrite [← hI0, drop_cons hx0]
              rewrite [stays18_L0]
              try dsimp only
              rewrite [e49]
              try dsimp only
              all_goals rfl
             have e51 : stays18 c from_ to l now = false := by
              unfold stays18
              try dsimp only
              rewrite [hJ2]
              try dsimp only
              rewrite [if_pos g13, if_neg g17, if_pos g21, if_pos g25, e50]
              try dsimp only
              all_goals rfl
             rw [e51]
             exact answersR rfl ⟨trivial, trivial⟩ (rfl) rfl
            ·have g48 : ¬ ((IntKind.i64.wrap ((IntKind.i64.wrap ((((doX c from_ to0 x0 now).2).Amount) - (((doX c from_ to0 x0 now).2).Kept))) - (((doX c from_ to0 x0 now).2).Done)) : Int) < 0) := of_decide_eq_false h48
             refine step_g1 rfl h48 (step_r rfl rfl (by decide) (step_g1 rfl h48 (step_r rfl rfl (by decide) (step_g1 rfl h48 (step_r rfl rfl trivial (step_g1 rfl h48 (step_r rfl rfl (by decide) (step_g1 rfl h48 (step_r rfl rfl (by decide) (step_g1 rfl h48 (step_r rfl rfl trivial ?_)))))))))))
             refine step_g1 rfl h48 (step_bin rfl rfl rfl rfl rfl trivial (step_g1 rfl h48 (step_r rfl rfl (by decide) (step_g1 rfl h48 (step_r rfl rfl trivial (step_g1 rfl h48 (step_bin rfl rfl rfl rfl rfl trivial (step_g1 rfl h36 (step_pickF rfl h48 rfl rfl (step_g1 rfl h36 (step_r rfl rfl trivial ?_)))))))))))
             refine step_gs rfl (fun h53 => ?_) (fun h53 => ?_)
             ·have g53 : ¬ ((IntKind.i64.wrap (to0.Unit.Health - (((doX c from_ to0 x0 now).1).Unit.Health)) : Int) = (((doX c from_ to0 x0 now).2).Done)) := bne_t h53
              refine step_g0 rfl h53 rfl (step_g0 rfl h53 rfl (step_g0 rfl h53 rfl (step_gf rfl rfl (step_gf rfl rfl (step_gf rfl rfl (step_gf rfl rfl (step_g0 rfl h53 rfl (step_g1 rfl h36 (step_pickT rfl h53 rfl rfl (step_pickT rfl h36 rfl rfl (step_r rfl rfl trivial ?_)))))))))))
              refine step_gf rfl rfl (step_gf rfl rfl (step_gf rfl rfl (step_gf rfl rfl (step_gf rfl rfl (step_gf rfl rfl (step_gf rfl rfl (step_gf rfl rfl (step_gf rfl rfl (step_gf rfl rfl (step_gf rfl rfl (step_r rfl rfl trivial ?_)))))))))))
              refine step_nil (seqK_n (sem_condT rfl (sem_seq (sem_region rfl (step_r rfl rfl trivial (step_nil (seqK_n (sem_ret (cutW_r (seqK_r (blkK_r ?_)))))))))))
              refine seqK_r (lupK_r (blkK_r (cutW_r (seqK_r ?_))))
              have e54 : stays18_J84 c from_ now to0 x0 = .inl false := by
               unfold stays18_J84
               try dsimp only
               rewrite [if_pos g36, if_neg g38, if_neg g43, if_neg g48, if_neg g53]
               all_goals rfl
              have e55 : stays18_L0 c from_ now l 0 to = .inl false := by
               rewrite [← hI0, drop_cons hx0]
               rewrite [stays18_L0]
               try dsimp only
               rewrite [e54]
               try dsimp only
               all_goals rfl
              have e56 : stays18 c from_ to l now = false := by
               unfold stays18
               try dsimp only
               rewrite [hJ2]
               try dsimp only
               rewrite [if_pos g13, if_neg g17, if_pos g21, if_pos g25, e55]
               try dsimp only
               all_goals rfl
              rw [e56]
              exact answersR rfl ⟨trivial, trivial⟩ (rfl) rfl
             ·have g53 : (IntKind.i64.wrap (to0.Unit.Health - (((doX c from_ to0 x0 now).1).Unit.Health)) : Int) = (((doX c from_ to0 x0 now).2).Done) := bne_f h53
              refine step_g1 rfl h53 (step_r rfl rfl trivial (step_g1 rfl h53 (step_bin rfl rfl rfl rfl rfl trivial (step_g1 rfl h53 (step_r rfl rfl trivial ?_)))))
              refine step_gs rfl (fun h58 => ?_) (fun h58 => ?_)
              ·have g58 : (IntKind.i64.wrap ((IntKind.i64.wrap ((((doX c from_ to0 x0 now).2).Amount) - (((doX c from_ to0 x0 now).2).Kept))) - (((doX c from_ to0 x0 now).2).Done)) : Int) > 0 := of_decide_eq_true h58
               refine step_g1 rfl h58 (step_r rfl rfl (by decide) (step_g1 rfl h58 (step_r rfl rfl (by decide) (step_g1 rfl h58 (step_r rfl rfl trivial (step_g1 rfl h58 (step_bin rfl rfl rfl rfl rfl trivial (step_g1 rfl h53 (step_pickT rfl h58 rfl rfl (step_g1 rfl h36 (step_pickF rfl h53 rfl rfl ?_)))))))))))
               refine step_pickT rfl h36 rfl rfl (step_r rfl rfl trivial ?_)
               refine step_gs rfl (fun h60 => ?_) (fun h60 => ?_)
               ·have g60 : (((doX c from_ to0 x0 now).1).Unit.Health : Int) > 0 := of_decide_eq_true h60
                refine step_g0 rfl h60 rfl (step_g0 rfl h60 rfl (step_g0 rfl h60 rfl (step_gf rfl rfl (step_gf rfl rfl (step_gf rfl rfl (step_gf rfl rfl (step_gf rfl rfl (step_gf rfl rfl (step_gf rfl rfl (step_g0 rfl h60 rfl (step_pickT rfl h60 rfl rfl ?_)))))))))))
                refine step_nil (seqK_n (sem_condT rfl (sem_seq (sem_region rfl (step_r rfl rfl trivial (step_nil (seqK_n (sem_ret (cutW_r (seqK_r (blkK_r ?_)))))))))))
                refine seqK_r (lupK_r (blkK_r (cutW_r (seqK_r ?_))))
                have e61 : stays18_J84 c from_ now to0 x0 = .inl false := by
                 unfold stays18_J84
                 try dsimp only
                 rewrite [if_pos g36, if_neg g38, if_neg g43, if_neg g48, if_pos g53, if_pos g58, if_pos g60]
                 all_goals rfl
                have e62 : stays18_L0 c from_ now l 0 to = .inl false := by
                 rewrite [← hI0, drop_cons hx0]
                 rewrite [stays18_L0]
                 try dsimp only
                 rewrite [e61]
                 try dsimp only
                 all_goals rfl
                have e63 : stays18 c from_ to l now = false := by
                 unfold stays18
                 try dsimp only
                 rewrite [hJ2]
                 try dsimp only
                 rewrite [if_pos g13, if_neg g17, if_pos g21, if_pos g25, e62]
                 try dsimp only
                 all_goals rfl
                rw [e63]
                exact answersR rfl ⟨trivial, trivial⟩ (rfl) rfl
               ·have g60 : ¬ ((((doX c from_ to0 x0 now).1).Unit.Health : Int) > 0) := of_decide_eq_false h60
                refine step_g1 rfl h60 (step_r rfl rfl trivial (step_g1 rfl h60 (step_r rfl rfl trivial (step_g1 rfl h60 (step_r rfl rfl trivial ?_)))))
                refine step_gs rfl (fun h65 => ?_) (fun h65 => ?_)
                ·have g65 : ¬ ((x0.Kind : Int) = 1) := beq_f (not_t h65)
                 refine step_g1 rfl h65 (step_r rfl rfl (by decide) (step_g1 rfl h65 (step_r rfl rfl (by decide) (step_g1 rfl h65 (step_r rfl rfl trivial (step_g1 rfl h65 (step_r rfl rfl (by decide) (step_g1 rfl h65 (step_r rfl rfl (by decide) (step_g1 rfl h65 (step_r rfl rfl trivial ?_)))))))))))
                 refine step_g1 rfl h65 (step_bin rfl rfl rfl rfl rfl trivial (step_g1 rfl h60 (step_pickT rfl h65 rfl rfl (step_pickF rfl h60 rfl rfl (step_nil (seqK_n ?_))))))
                 refine sem_cond rfl (fun h67 => ?_) (fun h67 => ?_)
                 ·have g67 : (((doX c from_ to0 x0 now).1).Unit.Health : Int) < to0.Unit.Health := of_decide_eq_true h67
                  refine sem_seq (sem_region rfl (step_r rfl rfl trivial (step_nil (seqK_n (sem_ret (cutW_r (seqK_r (blkK_r (seqK_r (lupK_r (blkK_r ?_)))))))))))
                  refine cutW_r (seqK_r ?_)
                  have e68 : stays18_J84 c from_ now to0 x0 = .inl false := by
                   unfold stays18_J84
                   try dsimp only
                   rewrite [if_pos g36, if_neg g38, if_neg g43, if_neg g48, if_pos g53, if_pos g58, if_neg g60, if_neg g65, if_pos g67]
                   all_goals rfl
                  have e69 : stays18_L0 c from_ now l 0 to = .inl false := by
                   rewrite [← hI0, drop_cons hx0]
                   rewrite [stays18_L0]
                   try dsimp only
                   rewrite [e68]
                   try dsimp only
                   all_goals rfl
                  have e70 : stays18 c from_ to l now = false := by
                   unfold stays18
                   try dsimp only
                   rewrite [hJ2]
                   try dsimp only
                   rewrite [if_pos g13, if_neg g17, if_pos g21, if_pos g25, e69]
                   try dsimp only
                   all_goals rfl
                  rw [e70]
                  exact answersR rfl ⟨trivial, trivial⟩ (rfl) rfl
                 ·have g67 : ¬ ((((doX c from_ to0 x0 now).1).Unit.Health : Int) < to0.Unit.Health) := of_decide_eq_false h67
                  refine sem_skip ?_
                  have e71 : stays18_J84 c from_ now to0 x0 = .inr () := by
                   unfold stays18_J84
                   try dsimp only
                   rewrite [if_pos g36, if_neg g38, if_neg g43, if_neg g48, if_pos g53, if_pos g58, if_neg g60, if_neg g65, if_neg g67]
                   all_goals rfl
                  exact cutW_n () e71 (Trans.ren [] (by decide +kernel) (by decide +kernel) rfl ⟨⟨rfl, rfl⟩, ⟨rfl, rfl⟩, ⟨rfl, rfl⟩, ⟨rfl, rfl⟩, ⟨rfl, rfl⟩, ⟨rfl, rfl⟩, ⟨rfl, rfl⟩, ⟨rfl, rfl⟩, trivial⟩ ⟨⟨rfl, rfl, rfl⟩, ⟨rfl, rfl, rfl⟩, ⟨rfl, rfl, rfl⟩, ⟨rfl, rfl, rfl⟩, trivial⟩ (by decide))
                ·have g65 : (x0.Kind : Int) = 1 := beq_t (not_f h65)
                 refine step_g0 rfl h65 rfl (step_g0 rfl h65 rfl (step_g0 rfl h65 rfl (step_g0 rfl h65 rfl (step_g0 rfl h65 rfl (step_g0 rfl h65 rfl (step_g0 rfl h65 rfl (step_g1 rfl h60 (step_pickF rfl h65 rfl rfl (step_pickF rfl h60 rfl rfl (step_nil (seqK_n ?_)))))))))))
                 refine sem_condF rfl (sem_skip ?_)
                 have e72 : stays18_J84 c from_ now to0 x0 = .inr () := by
                  unfold stays18_J84
                  try dsimp only
                  rewrite [if_pos g36, if_neg g38, if_neg g43, if_neg g48, if_pos g53, if_pos g58, if_neg g60, if_pos g65]
                  all_goals rfl
                 exact cutW_n () e72 (Trans.ren [] (by decide +kernel) (by decide +kernel) rfl ⟨⟨rfl, rfl⟩, ⟨rfl, rfl⟩, ⟨rfl, rfl⟩, ⟨rfl, rfl⟩, ⟨rfl, rfl⟩, ⟨rfl, rfl⟩, ⟨rfl, rfl⟩, ⟨rfl, rfl⟩, trivial⟩ ⟨⟨rfl, rfl, rfl⟩, ⟨rfl, rfl, rfl⟩, ⟨rfl, rfl, rfl⟩, ⟨rfl, rfl, rfl⟩, trivial⟩ (by decide))
              ·have g58 : ¬ ((IntKind.i64.wrap ((IntKind.i64.wrap ((((doX c from_ to0 x0 now).2).Amount) - (((doX c from_ to0 x0 now).2).Kept))) - (((doX c from_ to0 x0 now).2).Done)) : Int) > 0) := of_decide_eq_false h58
               refine step_g0 rfl h58 rfl (step_g0 rfl h58 rfl (step_g0 rfl h58 rfl (step_g0 rfl h58 rfl (step_g1 rfl h53 (step_pickF rfl h58 rfl rfl (step_g1 rfl h36 (step_pickF rfl h53 rfl rfl (step_pickT rfl h36 rfl rfl (step_r rfl rfl trivial (step_gt rfl (step_r rfl rfl trivial ?_)))))))))))
               refine step_gt rfl (step_r rfl rfl trivial (step_gt rfl (step_r rfl rfl trivial ?_)))
               refine step_gs rfl (fun h74 => ?_) (fun h74 => ?_)
               ·have g74 : ¬ ((x0.Kind : Int) = 1) := beq_f (not_t h74)
                refine step_g1 rfl h74 (step_r rfl rfl (by decide) (step_g1 rfl h74 (step_r rfl rfl (by decide) (step_g1 rfl h74 (step_r rfl rfl trivial (step_g1 rfl h74 (step_r rfl rfl (by decide) (step_g1 rfl h74 (step_r rfl rfl (by decide) (step_g1 rfl h74 (step_r rfl rfl trivial ?_)))))))))))
                refine step_g1 rfl h74 (step_bin rfl rfl rfl rfl rfl trivial (step_gt rfl (step_pickT rfl h74 rfl rfl (step_r rfl rfl trivial (step_nil (seqK_n ?_))))))
                refine sem_cond rfl (fun h76 => ?_) (fun h76 => ?_)
                ·have g76 : (((doX c from_ to0 x0 now).1).Unit.Health : Int) < to0.Unit.Health := of_decide_eq_true h76
                 refine sem_seq (sem_region rfl (step_r rfl rfl trivial (step_nil (seqK_n (sem_ret (cutW_r (seqK_r (blkK_r (seqK_r (lupK_r (blkK_r ?_)))))))))))
                 refine cutW_r (seqK_r ?_)
                 have e77 : stays18_J84 c from_ now to0 x0 = .inl false := by
                  unfold stays18_J84
                  try dsimp only
                  rewrite [if_pos g36, if_neg g38, if_neg g43, if_neg g48, if_pos g53, if_neg g58, if_neg g74, if_pos g76]
                  all_goals rfl
                 have e78 : stays18_L0 c from_ now l 0 to = .inl false := by
                  rewrite [← hI0, drop_cons hx0]
                  rewrite [stays18_L0]
                  try dsimp only
                  rewrite [e77]
                  try dsimp only
                  all_goals rfl
                 have e79 : stays18 c from_ to l now = false := by
                  unfold stays18
                  try dsimp only
                  rewrite [hJ2]
                  try dsimp only
                  rewrite [if_pos g13, if_neg g17, if_pos g21, if_pos g25, e78]
                  try dsimp only
                  all_goals rfl
                 rw [e79]
                 exact answersR rfl ⟨trivial, trivial⟩ (rfl) rfl
                ·have g76 : ¬ ((((doX c from_ to0 x0 now).1).Unit.Health : Int) < to0.Unit.Health) := of_decide_eq_false h76
                 refine sem_skip ?_
                 have e80 : stays18_J84 c from_ now to0 x0 = .inr () := by
                  unfold stays18_J84
                  try dsimp only
                  rewrite [if_pos g36, if_neg g38, if_neg g43, if_neg g48, if_pos g53, if_neg g58, if_neg g74, if_neg g76]
                  all_goals rfl
                 exact cutW_n () e80 (Trans.ren [] (by decide +kernel) (by decide +kernel) rfl ⟨⟨rfl, rfl⟩, ⟨rfl, rfl⟩, ⟨rfl, rfl⟩, ⟨rfl, rfl⟩, ⟨rfl, rfl⟩, ⟨rfl, rfl⟩, ⟨rfl, rfl⟩, ⟨rfl, rfl⟩, trivial⟩ ⟨⟨rfl, rfl, rfl⟩, ⟨rfl, rfl, rfl⟩, ⟨rfl, rfl, rfl⟩, ⟨rfl, rfl, rfl⟩, trivial⟩ (by decide))
               ·have g74 : (x0.Kind : Int) = 1 := beq_t (not_f h74)
                refine step_g0 rfl h74 rfl (step_g0 rfl h74 rfl (step_g0 rfl h74 rfl (step_g0 rfl h74 rfl (step_g0 rfl h74 rfl (step_g0 rfl h74 rfl (step_g0 rfl h74 rfl (step_gt rfl (step_pickF rfl h74 rfl rfl (step_r rfl rfl trivial (step_nil (seqK_n ?_)))))))))))
                refine sem_condF rfl (sem_skip ?_)
                have e81 : stays18_J84 c from_ now to0 x0 = .inr () := by
                 unfold stays18_J84
                 try dsimp only
                 rewrite [if_pos g36, if_neg g38, if_neg g43, if_neg g48, if_pos g53, if_neg g58, if_pos g74]
                 all_goals rfl
                exact cutW_n () e81 (Trans.ren [] (by decide +kernel) (by decide +kernel) rfl ⟨⟨rfl, rfl⟩, ⟨rfl, rfl⟩, ⟨rfl, rfl⟩, ⟨rfl, rfl⟩, ⟨rfl, rfl⟩, ⟨rfl, rfl⟩, ⟨rfl, rfl⟩, ⟨rfl, rfl⟩, trivial⟩ ⟨⟨rfl, rfl, rfl⟩, ⟨rfl, rfl, rfl⟩, ⟨rfl, rfl, rfl⟩, ⟨rfl, rfl, rfl⟩, trivial⟩ (by decide))
         ·have g36 : ¬ ((x0.Kind : Int) = 1) := beq_f h36
          refine step_g0 rfl h36 rfl (step_g0 rfl h36 rfl (step_g0 rfl h36 rfl (step_g0 rfl h36 rfl (step_gf rfl rfl (step_gf rfl rfl (step_gf rfl rfl (step_g0 rfl h36 rfl (step_g0 rfl h36 rfl (step_gf rfl rfl (step_gf rfl rfl (step_g0 rfl h36 rfl ?_)))))))))))
          refine step_g0 rfl h36 rfl (step_gf rfl rfl (step_gf rfl rfl (step_gf rfl rfl (step_gf rfl rfl (step_gf rfl rfl (step_gf rfl rfl (step_gf rfl rfl (step_gf rfl rfl (step_gf rfl rfl (step_gf rfl rfl (step_g0 rfl h36 rfl ?_)))))))))))
          refine step_g0 rfl h36 rfl (step_gf rfl rfl (step_gf rfl rfl (step_gf rfl rfl (step_gf rfl rfl (step_gf rfl rfl (step_gf rfl rfl (step_gf rfl rfl (step_gf rfl rfl (step_g0 rfl h36 rfl (step_pickF rfl h36 rfl rfl (step_r rfl rfl trivial ?_)))))))))))
          refine step_gt rfl (step_r rfl rfl trivial (step_gt rfl (step_r rfl rfl trivial (step_gt rfl (step_r rfl rfl trivial ?_)))))
          refine step_gs rfl (fun h83 => ?_) (fun h83 => ?_)
          ·have g83 : ¬ ((x0.Kind : Int) = 1) := beq_f (not_t h83)
           refine step_g1 rfl h83 (step_r rfl rfl (by decide) (step_g1 rfl h83 (step_r rfl rfl (by decide) (step_g1 rfl h83 (step_r rfl rfl trivial (step_g1 rfl h83 (step_r rfl rfl (by decide) (step_g1 rfl h83 (step_r rfl rfl (by decide) (step_g1 rfl h83 (step_r rfl rfl trivial ?_)))))))))))
           refine step_g1 rfl h83 (step_bin rfl rfl rfl rfl rfl trivial (step_gt rfl (step_pickT rfl h83 rfl rfl (step_r rfl rfl trivial (step_nil (seqK_n ?_))))))
           refine sem_cond rfl (fun h85 => ?_) (fun h85 => ?_)
           ·have g85 : (((doX c from_ to0 x0 now).1).Unit.Health : Int) < to0.Unit.Health := of_decide_eq_true h85
            refine sem_seq (sem_region rfl (step_r rfl rfl trivial (step_nil (seqK_n (sem_ret (cutW_r (seqK_r (blkK_r (seqK_r (lupK_r (blkK_r ?_)))))))))))
            refine cutW_r (seqK_r ?_)
            have e86 : stays18_J84 c from_ now to0 x0 = .inl false := by
             unfold stays18_J84
             try dsimp only
             rewrite [if_neg g36, if_neg g83, if_pos g85]
             all_goals rfl
            have e87 : stays18_L0 c from_ now l 0 to = .inl false := by
             rewrite [← hI0, drop_cons hx0]
             rewrite [stays18_L0]
             try dsimp only
             rewrite [e86]
             try dsimp only
             all_goals rfl
            have e88 : stays18 c from_ to l now = false := by
             unfold stays18
             try dsimp only
             rewrite [hJ2]
             try dsimp only
             rewrite [if_pos g13, if_neg g17, if_pos g21, if_pos g25, e87]
             try dsimp only
             all_goals rfl
            rw [e88]
            exact answersR rfl ⟨trivial, trivial⟩ (rfl) rfl
           ·have g85 : ¬ ((((doX c from_ to0 x0 now).1).Unit.Health : Int) < to0.Unit.Health) := of_decide_eq_false h85
            refine sem_skip ?_
            have e89 : stays18_J84 c from_ now to0 x0 = .inr () := by
             unfold stays18_J84
             try dsimp only
             rewrite [if_neg g36, if_neg g83, if_neg g85]
             all_goals rfl
            exact cutW_n () e89 (Trans.ren [] (by decide +kernel) (by decide +kernel) rfl ⟨⟨rfl, rfl⟩, ⟨rfl, rfl⟩, ⟨rfl, rfl⟩, ⟨rfl, rfl⟩, ⟨rfl, rfl⟩, ⟨rfl, rfl⟩, ⟨rfl, rfl⟩, ⟨rfl, rfl⟩, trivial⟩ ⟨⟨rfl, rfl, rfl⟩, ⟨rfl, rfl, rfl⟩, ⟨rfl, rfl, rfl⟩, ⟨rfl, rfl, rfl⟩, trivial⟩ (by decide))
          ·have g83 : (x0.Kind : Int) = 1 := beq_t (not_f h83)
           refine step_g0 rfl h83 rfl (step_g0 rfl h83 rfl (step_g0 rfl h83 rfl (step_g0 rfl h83 rfl (step_g0 rfl h83 rfl (step_g0 rfl h83 rfl (step_g0 rfl h83 rfl (step_gt rfl (step_pickF rfl h83 rfl rfl (step_r rfl rfl trivial (step_nil (seqK_n ?_)))))))))))
           refine sem_condF rfl (sem_skip ?_)
           have e90 : stays18_J84 c from_ now to0 x0 = .inr () := by
            unfold stays18_J84
            try dsimp only
            rewrite [if_neg g36, if_pos g83]
            all_goals rfl
           exact cutW_n () e90 (Trans.ren [] (by decide +kernel) (by decide +kernel) rfl ⟨⟨rfl, rfl⟩, ⟨rfl, rfl⟩, ⟨rfl, rfl⟩, ⟨rfl, rfl⟩, ⟨rfl, rfl⟩, ⟨rfl, rfl⟩, ⟨rfl, rfl⟩, ⟨rfl, rfl⟩, trivial⟩ ⟨⟨rfl, rfl, rfl⟩, ⟨rfl, rfl, rfl⟩, ⟨rfl, rfl, rfl⟩, ⟨rfl, rfl, rfl⟩, trivial⟩ (by decide))
        ·rintro ⟨⟩ (hJ35 : stays18_J84 c from_ now to0 x0 = .inr ())
         show seqK _ _ _ .normal (⟨[(3, .pv (.slc l.length l_f (l.flatMap encGEffect))), (4, I now), (5, .ptr 0 0), (6, .ptr 1 0), (7, .ptr 2 0), (11, B (small18)), (13, I k0), (14, .ptr 3 0)], [(0, .box [.pv (.slc c.Abilities.length false (c.Abilities.flatMap encGAbility)), .pv (.slc c.Auras.length false (c.Auras.flatMap encGAura)), .pv (.slc c.Foes.length false (c.Foes.flatMap encGFoe)), I c.Map.W, I c.Map.H, .pv (.slc c.Map.Wall.length false (encB c.Map.Wall)), I c.Door.X, I c.Door.Y, I c.Lair.X, I c.Lair.Y]), (1, .box [I from_.Unit.Id, I from_.Unit.Kind, I from_.Unit.Group, I from_.Unit.Health, I from_.Unit.MaxHealth, I from_.Unit.Power, I from_.Unit.MaxPower, I from_.Unit.At.X, I from_.Unit.At.Y, I from_.Unit.Casting, .pv (.str from_.Name), .pv (.slc from_.Auras.length false (from_.Auras.flatMap encGActive)), .pv (.slc from_.Cools.length false (from_.Cools.flatMap encGCool)), I from_.Casting.Now.Ability, I from_.Casting.Now.Target, I from_.Casting.Now.Since, I from_.Casting.Now.Until, I from_.Casting.Next.Ability, I from_.Casting.Next.Target, I from_.Casting.Next.Since, I from_.Casting.Next.Until, I from_.Casting.Wait]), (2, .box [I to0.Unit.Id, I to0.Unit.Kind, I to0.Unit.Group, I to0.Unit.Health, I to0.Unit.MaxHealth, I to0.Unit.Power, I to0.Unit.MaxPower, I to0.Unit.At.X, I to0.Unit.At.Y, I to0.Unit.Casting, .pv (.str to0.Name), .pv (.slc to0.Auras.length false (to0.Auras.flatMap encGActive)), .pv (.slc to0.Cools.length false (to0.Cools.flatMap encGCool)), I to0.Casting.Now.Ability, I to0.Casting.Now.Target, I to0.Casting.Now.Since, I to0.Casting.Now.Until, I to0.Casting.Next.Ability, I to0.Casting.Next.Target, I to0.Casting.Next.Since, I to0.Casting.Next.Until, I to0.Casting.Wait]), (3, .box [I ((doX c from_ to0 x0 now).1).Unit.Id, I ((doX c from_ to0 x0 now).1).Unit.Kind, I ((doX c from_ to0 x0 now).1).Unit.Group, I ((doX c from_ to0 x0 now).1).Unit.Health, I ((doX c from_ to0 x0 now).1).Unit.MaxHealth, I ((doX c from_ to0 x0 now).1).Unit.Power, I ((doX c from_ to0 x0 now).1).Unit.MaxPower, I ((doX c from_ to0 x0 now).1).Unit.At.X, I ((doX c from_ to0 x0 now).1).Unit.At.Y, I ((doX c from_ to0 x0 now).1).Unit.Casting, .pv (.str ((doX c from_ to0 x0 now).1).Name), .pv (.slc ((doX c from_ to0 x0 now).1).Auras.length false (((doX c from_ to0 x0 now).1).Auras.flatMap encGActive)), .pv (.slc ((doX c from_ to0 x0 now).1).Cools.length false (((doX c from_ to0 x0 now).1).Cools.flatMap encGCool)), I ((doX c from_ to0 x0 now).1).Casting.Now.Ability, I ((doX c from_ to0 x0 now).1).Casting.Now.Target, I ((doX c from_ to0 x0 now).1).Casting.Now.Since, I ((doX c from_ to0 x0 now).1).Casting.Now.Until, I ((doX c from_ to0 x0 now).1).Casting.Next.Ability, I ((doX c from_ to0 x0 now).1).Casting.Next.Target, I ((doX c from_ to0 x0 now).1).Casting.Next.Since, I ((doX c from_ to0 x0 now).1).Casting.Next.Until, I ((doX c from_ to0 x0 now).1).Casting.Wait])], 4, [], 192, 0⟩ : St)
         refine seqK_n (sem_seq (sem_region rfl (step_r (v := (.agg [_, _, _, _, _, _, _, _, _, _])) rfl rfl (Nat.le_of_ble_eq_true rfl) (step_r (v := (.agg [_, _, _, _, _, _, _, _, _, _, _, _, _, _, _, _, _, _, _, _, _, _])) rfl rfl (Nat.le_of_ble_eq_true rfl) (step_r rfl rfl trivial ?_)))))
         refine step_callN (out' := .tup [(.agg [_, _, _, _, _, _, _, _, _, _, _, _, _, _, _, _, _, _, _, _, _, _]), .ref 4 _ _ _]) (H' := [(4, .row _ _ _), (0, _), (1, _), (2, _), (3, _)]) (nx' := 5) rfl rfl rfl rfl rfl rfl rfl (by (repeat' apply And.intro) <;> first | trivial | rfl | exact flat_len (fun _ => rfl) _ | exact encI_len _ | exact Nat.le_of_ble_eq_true rfl | assumption) (tickE_ok c ((doX c from_ to0 x0 now).1) now (by first | assumption | exact few_lit (Nat.le_of_ble_eq_true rfl) rfl)) rfl rfl rfl rfl ?_
         have p92 := tickE_few (c := c) (to := ((doX c from_ to0 x0 now).1)) (now := now) (by first | assumption | exact few_lit (Nat.le_of_ble_eq_true rfl) rfl)
         refine step_r rfl rfl trivial (step_r rfl rfl trivial (step_r rfl rfl trivial (step_n (o := .box [_, _, _, _, _, _, _, _, _, _, _, _, _, _, _, _, _, _, _, _, _, _]) (nx' := 6) rfl rfl rfl trivial ?_)))
         refine step_storeB (H' := [(5, .box [_, _, _, _, _, _, _, _, _, _, _, _, _, _, _, _, _, _, _, _, _, _]), (4, _), (0, _), (1, _), (2, _), (3, _)]) rfl rfl rfl rfl rfl rfl (.inl rfl) rfl ?_
         refine step_r rfl rfl trivial (step_nil (seqK_n (sem_seq (sem_seq (sem_region rfl (step_r rfl rfl (by decide) (step_r (v := (.agg [_, _, _, _, _, _, _, _, _, _])) rfl rfl (Nat.le_of_ble_eq_true rfl) (step_call rfl rfl rfl rfl (right_ok (((doX c from_ to0 x0 now).1).Unit)) rfl rfl rfl (step_r rfl rfl trivial (step_r rfl rfl trivial ?_))))))))))
         refine step_gs rfl (fun h94 => ?_) (fun h94 => ?_)
         ·have g94 : ¬ (Right (((doX c from_ to0 x0 now).1).Unit)) := of_decide_eq_false (not_t h94)
          refine step_g0 rfl h94 rfl (step_g0 rfl h94 rfl (step_g0 rfl h94 rfl (step_g0 rfl h94 rfl (step_g0 rfl h94 rfl (step_pickT rfl h94 rfl rfl (step_r rfl rfl trivial (step_gf rfl rfl (step_gf rfl rfl (step_gf rfl rfl (step_gf rfl rfl (step_r rfl rfl trivial ?_)))))))))))
          refine step_r rfl rfl trivial (step_gf rfl rfl (step_gf rfl rfl (step_gf rfl rfl (step_gf rfl rfl (step_gf rfl rfl (step_r rfl rfl trivial (step_r rfl rfl trivial (step_gf rfl rfl (step_gf rfl rfl (step_gf rfl rfl (step_gf rfl rfl ?_)))))))))))
          refine step_gf rfl rfl (step_gf rfl rfl (step_gf rfl rfl (step_r rfl rfl trivial (step_r rfl rfl trivial (step_gf rfl rfl (step_gf rfl rfl (step_gf rfl rfl (step_gf rfl rfl (step_gf rfl rfl (step_r rfl rfl trivial (step_r rfl rfl trivial ?_)))))))))))
          refine step_gf rfl rfl (step_gf rfl rfl (step_gf rfl rfl (step_gf rfl rfl (step_gf rfl rfl (step_gf rfl rfl (step_gf rfl rfl (step_r rfl rfl trivial (step_nil (seqK_n (sem_condT rfl (sem_seq ?_)))))))))))
          refine sem_region rfl (step_r rfl rfl trivial (step_nil (seqK_n (sem_ret (seqK_r (blkK_r (seqK_r (lupK_r (blkK_r (cutW_r (seqK_r ?_)))))))))))
          have e95 : stays18_L0 c from_ now l 0 to = .inl false := by
           rewrite [← hI0, drop_cons hx0]
           rewrite [stays18_L0]
           try dsimp only
           rewrite [hJ35]
           try dsimp only
           rewrite [if_neg g94]
           all_goals rfl
          have e96 : stays18 c from_ to l now = false := by
           unfold stays18
           try dsimp only
           rewrite [hJ2]
           try dsimp only
           rewrite [if_pos g13, if_neg g17, if_pos g21, if_pos g25, e95]
           try dsimp only
           all_goals rfl
          rw [e96]
          exact answersR rfl ⟨trivial, trivial⟩ (rfl) rfl
         ·have g94 : Right (((doX c from_ to0 x0 now).1).Unit) := of_decide_eq_true (not_f h94)
          refine step_g1 rfl h94 (step_r (v := (.agg [_, _, _, _, _, _, _, _, _, _])) rfl rfl (Nat.le_of_ble_eq_true rfl) (step_g1 rfl h94 (step_r rfl rfl (by decide) (step_g1 rfl h94 (step_r rfl rfl trivial (step_g1 rfl h94 (step_call rfl rfl rfl rfl (right15_ok c (((doX c from_ to0 x0 now).1).Auras) false (by first | assumption | exact few_small (by decide +kernel))) rfl rfl rfl (step_g1 rfl h94 (step_r rfl rfl trivial (step_pickF rfl h94 rfl rfl (step_r rfl rfl trivial ?_)))))))))))
          refine step_gs rfl (fun h98 => ?_) (fun h98 => ?_)
          ·have g98 : ¬ (right15 c (((doX c from_ to0 x0 now).1).Auras) = true) := boo_f (not_t h98)
           refine step_g0 rfl h98 rfl (step_g0 rfl h98 rfl (step_g0 rfl h98 rfl (step_g0 rfl h98 rfl (step_pickT rfl h98 rfl rfl (step_r rfl rfl trivial (step_gf rfl rfl (step_gf rfl rfl (step_gf rfl rfl (step_gf rfl rfl (step_gf rfl rfl (step_r rfl rfl trivial ?_)))))))))))
           refine step_r rfl rfl trivial (step_gf rfl rfl (step_gf rfl rfl (step_gf rfl rfl (step_gf rfl rfl (step_gf rfl rfl (step_gf rfl rfl (step_gf rfl rfl (step_r rfl rfl trivial (step_r rfl rfl trivial (step_gf rfl rfl (step_gf rfl rfl ?_)))))))))))
           refine step_gf rfl rfl (step_gf rfl rfl (step_gf rfl rfl (step_r rfl rfl trivial (step_r rfl rfl trivial (step_gf rfl rfl (step_gf rfl rfl (step_gf rfl rfl (step_gf rfl rfl (step_gf rfl rfl (step_gf rfl rfl (step_gf rfl rfl ?_)))))))))))
           refine step_r rfl rfl trivial (step_nil (seqK_n (sem_condT rfl (sem_seq (sem_region rfl (step_r rfl rfl trivial (step_nil (seqK_n (sem_ret (seqK_r (blkK_r ?_)))))))))))
           refine seqK_r (lupK_r (blkK_r (cutW_r (seqK_r ?_))))
           have e99 : stays18_L0 c from_ now l 0 to = .inl false := by
            rewrite [← hI0, drop_cons hx0]
            rewrite [stays18_L0]
            try dsimp only
            rewrite [hJ35]
            try dsimp only
            rewrite [if_pos g94, if_neg g98]
            all_goals rfl
           have e100 : stays18 c from_ to l now = false := by
            unfold stays18
            try dsimp only
            rewrite [hJ2]
            try dsimp only
            rewrite [if_pos g13, if_neg g17, if_pos g21, if_pos g25, e99]
            try dsimp only
            all_goals rfl
           rw [e100]
           exact answersR rfl ⟨trivial, trivial⟩ (rfl) rfl
          ·have g98 : right15 c (((doX c from_ to0 x0 now).1).Auras) = true := (not_f h98)
           have qg98 := right15_both g98
           refine step_g1 rfl h98 (step_r rfl rfl (by decide) (step_g1 rfl h98 (step_r (v := (.agg [_, _, _, _, _, _, _, _, _, _])) rfl rfl (Nat.le_of_ble_eq_true rfl) (step_g1 rfl h98 (step_call rfl rfl rfl rfl (right_ok (((tickE c ((doX c from_ to0 x0 now).1) now).1).Unit)) rfl rfl rfl (step_g1 rfl h98 (step_r rfl rfl trivial (step_pickF rfl h98 rfl rfl (step_r rfl rfl trivial ?_)))))))))
           refine step_gs rfl (fun h102 => ?_) (fun h102 => ?_)
           ·have g102 : ¬ (Right (((tickE c ((doX c from_ to0 x0 now).1) now).1).Unit)) := of_decide_eq_false (not_t h102)
            refine step_g0 rfl h102 rfl (step_g0 rfl h102 rfl (step_g0 rfl h102 rfl (step_g0 rfl h102 rfl (step_g0 rfl h102 rfl (step_pickT rfl h102 rfl rfl (step_r rfl rfl trivial (step_gf rfl rfl (step_gf rfl rfl (step_gf rfl rfl (step_gf rfl rfl (step_gf rfl rfl ?_)))))))))))
            refine step_gf rfl rfl (step_gf rfl rfl (step_r rfl rfl trivial (step_r rfl rfl trivial (step_gf rfl rfl (step_gf rfl rfl (step_gf rfl rfl (step_gf rfl rfl (step_gf rfl rfl (step_r rfl rfl trivial (step_r rfl rfl trivial (step_gf rfl rfl ?_)))))))))))
            refine step_gf rfl rfl (step_gf rfl rfl (step_gf rfl rfl (step_gf rfl rfl (step_gf rfl rfl (step_gf rfl rfl (step_r rfl rfl trivial (step_nil (seqK_n (sem_condT rfl (sem_seq (sem_region rfl ?_)))))))))))
            refine step_r rfl rfl trivial (step_nil (seqK_n (sem_ret (seqK_r (blkK_r (seqK_r (lupK_r (blkK_r (cutW_r (seqK_r ?_))))))))))
            have e103 : stays18_L0 c from_ now l 0 to = .inl false := by
             rewrite [← hI0, drop_cons hx0]
             rewrite [stays18_L0]
             try dsimp only
             rewrite [hJ35]
             try dsimp only
             rewrite [if_pos g94, if_pos g98, if_neg g102]
             all_goals rfl
            have e104 : stays18 c from_ to l now = false := by
             unfold stays18
             try dsimp only
             rewrite [hJ2]
             try dsimp only
             rewrite [if_pos g13, if_neg g17, if_pos g21, if_pos g25, e103]
             try dsimp only
             all_goals rfl
            rw [e104]
            exact answersR rfl ⟨trivial, trivial⟩ (rfl) rfl
           ·have g102 : Right (((tickE c ((doX c from_ to0 x0 now).1) now).1).Unit) := of_decide_eq_true (not_f h102)
            refine step_g1 rfl h102 (step_r (v := (.agg [_, _, _, _, _, _, _, _, _, _])) rfl rfl (Nat.le_of_ble_eq_true rfl) (step_g1 rfl h102 (step_r rfl rfl (by decide) (step_g1 rfl h102 (step_r rfl rfl trivial (step_g1 rfl h102 (step_call rfl rfl rfl rfl (right15_ok c (((tickE c ((doX c from_ to0 x0 now).1) now).1).Auras) false (by first | assumption | exact few_small (by decide +kernel))) rfl rfl rfl (step_g1 rfl h102 (step_r rfl rfl trivial (step_pickF rfl h102 rfl rfl (step_r rfl rfl trivial ?_)))))))))))
            refine step_gs rfl (fun h106 => ?_) (fun h106 => ?_)
            ·have g106 : ¬ (right15 c (((tickE c ((doX c from_ to0 x0 now).1) now).1).Auras) = true) := boo_f (not_t h106)
             refine step_g0 rfl h106 rfl (step_g0 rfl h106 rfl (step_g0 rfl h106 rfl (step_g0 rfl h106 rfl (step_g0 rfl h106 rfl (step_g0 rfl h106 rfl (step_g0 rfl h106 rfl (step_pickT rfl h106 rfl rfl (step_r rfl rfl trivial (step_gf rfl rfl (step_gf rfl rfl (step_gf rfl rfl ?_)))))))))))
             refine step_gf rfl rfl (step_gf rfl rfl (step_r rfl rfl trivial (step_r rfl rfl trivial (step_gf rfl rfl (step_gf rfl rfl (step_gf rfl rfl (step_gf rfl rfl (step_gf rfl rfl (step_gf rfl rfl (step_gf rfl rfl (step_r rfl rfl trivial ?_)))))))))))
             refine step_nil (seqK_n (sem_condT rfl (sem_seq (sem_region rfl (step_r rfl rfl trivial (step_nil (seqK_n (sem_ret (seqK_r (blkK_r (seqK_r ?_)))))))))))
             refine lupK_r (blkK_r (cutW_r (seqK_r ?_)))
             have e107 : stays18_L0 c from_ now l 0 to = .inl false := by
              rewrite [← hI0, drop_cons hx0]
              rewrite [stays18_L0]
              try dsimp only
              rewrite [hJ35]
              try dsimp only
              rewrite [if_pos g94, if_pos g98, if_pos g102, if_neg g106]
              all_goals rfl
             have e108 : stays18 c from_ to l now = false := by
              unfold stays18
              try dsimp only
              rewrite [hJ2]
              try dsimp only
              rewrite [if_pos g13, if_neg g17, if_pos g21, if_pos g25, e107]
              try dsimp only
              all_goals rfl
             rw [e108]
             exact answersR rfl ⟨trivial, trivial⟩ (rfl) rfl
            ·have g106 : right15 c (((tickE c ((doX c from_ to0 x0 now).1) now).1).Auras) = true := (not_f h106)
             have qg106 := right15_both g106
             refine step_g1 rfl h106 (step_r rfl rfl (by decide) (step_g1 rfl h106 (step_r rfl rfl (by decide) (step_g1 rfl h106 (step_r rfl rfl trivial (step_g1 rfl h106 (step_r rfl rfl (by decide) (step_g1 rfl h106 (step_r rfl rfl (by decide) (step_g1 rfl h106 (step_r rfl rfl trivial ?_)))))))))))
             refine step_g1 rfl h106 (step_bin rfl rfl rfl rfl rfl trivial (step_pickF rfl h106 rfl rfl (step_r rfl rfl trivial ?_)))
             refine step_gs rfl (fun h110 => ?_) (fun h110 => ?_)
             ·have g110 : ¬ ((((doX c from_ to0 x0 now).1).Unit.Id : Int) = to0.Unit.Id) := bne_t h110
              refine step_g0 rfl h110 rfl (step_g0 rfl h110 rfl (step_g0 rfl h110 rfl (step_g0 rfl h110 rfl (step_g0 rfl h110 rfl (step_pickT rfl h110 rfl rfl (step_r rfl rfl trivial (step_gf rfl rfl (step_gf rfl rfl (step_gf rfl rfl (step_gf rfl rfl (step_gf rfl rfl ?_)))))))))))
              refine step_gf rfl rfl (step_gf rfl rfl (step_r rfl rfl trivial (step_nil (seqK_n (sem_condT rfl (sem_seq (sem_region rfl (step_r rfl rfl trivial (step_nil (seqK_n (sem_ret ?_)))))))))))
              refine seqK_r (blkK_r (seqK_r (lupK_r (blkK_r (cutW_r (seqK_r ?_))))))
              have e111 : stays18_L0 c from_ now l 0 to = .inl false := by
               rewrite [← hI0, drop_cons hx0]
               rewrite [stays18_L0]
               try dsimp only
               rewrite [hJ35]
               try dsimp only
               rewrite [if_pos g94, if_pos g98, if_pos g102, if_pos g106, if_neg g110]
               all_goals rfl
              have e112 : stays18 c from_ to l now = false := by
               unfold stays18
               try dsimp only
               rewrite [hJ2]
               try dsimp only
               rewrite [if_pos g13, if_neg g17, if_pos g21, if_pos g25, e111]
               try dsimp only
               all_goals rfl
              rw [e112]
              exact answersR rfl ⟨trivial, trivial⟩ (rfl) rfl
             ·have g110 : (((doX c from_ to0 x0 now).1).Unit.Id : Int) = to0.Unit.Id := bne_f h110
              refine step_g1 rfl h110 (step_r rfl rfl (by decide) (step_g1 rfl h110 (step_r rfl rfl trivial (step_g1 rfl h110 (step_r rfl rfl (by decide) (step_g1 rfl h110 (step_r rfl rfl trivial (step_g1 rfl h110 (step_bin rfl rfl rfl rfl rfl trivial (step_pickF rfl h110 rfl rfl (step_r rfl rfl trivial ?_)))))))))))
              refine step_gs rfl (fun h114 => ?_) (fun h114 => ?_)
              ·have g114 : ¬ ((((doX c from_ to0 x0 now).1).Name) = to0.Name) := beq_f (not_t h114)
               refine step_g0 rfl h114 rfl (step_g0 rfl h114 rfl (step_g0 rfl h114 rfl (step_g0 rfl h114 rfl (step_g0 rfl h114 rfl (step_g0 rfl h114 rfl (step_g0 rfl h114 rfl (step_pickT rfl h114 rfl rfl (step_nil (seqK_n (sem_condT rfl (sem_seq ?_)))))))))))
               refine sem_region rfl (step_r rfl rfl trivial (step_nil (seqK_n (sem_ret (seqK_r (blkK_r (seqK_r (lupK_r (blkK_r (cutW_r (seqK_r ?_)))))))))))
               have e115 : stays18_L0 c from_ now l 0 to = .inl false := by
                rewrite [← hI0, drop_cons hx0]
                rewrite [stays18_L0]
                try dsimp only
                rewrite [hJ35]
                try dsimp only
                rewrite [if_pos g94, if_pos g98, if_pos g102, if_pos g106, if_pos g110, if_neg g114]
                all_goals rfl
               have e116 : stays18 c from_ to l now = false := by
                unfold stays18
                try dsimp only
                rewrite [hJ2]
                try dsimp only
                rewrite [if_pos g13, if_neg g17, if_pos g21, if_pos g25, e115]
                try dsimp only
                all_goals rfl
               rw [e116]
               exact answersR rfl ⟨trivial, trivial⟩ (rfl) rfl
              ·have g114 : (((doX c from_ to0 x0 now).1).Name) = to0.Name := beq_t (not_f h114)
               refine step_g1 rfl h114 (step_r rfl rfl (by decide) (step_g1 rfl h114 (step_r rfl rfl (by decide) (step_g1 rfl h114 (step_r (v := (.agg [_, _])) rfl rfl (Nat.le_of_ble_eq_true rfl) (step_g1 rfl h114 (step_r rfl rfl (by decide) (step_g1 rfl h114 (step_r rfl rfl (by decide) (step_g1 rfl h114 (step_r (v := (.agg [_, _])) rfl rfl (Nat.le_of_ble_eq_true rfl) ?_)))))))))))
               refine step_g1 rfl h114 ?_
               refine step_neqA rfl rfl rfl (by kernel_rfl) rfl rfl rfl rfl rfl ?_
               refine step_pickF rfl h114 rfl rfl (step_nil (seqK_n ?_))
               refine sem_cond rfl (fun h118 => ?_) (fun h118 => ?_)
               ·have g118 : ¬ ((((((tickE c ((doX c from_ to0 x0 now).1) now).1).Unit.At.X) == to0.Unit.At.X) && (((((tickE c ((doX c from_ to0 x0 now).1) now).1).Unit.At.Y) == to0.Unit.At.Y) && true)) = true) := boo_f (not_t h118)
                refine sem_seq (sem_region rfl (step_r rfl rfl trivial (step_nil (seqK_n (sem_ret (seqK_r (blkK_r (seqK_r (lupK_r (blkK_r (cutW_r ?_)))))))))))
                refine seqK_r ?_
                have e119 : stays18_L0 c from_ now l 0 to = .inl false := by
                 rewrite [← hI0, drop_cons hx0]
                 rewrite [stays18_L0]
                 try dsimp only
                 rewrite [hJ35]
                 try dsimp only
                 rewrite [if_pos g94, if_pos g98, if_pos g102, if_pos g106, if_pos g110, if_pos g114, if_neg g118]
                 all_goals rfl
                have e120 : stays18 c from_ to l now = false := by
                 unfold stays18
                 try dsimp only
                 rewrite [hJ2]
                 try dsimp only
                 rewrite [if_pos g13, if_neg g17, if_pos g21, if_pos g25, e119]
                 try dsimp only
                 all_goals rfl
                rw [e120]
                exact answersR rfl ⟨trivial, trivial⟩ (rfl) rfl
               ·have g118 : (((((tickE c ((doX c from_ to0 x0 now).1) now).1).Unit.At.X) == to0.Unit.At.X) && (((((tickE c ((doX c from_ to0 x0 now).1) now).1).Unit.At.Y) == to0.Unit.At.Y) && true)) = true := (not_f h118)
                refine sem_skip (seqK_n (sem_region rfl (step_r (v := (.agg [_, _, _, _, _, _, _, _, _, _, _, _, _, _, _, _, _, _, _, _, _, _])) rfl rfl (Nat.le_of_ble_eq_true rfl) ?_)))
                refine step_storeB (H' := [(5, _), (4, _), (0, _), (1, _), (2, .box [_, _, _, _, _, _, _, _, _, _, _, _, _, _, _, _, _, _, _, _, _, _]), (3, _)]) rfl rfl rfl rfl rfl rfl (.inl rfl) rfl ?_
                refine step_nil (blkK_n (seqK_n (sem_region rfl (step_r rfl rfl trivial (step_bin rfl rfl rfl rfl rfl trivial (step_r rfl rfl trivial (step_nil ?_)))))))
                have e123 : stays18_L0 c from_ now (l.drop k0) k0 to0 = stays18_L0 c from_ now (l.drop (k0 + 1)) (k0 + 1) ((tickE c ((doX c from_ to0 x0 now).1) now).1) := by
                 rewrite [drop_cons hx0]
                 rewrite [stays18_L0]
                 try dsimp only
                 rewrite [hJ35]
                 try dsimp only
                 rewrite [if_pos g94, if_pos g98, if_pos g102, if_pos g106, if_pos g110, if_pos g114, if_pos g118]
                 all_goals rfl
                exact lup_againT (k0 + 1, ((tickE c ((doX c from_ to0 x0 now).1) now).1)) ⟨e123.symm.trans hI0, hk0, by first | omega | assumption | (simp only [List.length_append, List.length_cons, List.length_nil, List.length_set]; omega) | (simp; omega) | grind⟩ (by show l.length - (k0 + 1) < l.length - k0; omega) (Trans.ren [] (by decide +kernel) (by decide +kernel) rfl ⟨⟨rfl, rfl⟩, ⟨rfl, rfl⟩, ⟨rfl, rfl⟩, ⟨rfl, rfl⟩, ⟨rfl, rfl⟩, ⟨rfl, rfl⟩, ⟨congrArg (fun n => some (I n)) (wrapI (k := k0) (by first | omega | (simp; omega))), rfl⟩, trivial⟩ ⟨⟨rfl, rfl, rfl⟩, ⟨rfl, rfl, rfl⟩, ⟨rfl, rfl, rfl⟩, trivial⟩ (by decide))
       ·have g30 : ¬ ((k0 : Int) < l.length) := of_decide_eq_false h30
        have hk0 : k0 = l.length := by omega
        refine sem_exit (seqK_e (lupK_e (blkK_t rfl ?_)))
        have e124 : stays18_L0 c from_ now l 0 to = .inr () := by
         rewrite [← hI0, hk0, List.drop_length]
         rewrite [stays18_L0]
         try dsimp only
         all_goals rfl
        exact cutW_n () e124 (Trans.ren [] (by decide +kernel) (by decide +kernel) rfl ⟨⟨rfl, rfl⟩, trivial⟩ trivial (by decide))
      ·rintro ⟨⟩ (hJ28 : stays18_L0 c from_ now l 0 to = .inr ())
       show seqK _ _ _ .normal (⟨[(11, B (small18))], [], 0, [], 192, 0⟩ : St)
       refine seqK_n (sem_seq (sem_region rfl (step_r rfl rfl trivial (step_r rfl rfl trivial (step_nil (seqK_n (sem_ret ?_)))))))
       have e126 : stays18 c from_ to l now = (small18) := by
        unfold stays18
        try dsimp only
        rewrite [hJ2]
        try dsimp only
        rewrite [if_pos g13, if_neg g17, if_pos g21, if_pos g25, hJ28]
        try dsimp only
        all_goals rfl
       rw [e126]
       exact answersR rfl ⟨trivial, trivial⟩ (rfl) rfl
end Go.Proofs.YtmijbjpdjggppaaGreat

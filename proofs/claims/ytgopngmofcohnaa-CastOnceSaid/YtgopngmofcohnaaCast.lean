import Derived.Test.YtgopngmofcohnaaBody
namespace Go.Proofs.Ytgopngmofcohnaa
open Go Go.RowKit Go.Proofs.YtgopngmofcohnaaVm
attribute [local irreducible] opsWp AnswersE OpsS
set_option maxHeartbeats 400000
set_option maxRecDepth 100000
set_option linter.all false
structure GCast where
  (Ability : Int)
  (Target : Int)
  (Since : Int)
  (Until : Int)
  deriving DecidableEq, Inhabited
def encGCast (x : GCast) : List PV := [i64 x.Ability, i64 x.Target, i64 x.Since, i64 x.Until]
abbrev aGCast (x : GCast) : AV := .agg [I x.Ability, I x.Target, I x.Since, I x.Until]
def wfGCast (x : GCast) : Prop := (InR x.Ability) ∧ (InR x.Target) ∧ (InR x.Since) ∧ (InR x.Until)
theorem encGCast_solid {l : List GCast} : ∀ p ∈ l.flatMap encGCast, solidP p = true := flat_solid (fun x p h => by simp only [encGCast, List.mem_cons, List.mem_nil_iff, or_false] at h; rcases h with rfl | rfl | rfl | rfl <;> rfl)

structure GCasting where
  (Now : GCast)
  (Next : GCast)
  (Wait : Int)
  deriving DecidableEq, Inhabited
def encGCasting (x : GCasting) : List PV := [i64 x.Now.Ability, i64 x.Now.Target, i64 x.Now.Since, i64 x.Now.Until, i64 x.Next.Ability, i64 x.Next.Target, i64 x.Next.Since, i64 x.Next.Until, i64 x.Wait]
abbrev aGCasting (x : GCasting) : AV := .agg [I x.Now.Ability, I x.Now.Target, I x.Now.Since, I x.Now.Until, I x.Next.Ability, I x.Next.Target, I x.Next.Since, I x.Next.Until, I x.Wait]
def wfGCasting (x : GCasting) : Prop := (wfGCast x.Now) ∧ (wfGCast x.Next) ∧ (InR x.Wait)
theorem encGCasting_solid {l : List GCasting} : ∀ p ∈ l.flatMap encGCasting, solidP p = true := flat_solid (fun x p h => by simp only [encGCasting, List.mem_cons, List.mem_nil_iff, or_false] at h; rcases h with rfl | rfl | rfl | rfl | rfl | rfl | rfl | rfl | rfl <;> rfl)

structure GEffect where
  (Kind : Int)
  (Amount : Int)
  (Aura : Int)
  deriving DecidableEq, Inhabited
def encGEffect (x : GEffect) : List PV := [i64 x.Kind, i64 x.Amount, i64 x.Aura]
abbrev aGEffect (x : GEffect) : AV := .agg [I x.Kind, I x.Amount, I x.Aura]
def wfGEffect (x : GEffect) : Prop := (InR x.Kind) ∧ (InR x.Amount) ∧ (InR x.Aura)
theorem encGEffect_solid {l : List GEffect} : ∀ p ∈ l.flatMap encGEffect, solidP p = true := flat_solid (fun x p h => by simp only [encGEffect, List.mem_cons, List.mem_nil_iff, or_false] at h; rcases h with rfl | rfl | rfl <;> rfl)

structure GAbility where
  (Id : Int)
  (Cast : Int)
  (Cool : Int)
  (Charges : Int)
  (Range : Int)
  (Cost : Int)
  (Sight : Bool)
  (Effects : List GEffect)
  deriving DecidableEq, Inhabited
def encGAbility (x : GAbility) : List PV := [i64 x.Id, i64 x.Cast, i64 x.Cool, i64 x.Charges, i64 x.Range, i64 x.Cost, .bool x.Sight, .slc x.Effects.length false (x.Effects.flatMap encGEffect)]
abbrev aGAbility (x : GAbility) : AV := .agg [I x.Id, I x.Cast, I x.Cool, I x.Charges, I x.Range, I x.Cost, B x.Sight, .pv (.slc x.Effects.length false (x.Effects.flatMap encGEffect))]
def wfGAbility (x : GAbility) : Prop := (InR x.Id) ∧ (InR x.Cast) ∧ (InR x.Cool) ∧ (InR x.Charges) ∧ (InR x.Range) ∧ (InR x.Cost) ∧ ((∀ y ∈ x.Effects, wfGEffect y) ∧ x.Effects.length ≤ maxLen)

abbrev c0 : GCast := ⟨0, 0, 0, 0⟩
def mayC (c : GCast) : Prop := c = c0 ∨ 1 ≤ c.Ability ∧ c.Since ≤ c.Until
instance (c : GCast) : Decidable (mayC c) := by unfold mayC; infer_instance
theorem c0_iff (c : GCast) : c = c0 ↔ c.Ability = 0 ∧ c.Target = 0 ∧ c.Since = 0 ∧ c.Until = 0 := by
  obtain ⟨a, b, d, e⟩ := c
  simp
def rightC (s : GCasting) : Prop := mayC s.Now ∧ mayC s.Next ∧ (s.Next.Ability ≠ 0 → s.Now.Ability ≠ 0 ∧ s.Now.Until = s.Next.Since)
instance (s : GCasting) : Decidable (rightC s) := by unfold rightC; infer_instance
def doneC (s : GCasting) : Int := if s.Next.Ability ≠ 0 then s.Next.Until else if s.Now.Ability ≠ 0 then s.Now.Until else s.Wait
def fromC (a : GAbility) (target since : Int) : GCast := ⟨a.Id, target, since, addM since a.Cast⟩
def nowC (s : GCasting) (c : GCast) : GCasting := ⟨c, c0, if c.Ability ≠ 0 then addM c.Since 3 else s.Wait⟩
abbrev s0 : GCasting := ⟨c0, c0, 0⟩
def beginC (s : GCasting) (a : GAbility) (target t : Int) : GCasting × Int :=
  if ¬ rightC s ∨ a.Id < 1 ∨ a.Cast < 0 then (s0, 1)
  else if s.Now.Ability = 0 ∧ s.Wait ≤ addM t 2 then (nowC s (fromC a target (max t s.Wait)), 0)
  else if s.Now.Ability = 0 ∨ s.Next.Ability ≠ 0 ∨ s.Now.Until > addM t 2 ∨ s.Wait > s.Now.Until then (s0, 7)
  else ({ s with Next := fromC a target s.Now.Until }, 0)
def stopC (s : GCasting) : GCasting × Int := (⟨c0, c0, s.Wait⟩, (if s.Now.Ability ≠ 0 then 1 else 0) + (if s.Next.Ability ≠ 0 then 1 else 0))
def stepF : Nat → GCasting → Int → GCasting × List GCast
  | 0, s, _ => (s, [])
  | n + 1, s, t => if s.Now.Ability = 0 ∨ s.Now.Until > t then (s, []) else ((stepF n (nowC s s.Next) t).1, s.Now :: (stepF n (nowC s s.Next) t).2)
def stepC (s : GCasting) (t : Int) : GCasting × List GCast := stepF 3 s t


theorem there_ok (c : GCast) : Ok Try.prog 53 [aGCast c] [] (B (decide (c.Ability ≠ 0))) [] [] := by
 refine ok_of_sem Try.func53 rfl ?_
 show Walks Try.prog _ _ ⟨[(0, aGCast c)], [], 0, [], 6, 0⟩
 refine sem_seq ?_
 refine sem_region rfl ?_
 refine step_n (o := .box [_, _, _, _]) (nx' := 1) rfl rfl rfl trivial ?_
 refine step_r rfl rfl trivial ?_
 refine step_nil ?_
 refine seqK_n ?_
 refine sem_seq ?_
 refine sem_region rfl ?_
 refine step_r rfl rfl (by decide) ?_
 refine step_r rfl rfl trivial ?_
 refine step_bin rfl rfl rfl rfl rfl trivial ?_
 refine step_r rfl rfl trivial ?_
 refine step_nil ?_
 refine seqK_n ?_
 refine sem_ret ?_
 refine answersR (vs := [_]) rfl ⟨trivial, trivial⟩ (congrArg B ?_) rfl
 first
  | rfl
  | (exfalso; omega)
  | (simp []; done)
  | (rw [Bool.eq_iff_iff]; simp []; done)
  | (rw [Bool.eq_iff_iff]; simp []; omega)
  | grind []

theorem may_ok (c : GCast) : Ok Try.prog 56 [aGCast c] [] (B (decide (mayC c))) [] [] := by
 refine ok_of_sem Try.func56 rfl ?_
 show Walks Try.prog _ _ ⟨[(0, aGCast c)], [], 0, [], 18, 0⟩
 refine sem_seq ?_
 refine sem_region rfl ?_
 refine step_n (o := .box [_, _, _, _]) (nx' := 1) rfl rfl rfl trivial ?_
 refine step_r rfl rfl trivial ?_
 refine step_nil ?_
 refine seqK_n ?_
 refine sem_seq ?_
 refine sem_region rfl ?_
 refine step_r (v := (.agg [_, _, _, _])) rfl rfl (Nat.le_of_ble_eq_true rfl) ?_
 refine step_r (v := (.agg [_, _, _, _])) rfl rfl trivial ?_
 refine step_eqlA rfl rfl rfl (by kernel_rfl) rfl rfl rfl rfl rfl ?_
 refine step_r rfl rfl trivial ?_
 refine step_gs rfl (fun h2 => ?_) (fun h2 => ?_)
 ·have g2 := h2
  try simp at g2
  refine step_g0 rfl h2 rfl ?_
  refine step_g0 rfl h2 rfl ?_
  refine step_g0 rfl h2 rfl ?_
  refine step_g0 rfl h2 rfl ?_
  refine step_gf rfl rfl ?_
  refine step_gf rfl rfl ?_
  refine step_gf rfl rfl ?_
  refine step_gf rfl rfl ?_
  refine step_gf rfl rfl ?_
  refine step_g0 rfl h2 rfl ?_
  refine step_pickT rfl h2 rfl rfl ?_
  refine step_r rfl rfl trivial ?_
  refine step_nil ?_
  refine seqK_n ?_
  refine sem_ret ?_
  refine answersR (vs := [_]) rfl ⟨trivial, trivial⟩ (congrArg B ?_) rfl
  first
   | rfl
   | (exfalso; omega)
   | (simp [mayC, c0_iff, g2]; done)
   | (rw [Bool.eq_iff_iff]; simp [mayC, c0_iff, g2]; done)
   | (rw [Bool.eq_iff_iff]; simp [mayC, c0_iff, g2]; omega)
   | grind [mayC, c0_iff]
 ·have g2 := h2
  try simp at g2
  refine step_g1 rfl h2 ?_
  refine step_r rfl rfl (by decide) ?_
  refine step_g1 rfl h2 ?_
  refine step_r rfl rfl trivial ?_
  refine step_g1 rfl h2 ?_
  refine step_bin rfl rfl rfl rfl rfl trivial ?_
  refine step_g1 rfl h2 ?_
  refine step_r rfl rfl trivial ?_
  refine step_gs rfl (fun h4 => ?_) (fun h4 => ?_)
  ·have g4 := h4
   try simp at g4
   refine step_g1 rfl h4 ?_
   refine step_r rfl rfl (by decide) ?_
   refine step_g1 rfl h4 ?_
   refine step_r rfl rfl trivial ?_
   refine step_g1 rfl h4 ?_
   refine step_r rfl rfl (by decide) ?_
   refine step_g1 rfl h4 ?_
   refine step_r rfl rfl trivial ?_
   refine step_g1 rfl h4 ?_
   refine step_bin rfl rfl rfl rfl rfl trivial ?_
   refine step_g1 rfl h2 ?_
   refine step_pickT rfl h4 rfl rfl ?_
   refine step_pickF rfl h2 rfl rfl ?_
   refine step_r rfl rfl trivial ?_
   refine step_nil ?_
   refine seqK_n ?_
   refine sem_ret ?_
   refine answersR (vs := [_]) rfl ⟨trivial, trivial⟩ (congrArg B ?_) rfl
   first
    | rfl
    | (exfalso; omega)
    | (simp [mayC, c0_iff, g2, g4]; done)
    | (rw [Bool.eq_iff_iff]; simp [mayC, c0_iff, g2, g4]; done)
    | (rw [Bool.eq_iff_iff]; simp [mayC, c0_iff, g2, g4]; omega)
    | grind [mayC, c0_iff]
  ·have g4 := h4
   try simp at g4
   refine step_g0 rfl h4 rfl ?_
   refine step_g0 rfl h4 rfl ?_
   refine step_g0 rfl h4 rfl ?_
   refine step_g0 rfl h4 rfl ?_
   refine step_g0 rfl h4 rfl ?_
   refine step_g1 rfl h2 ?_
   refine step_pickF rfl h4 rfl rfl ?_
   refine step_pickF rfl h2 rfl rfl ?_
   refine step_r rfl rfl trivial ?_
   refine step_nil ?_
   refine seqK_n ?_
   refine sem_ret ?_
   refine answersR (vs := [_]) rfl ⟨trivial, trivial⟩ (congrArg B ?_) rfl
   first
    | rfl
    | (exfalso; omega)
    | (simp [mayC, c0_iff, g2, g4]; done)
    | (rw [Bool.eq_iff_iff]; simp [mayC, c0_iff, g2, g4]; done)
    | (rw [Bool.eq_iff_iff]; simp [mayC, c0_iff, g2, g4]; omega)
    | grind [mayC, c0_iff]

theorem rightC_ok (s : GCasting) : Ok Try.prog 40 [aGCasting s] [] (B (decide (rightC s))) [] [] := by
 refine ok_of_sem Try.func40 rfl ?_
 show Walks Try.prog _ _ ⟨[(0, aGCasting s)], [], 0, [], 28, 0⟩
 refine sem_seq ?_
 refine sem_region rfl ?_
 refine step_n (o := .box [_, _, _, _, _, _, _, _, _]) (nx' := 1) rfl rfl rfl trivial ?_
 refine step_r rfl rfl trivial ?_
 refine step_nil ?_
 refine seqK_n ?_
 refine sem_seq ?_
 refine sem_block ?_
 refine sem_seq ?_
 refine sem_seq ?_
 refine sem_region rfl ?_
 refine step_r rfl rfl (by decide) ?_
 refine step_r (v := (.agg [_, _, _, _])) rfl rfl (Nat.le_of_ble_eq_true rfl) ?_
 refine step_call rfl rfl rfl rfl (may_ok s.Now) rfl rfl rfl ?_
 refine step_r rfl rfl trivial ?_
 refine step_r rfl rfl trivial ?_
 refine step_nil ?_
 refine seqK_n ?_
 refine sem_cond rfl (fun h2 => ?_) (fun h2 => ?_)
 ·have g2 := h2
  try simp at g2
  refine sem_skip ?_
  refine seqK_n ?_
  refine sem_condh1 rfl h2 ?_
  refine sem_seq ?_
  refine sem_region rfl ?_
  refine step_r rfl rfl trivial ?_
  refine step_nil ?_
  refine seqK_n ?_
  refine sem_ret ?_
  refine blkK_r ?_
  refine seqK_r ?_
  refine answersR (vs := [_]) rfl ⟨trivial, trivial⟩ (congrArg B ?_) rfl
  first
   | rfl
   | (exfalso; omega)
   | (simp [rightC, g2]; done)
   | (rw [Bool.eq_iff_iff]; simp [rightC, g2]; done)
   | (rw [Bool.eq_iff_iff]; simp [rightC, g2]; omega)
   | grind [rightC]
 ·have g2 := h2
  try simp at g2
  refine sem_region rfl ?_
  refine step_r rfl rfl (by decide) ?_
  refine step_r (v := (.agg [_, _, _, _])) rfl rfl (Nat.le_of_ble_eq_true rfl) ?_
  refine step_call rfl rfl rfl rfl (may_ok s.Next) rfl rfl rfl ?_
  refine step_r rfl rfl trivial ?_
  refine step_r rfl rfl trivial ?_
  refine step_nil ?_
  refine seqK_n ?_
  refine sem_cond rfl (fun h4 => ?_) (fun h4 => ?_)
  ·have g4 := h4
   try simp at g4
   refine sem_seq ?_
   refine sem_region rfl ?_
   refine step_r rfl rfl trivial ?_
   refine step_nil ?_
   refine seqK_n ?_
   refine sem_ret ?_
   refine blkK_r ?_
   refine seqK_r ?_
   refine answersR (vs := [_]) rfl ⟨trivial, trivial⟩ (congrArg B ?_) rfl
   first
    | rfl
    | (exfalso; omega)
    | (simp [rightC, g2, g4]; done)
    | (rw [Bool.eq_iff_iff]; simp [rightC, g2, g4]; done)
    | (rw [Bool.eq_iff_iff]; simp [rightC, g2, g4]; omega)
    | grind [rightC]
  ·have g4 := h4
   try simp at g4
   refine sem_seq ?_
   refine sem_region rfl ?_
   refine step_r rfl rfl (by decide) ?_
   refine step_r (v := (.agg [_, _, _, _])) rfl rfl (Nat.le_of_ble_eq_true rfl) ?_
   refine step_call rfl rfl rfl rfl (there_ok s.Next) rfl rfl rfl ?_
   refine step_r rfl rfl trivial ?_
   refine step_nil ?_
   refine seqK_n ?_
   refine sem_cond rfl (fun h6 => ?_) (fun h6 => ?_)
   ·have g6 := h6
    try simp at g6
    refine sem_seq ?_
    refine sem_region rfl ?_
    refine step_r rfl rfl (by decide) ?_
    refine step_r (v := (.agg [_, _, _, _])) rfl rfl (Nat.le_of_ble_eq_true rfl) ?_
    refine step_call rfl rfl rfl rfl (there_ok s.Now) rfl rfl rfl ?_
    refine step_r rfl rfl trivial ?_
    refine step_gs rfl (fun h8 => ?_) (fun h8 => ?_)
    ·have g8 := h8
     try simp at g8
     refine step_g1 rfl h8 ?_
     refine step_r rfl rfl (by decide) ?_
     refine step_g1 rfl h8 ?_
     refine step_r rfl rfl (by decide) ?_
     refine step_g1 rfl h8 ?_
     refine step_r rfl rfl trivial ?_
     refine step_g1 rfl h8 ?_
     refine step_r rfl rfl (by decide) ?_
     refine step_g1 rfl h8 ?_
     refine step_r rfl rfl (by decide) ?_
     refine step_g1 rfl h8 ?_
     refine step_r rfl rfl trivial ?_
     refine step_g1 rfl h8 ?_
     refine step_bin rfl rfl rfl rfl rfl trivial ?_
     refine step_pickT rfl h8 rfl rfl ?_
     refine step_r rfl rfl trivial ?_
     refine step_nil ?_
     refine seqK_n ?_
     refine sem_ret ?_
     refine blkK_r ?_
     refine seqK_r ?_
     refine answersR (vs := [_]) rfl ⟨trivial, trivial⟩ (congrArg B ?_) rfl
     first
      | rfl
      | (exfalso; omega)
      | (simp [rightC, g2, g4, g6, g8]; done)
      | (rw [Bool.eq_iff_iff]; simp [rightC, g2, g4, g6, g8]; done)
      | (rw [Bool.eq_iff_iff]; simp [rightC, g2, g4, g6, g8]; omega)
      | grind [rightC]
    ·have g8 := h8
     try simp at g8
     refine step_g0 rfl h8 rfl ?_
     refine step_g0 rfl h8 rfl ?_
     refine step_g0 rfl h8 rfl ?_
     refine step_g0 rfl h8 rfl ?_
     refine step_g0 rfl h8 rfl ?_
     refine step_g0 rfl h8 rfl ?_
     refine step_g0 rfl h8 rfl ?_
     refine step_pickF rfl h8 rfl rfl ?_
     refine step_r rfl rfl trivial ?_
     refine step_nil ?_
     refine seqK_n ?_
     refine sem_ret ?_
     refine blkK_r ?_
     refine seqK_r ?_
     refine answersR (vs := [_]) rfl ⟨trivial, trivial⟩ (congrArg B ?_) rfl
     first
      | rfl
      | (exfalso; omega)
      | (simp [rightC, g2, g4, g6, g8]; done)
      | (rw [Bool.eq_iff_iff]; simp [rightC, g2, g4, g6, g8]; done)
      | (rw [Bool.eq_iff_iff]; simp [rightC, g2, g4, g6, g8]; omega)
      | grind [rightC]
   ·have g6 := h6
    try simp at g6
    refine sem_skip ?_
    refine blkK_n ?_
    refine seqK_n ?_
    refine sem_seq ?_
    refine sem_region rfl ?_
    refine step_r rfl rfl trivial ?_
    refine step_nil ?_
    refine seqK_n ?_
    refine sem_ret ?_
    refine answersR (vs := [_]) rfl ⟨trivial, trivial⟩ (congrArg B ?_) rfl
    first
     | rfl
     | (exfalso; omega)
     | (simp [rightC, g2, g4, g6]; done)
     | (rw [Bool.eq_iff_iff]; simp [rightC, g2, g4, g6]; done)
     | (rw [Bool.eq_iff_iff]; simp [rightC, g2, g4, g6]; omega)
     | grind [rightC]

theorem free_ok (s : GCasting) (n : Int) : Ok Try.prog 37 [aGCasting s, I n] [] (B (decide (s.Now.Ability = 0 ∧ s.Wait ≤ n))) [] [] := by
 refine ok_of_sem Try.func37 rfl ?_
 show Walks Try.prog _ _ ⟨[(0, aGCasting s), (1, I n)], [], 0, [], 15, 0⟩
 refine sem_seq ?_
 refine sem_region rfl ?_
 refine step_n (o := .box [_, _, _, _, _, _, _, _, _]) (nx' := 1) rfl rfl rfl trivial ?_
 refine step_r rfl rfl trivial ?_
 refine step_nil ?_
 refine seqK_n ?_
 refine sem_seq ?_
 refine sem_region rfl ?_
 refine step_r rfl rfl (by decide) ?_
 refine step_r (v := (.agg [_, _, _, _])) rfl rfl (Nat.le_of_ble_eq_true rfl) ?_
 refine step_call rfl rfl rfl rfl (there_ok s.Now) rfl rfl rfl ?_
 refine step_r rfl rfl trivial ?_
 refine step_r rfl rfl trivial ?_
 refine step_gs rfl (fun h2 => ?_) (fun h2 => ?_)
 ·have g2 := h2
  try simp at g2
  refine step_g1 rfl h2 ?_
  refine step_r rfl rfl (by decide) ?_
  refine step_g1 rfl h2 ?_
  refine step_r rfl rfl trivial ?_
  refine step_g1 rfl h2 ?_
  refine step_r rfl rfl trivial ?_
  refine step_g1 rfl h2 ?_
  refine step_bin rfl rfl rfl rfl rfl trivial ?_
  refine step_pickT rfl h2 rfl rfl ?_
  refine step_r rfl rfl trivial ?_
  refine step_nil ?_
  refine seqK_n ?_
  refine sem_ret ?_
  refine answersR (vs := [_]) rfl ⟨trivial, trivial⟩ (congrArg B ?_) rfl
  first
   | rfl
   | (exfalso; omega)
   | (simp [g2]; done)
   | (rw [Bool.eq_iff_iff]; simp [g2]; done)
   | (rw [Bool.eq_iff_iff]; simp [g2]; omega)
   | grind []
 ·have g2 := h2
  try simp at g2
  refine step_g0 rfl h2 rfl ?_
  refine step_g0 rfl h2 rfl ?_
  refine step_g0 rfl h2 rfl ?_
  refine step_g0 rfl h2 rfl ?_
  refine step_pickF rfl h2 rfl rfl ?_
  refine step_r rfl rfl trivial ?_
  refine step_nil ?_
  refine seqK_n ?_
  refine sem_ret ?_
  refine answersR (vs := [_]) rfl ⟨trivial, trivial⟩ (congrArg B ?_) rfl
  first
   | rfl
   | (exfalso; omega)
   | (simp [g2]; done)
   | (rw [Bool.eq_iff_iff]; simp [g2]; done)
   | (rw [Bool.eq_iff_iff]; simp [g2]; omega)
   | grind []

theorem done_ok (s : GCasting) : Ok Try.prog 41 [aGCasting s] [] (I (doneC s)) [] [] := by
 refine ok_of_sem Try.func41 rfl ?_
 show Walks Try.prog _ _ ⟨[(0, aGCasting s)], [], 0, [], 19, 0⟩
 refine sem_seq ?_
 refine sem_region rfl ?_
 refine step_n (o := .box [_, _, _, _, _, _, _, _, _]) (nx' := 1) rfl rfl rfl trivial ?_
 refine step_r rfl rfl trivial ?_
 refine step_nil ?_
 refine seqK_n ?_
 refine sem_seq ?_
 refine sem_block ?_
 refine sem_seq ?_
 refine sem_region rfl ?_
 refine step_r rfl rfl (by decide) ?_
 refine step_r (v := (.agg [_, _, _, _])) rfl rfl (Nat.le_of_ble_eq_true rfl) ?_
 refine step_call rfl rfl rfl rfl (there_ok s.Next) rfl rfl rfl ?_
 refine step_r rfl rfl trivial ?_
 refine step_nil ?_
 refine seqK_n ?_
 refine sem_cond rfl (fun h2 => ?_) (fun h2 => ?_)
 ·have g2 := h2
  try simp at g2
  refine sem_seq ?_
  refine sem_region rfl ?_
  refine step_r rfl rfl (by decide) ?_
  refine step_r rfl rfl (by decide) ?_
  refine step_r rfl rfl trivial ?_
  refine step_r rfl rfl trivial ?_
  refine step_nil ?_
  refine seqK_n ?_
  refine sem_ret ?_
  refine blkK_r ?_
  refine seqK_r ?_
  refine answersR (vs := [_]) rfl ⟨trivial, trivial⟩ ?_ rfl
  first
   | (exfalso; omega)
   | (simp [packA, doneC, g2]; done)
   | grind [packA, doneC]
 ·have g2 := h2
  try simp at g2
  refine sem_seq ?_
  refine sem_region rfl ?_
  refine step_r rfl rfl (by decide) ?_
  refine step_r (v := (.agg [_, _, _, _])) rfl rfl (Nat.le_of_ble_eq_true rfl) ?_
  refine step_call rfl rfl rfl rfl (there_ok s.Now) rfl rfl rfl ?_
  refine step_r rfl rfl trivial ?_
  refine step_nil ?_
  refine seqK_n ?_
  refine sem_cond rfl (fun h5 => ?_) (fun h5 => ?_)
  ·have g5 := h5
   try simp at g5
   refine sem_seq ?_
   refine sem_region rfl ?_
   refine step_r rfl rfl (by decide) ?_
   refine step_r rfl rfl (by decide) ?_
   refine step_r rfl rfl trivial ?_
   refine step_r rfl rfl trivial ?_
   refine step_nil ?_
   refine seqK_n ?_
   refine sem_ret ?_
   refine blkK_r ?_
   refine seqK_r ?_
   refine answersR (vs := [_]) rfl ⟨trivial, trivial⟩ ?_ rfl
   first
    | (exfalso; omega)
    | (simp [packA, doneC, g2, g5]; done)
    | grind [packA, doneC]
  ·have g5 := h5
   try simp at g5
   refine sem_skip ?_
   refine blkK_n ?_
   refine seqK_n ?_
   refine sem_seq ?_
   refine sem_region rfl ?_
   refine step_r rfl rfl (by decide) ?_
   refine step_r rfl rfl trivial ?_
   refine step_r rfl rfl trivial ?_
   refine step_nil ?_
   refine seqK_n ?_
   refine sem_ret ?_
   refine answersR (vs := [_]) rfl ⟨trivial, trivial⟩ ?_ rfl
   first
    | (exfalso; omega)
    | (simp [packA, doneC, g2, g5]; done)
    | grind [packA, doneC]

theorem from_ok17 (a : GAbility) (g : Int) (n : Int) : Ok Try.prog 55 [aGAbility a, I g, I n] [] (aGCast (fromC a g n)) [] [] := by
 refine Ok.len fun hlen => ?_
 have hl_a_Effects : a.Effects.length ≤ maxLen := hlen _ (by simp [lensL, lens, lensP])
 unfold maxLen at hl_a_Effects
 refine ok_of_sem Try.func55 rfl ?_
 show Walks Try.prog _ _ ⟨[(0, aGAbility a), (1, I g), (2, I n)], [], 0, [], 16, 0⟩
 refine sem_seq ?_
 refine sem_region rfl ?_
 refine step_n (o := .box [_, _, _, _, _, _, _, _]) (nx' := 1) rfl rfl rfl trivial ?_
 refine step_n (o := .box [_, _, _, _]) (nx' := 2) rfl rfl rfl trivial ?_
 refine step_nil ?_
 refine seqK_n ?_
 refine sem_seq ?_
 refine sem_drawn rfl (by decide +kernel) rfl ?_
 refine step_r rfl rfl (by decide) ?_
 refine step_r rfl rfl trivial ?_
 refine step_r rfl rfl trivial ?_
 refine step_r rfl rfl trivial ?_
 refine step_r rfl rfl trivial ?_
 refine step_r rfl rfl (by decide) ?_
 refine step_r rfl rfl trivial ?_
 refine step_call rfl rfl rfl rfl (add_ok n a.Cast) rfl rfl rfl ?_
 refine step_r (v := (.agg [_, _, _, _])) rfl rfl trivial ?_
 refine step_store (H' := [(1, .box [_, _, _, _]), (0, .box [_, _, _, _, _, _, _, _])]) rfl rfl rfl rfl rfl rfl (Nat.le_of_ble_eq_true rfl) (.inr (by decide +kernel)) rfl ?_
 refine step_nil ?_
 refine seqK_n ?_
 refine sem_ret ?_
 exact answersR rfl ⟨Nat.le_of_ble_eq_true rfl, trivial⟩ (rfl) rfl

theorem now_ok (s : GCasting) (c : GCast) : Ok Try.prog 54 [aGCasting s, aGCast c] [] (aGCasting (nowC s c)) [] [] := by
 refine ok_of_sem Try.func54 rfl ?_
 show Walks Try.prog _ _ ⟨[(0, aGCasting s), (1, aGCast c)], [], 0, [], 16, 0⟩
 refine sem_seq ?_
 refine sem_region rfl ?_
 refine step_n (o := .box [_, _, _, _, _, _, _, _, _]) (nx' := 1) rfl rfl rfl trivial ?_
 refine step_n (o := .box [_, _, _, _]) (nx' := 2) rfl rfl rfl trivial ?_
 refine step_n (o := .box [_, _, _, _, _, _, _, _, _]) (nx' := 3) rfl rfl rfl trivial ?_
 refine step_nil ?_
 refine seqK_n ?_
 refine sem_seq ?_
 refine sem_region rfl ?_
 refine step_r (v := (.agg [_, _, _, _])) rfl rfl (Nat.le_of_ble_eq_true rfl) ?_
 refine step_r (v := (.agg [_, _, _, _])) rfl rfl trivial ?_
 refine step_r rfl rfl (by decide) ?_
 refine step_store (H' := [(2, .box [_, _, _, _, _, _, _, _, _]), (1, .box [_, _, _, _]), (0, .box [_, _, _, _, _, _, _, _, _])]) rfl rfl rfl rfl rfl rfl (Nat.le_of_ble_eq_true rfl) (.inl rfl) rfl ?_
 refine step_r rfl rfl (by decide) ?_
 refine step_store (H' := [(2, .box [_, _, _, _, _, _, _, _, _]), (1, .box [_, _, _, _]), (0, .box [_, _, _, _, _, _, _, _, _])]) rfl rfl rfl rfl rfl rfl (Nat.le_of_ble_eq_true rfl) (.inl rfl) rfl ?_
 refine step_nil ?_
 refine seqK_n ?_
 refine sem_seq ?_
 refine sem_seq ?_
 refine sem_region rfl ?_
 refine step_r (v := (.agg [_, _, _, _])) rfl rfl (Nat.le_of_ble_eq_true rfl) ?_
 refine step_call rfl rfl rfl rfl (there_ok c) rfl rfl rfl ?_
 refine step_nil ?_
 refine seqK_n ?_
 refine sem_cond rfl (fun h1 => ?_) (fun h1 => ?_)
 ·have g1 := h1
  try simp at g1
  refine sem_region rfl ?_
  refine step_r rfl rfl (by decide) ?_
  refine step_r rfl rfl trivial ?_
  refine step_call rfl rfl rfl rfl (add_ok c.Since 3) rfl rfl rfl ?_
  refine step_r rfl rfl (by decide) ?_
  refine step_store (H' := [(2, .box [_, _, _, _, _, _, _, _, _]), (1, .box [_, _, _, _]), (0, .box [_, _, _, _, _, _, _, _, _])]) rfl rfl rfl rfl rfl rfl (Nat.le_of_ble_eq_true rfl) (.inl rfl) rfl ?_
  refine step_nil ?_
  refine seqK_n ?_
  refine sem_seq ?_
  refine sem_region rfl ?_
  refine step_r (v := (.agg [_, _, _, _, _, _, _, _, _])) rfl rfl (Nat.le_of_ble_eq_true rfl) ?_
  refine step_store (H' := [(2, .box [_, _, _, _, _, _, _, _, _]), (1, .box [_, _, _, _]), (0, .box [_, _, _, _, _, _, _, _, _])]) rfl rfl rfl rfl rfl rfl (Nat.le_of_ble_eq_true rfl) (.inl rfl) rfl ?_
  refine step_nil ?_
  refine seqK_n ?_
  refine sem_ret ?_
  refine answersR (vs := [(.agg [_, _, _, _, _, _, _, _, _])]) rfl ⟨Nat.le_of_ble_eq_true rfl, trivial⟩ ?_ rfl
  first
   | (exfalso; omega)
   | (simp [packA, nowC, g1]; done)
   | grind [packA, nowC]
 ·have g1 := h1
  try simp at g1
  refine sem_skip ?_
  refine seqK_n ?_
  refine sem_seq ?_
  refine sem_region rfl ?_
  refine step_r (v := (.agg [_, _, _, _, _, _, _, _, _])) rfl rfl (Nat.le_of_ble_eq_true rfl) ?_
  refine step_store (H' := [(2, .box [_, _, _, _, _, _, _, _, _]), (1, .box [_, _, _, _]), (0, .box [_, _, _, _, _, _, _, _, _])]) rfl rfl rfl rfl rfl rfl (Nat.le_of_ble_eq_true rfl) (.inl rfl) rfl ?_
  refine step_nil ?_
  refine seqK_n ?_
  refine sem_ret ?_
  refine answersR (vs := [(.agg [_, _, _, _, _, _, _, _, _])]) rfl ⟨Nat.le_of_ble_eq_true rfl, trivial⟩ ?_ rfl
  first
   | (exfalso; omega)
   | (simp [packA, nowC, g1]; done)
   | grind [packA, nowC]

theorem begin_ok (s : GCasting) (a : GAbility) (g : Int) (t : Int) : Ok Try.prog 36 [aGCasting s, aGAbility a, I g, I t] [] (.tup [aGCasting (beginC s a g t).1, I (beginC s a g t).2]) [] [] := by
 refine Ok.len fun hlen => ?_
 have hl_a_Effects : a.Effects.length ≤ maxLen := hlen _ (by simp [lensL, lens, lensP])
 unfold maxLen at hl_a_Effects
 refine ok_of_sem Try.func36 rfl ?_
 show Walks Try.prog _ _ ⟨[(0, aGCasting s), (1, aGAbility a), (2, I g), (3, I t)], [], 0, [], 72, 0⟩
 refine sem_seq ?_
 refine sem_region rfl ?_
 refine step_n (o := .box [_, _, _, _, _, _, _, _, _]) (nx' := 1) rfl rfl rfl trivial ?_
 refine step_n (o := .box [_, _, _, _, _, _, _, _]) (nx' := 2) rfl rfl rfl trivial ?_
 refine step_n (o := .box [_, _, _, _, _, _, _, _, _]) (nx' := 3) rfl rfl rfl trivial ?_
 refine step_r rfl rfl trivial ?_
 refine step_nil ?_
 refine seqK_n ?_
 refine sem_seq ?_
 refine sem_region rfl ?_
 refine step_r rfl rfl trivial ?_
 refine step_call rfl rfl rfl rfl (add_ok t 2) rfl rfl rfl ?_
 refine step_r rfl rfl trivial ?_
 refine step_nil ?_
 refine seqK_n ?_
 refine sem_seq ?_
 refine sem_block ?_
 refine sem_seq ?_
 refine sem_seq ?_
 refine sem_region rfl ?_
 refine step_r (v := (.agg [_, _, _, _, _, _, _, _, _])) rfl rfl (Nat.le_of_ble_eq_true rfl) ?_
 refine step_call rfl rfl rfl rfl (rightC_ok s) rfl rfl rfl ?_
 refine step_r rfl rfl trivial ?_
 refine step_r rfl rfl trivial ?_
 refine step_nil ?_
 refine seqK_n ?_
 refine sem_cond rfl (fun h4 => ?_) (fun h4 => ?_)
 ·have g4 := h4
  try simp at g4
  refine sem_skip ?_
  refine seqK_n ?_
  refine sem_condh1 rfl h4 ?_
  refine sem_seq ?_
  refine sem_region rfl ?_
  refine step_r (v := (.agg [_, _, _, _, _, _, _, _, _])) rfl rfl trivial ?_
  refine step_store (H' := [(2, .box [_, _, _, _, _, _, _, _, _]), (1, .box [_, _, _, _, _, _, _, _]), (0, .box [_, _, _, _, _, _, _, _, _])]) rfl rfl rfl rfl rfl rfl (Nat.le_of_ble_eq_true rfl) (.inl rfl) rfl ?_
  refine step_r rfl rfl trivial ?_
  refine step_nil ?_
  refine seqK_n ?_
  refine sem_ret ?_
  refine blkK_r ?_
  refine seqK_r ?_
  refine answersR (vs := [(.agg [_, _, _, _, _, _, _, _, _]), _]) rfl ⟨Nat.le_of_ble_eq_true rfl, trivial, trivial⟩ ?_ rfl
  first
   | (exfalso; omega)
   | (simp [packA, beginC, g4]; done)
   | grind [packA, beginC]
 ·have g4 := h4
  try simp at g4
  refine sem_seq ?_
  refine sem_region rfl ?_
  refine step_r rfl rfl (by decide) ?_
  refine step_r rfl rfl trivial ?_
  refine step_bin rfl rfl rfl rfl rfl trivial ?_
  refine step_r rfl rfl trivial ?_
  refine step_nil ?_
  refine seqK_n ?_
  refine sem_cond rfl (fun h6 => ?_) (fun h6 => ?_)
  ·have g6 := h6
   try simp at g6
   refine sem_skip ?_
   refine seqK_n ?_
   refine sem_condh1 rfl h6 ?_
   refine sem_seq ?_
   refine sem_region rfl ?_
   refine step_r (v := (.agg [_, _, _, _, _, _, _, _, _])) rfl rfl trivial ?_
   refine step_store (H' := [(2, .box [_, _, _, _, _, _, _, _, _]), (1, .box [_, _, _, _, _, _, _, _]), (0, .box [_, _, _, _, _, _, _, _, _])]) rfl rfl rfl rfl rfl rfl (Nat.le_of_ble_eq_true rfl) (.inl rfl) rfl ?_
   refine step_r rfl rfl trivial ?_
   refine step_nil ?_
   refine seqK_n ?_
   refine sem_ret ?_
   refine blkK_r ?_
   refine seqK_r ?_
   refine answersR (vs := [(.agg [_, _, _, _, _, _, _, _, _]), _]) rfl ⟨Nat.le_of_ble_eq_true rfl, trivial, trivial⟩ ?_ rfl
   first
    | (exfalso; omega)
    | (simp [packA, beginC, g4, g6]; done)
    | grind [packA, beginC]
  ·have g6 := h6
   try simp at g6
   refine sem_region rfl ?_
   refine step_r rfl rfl (by decide) ?_
   refine step_r rfl rfl trivial ?_
   refine step_bin rfl rfl rfl rfl rfl trivial ?_
   refine step_r rfl rfl trivial ?_
   refine step_nil ?_
   refine seqK_n ?_
   refine sem_cond rfl (fun h8 => ?_) (fun h8 => ?_)
   ·have g8 := h8
    try simp at g8
    refine sem_seq ?_
    refine sem_region rfl ?_
    refine step_r (v := (.agg [_, _, _, _, _, _, _, _, _])) rfl rfl trivial ?_
    refine step_store (H' := [(2, .box [_, _, _, _, _, _, _, _, _]), (1, .box [_, _, _, _, _, _, _, _]), (0, .box [_, _, _, _, _, _, _, _, _])]) rfl rfl rfl rfl rfl rfl (Nat.le_of_ble_eq_true rfl) (.inl rfl) rfl ?_
    refine step_r rfl rfl trivial ?_
    refine step_nil ?_
    refine seqK_n ?_
    refine sem_ret ?_
    refine blkK_r ?_
    refine seqK_r ?_
    refine answersR (vs := [(.agg [_, _, _, _, _, _, _, _, _]), _]) rfl ⟨Nat.le_of_ble_eq_true rfl, trivial, trivial⟩ ?_ rfl
    first
     | (exfalso; omega)
     | (simp [packA, beginC, g4, g6, g8]; done)
     | grind [packA, beginC]
   ·have g8 := h8
    try simp at g8
    refine sem_seq ?_
    refine sem_region rfl ?_
    refine step_r rfl rfl (by decide) ?_
    refine step_r (v := (.agg [_, _, _, _])) rfl rfl (Nat.le_of_ble_eq_true rfl) ?_
    refine step_call rfl rfl rfl rfl (there_ok s.Now) rfl rfl rfl ?_
    refine step_r rfl rfl trivial ?_
    refine step_r rfl rfl trivial ?_
    refine step_gs rfl (fun h10 => ?_) (fun h10 => ?_)
    ·have g10 := h10
     try simp at g10
     refine step_g1 rfl h10 ?_
     refine step_r rfl rfl (by decide) ?_
     refine step_g1 rfl h10 ?_
     refine step_r rfl rfl trivial ?_
     refine step_g1 rfl h10 ?_
     refine step_r rfl rfl trivial ?_
     refine step_g1 rfl h10 ?_
     refine step_bin rfl rfl rfl rfl rfl trivial ?_
     refine step_pickT rfl h10 rfl rfl ?_
     refine step_r rfl rfl trivial ?_
     refine step_nil ?_
     refine seqK_n ?_
     refine sem_cond rfl (fun h12 => ?_) (fun h12 => ?_)
     ·have g12 := h12
      try simp at g12
      refine sem_seq ?_
      refine sem_drawn rfl (by decide +kernel) rfl ?_
      refine step_r (v := (.agg [_, _, _, _, _, _, _, _, _])) rfl rfl (Nat.le_of_ble_eq_true rfl) ?_
      refine step_r (v := (.agg [_, _, _, _, _, _, _, _])) rfl rfl (Nat.le_of_ble_eq_true rfl) ?_
      refine step_r rfl rfl trivial ?_
      refine step_r rfl rfl trivial ?_
      refine step_r rfl rfl (by decide) ?_
      refine step_r rfl rfl trivial ?_
      refine step_max rfl rfl rfl ?_
      refine step_call rfl rfl rfl rfl (from_ok17 a g (max t s.Wait)) rfl rfl rfl ?_
      refine step_call rfl rfl rfl rfl (now_ok s (fromC a g (max t s.Wait))) rfl rfl rfl ?_
      refine step_store (H' := [(2, .box [_, _, _, _, _, _, _, _, _]), (1, .box [_, _, _, _, _, _, _, _]), (0, .box [_, _, _, _, _, _, _, _, _])]) rfl rfl rfl rfl rfl rfl (Nat.le_of_ble_eq_true rfl) (.inr (by decide +kernel)) rfl ?_
      refine step_r rfl rfl trivial ?_
      refine step_nil ?_
      refine seqK_n ?_
      refine sem_ret ?_
      refine blkK_r ?_
      refine seqK_r ?_
      refine answersR (vs := [(.agg [_, _, _, _, _, _, _, _, _]), _]) rfl ⟨Nat.le_of_ble_eq_true rfl, trivial, trivial⟩ ?_ rfl
      first
       | (exfalso; omega)
       | (simp [packA, beginC, g4, g6, g8, g10, g12]; done)
       | grind [packA, beginC]
     ·have g12 := h12
      try simp at g12
      refine sem_seq ?_
      refine sem_seq ?_
      refine sem_region rfl ?_
      refine step_r rfl rfl (by decide) ?_
      refine step_r (v := (.agg [_, _, _, _])) rfl rfl (Nat.le_of_ble_eq_true rfl) ?_
      refine step_call rfl rfl rfl rfl (there_ok s.Now) rfl rfl rfl ?_
      refine step_r rfl rfl trivial ?_
      refine step_r rfl rfl trivial ?_
      refine step_nil ?_
      refine seqK_n ?_
      refine sem_cond rfl (fun h15 => ?_) (fun h15 => ?_)
      ·have g15 := h15
       try simp at g15
       refine sem_skip ?_
       refine seqK_n ?_
       refine sem_condh1 rfl h15 ?_
       refine sem_seq ?_
       refine sem_region rfl ?_
       refine step_r (v := (.agg [_, _, _, _, _, _, _, _, _])) rfl rfl trivial ?_
       refine step_store (H' := [(2, .box [_, _, _, _, _, _, _, _, _]), (1, .box [_, _, _, _, _, _, _, _]), (0, .box [_, _, _, _, _, _, _, _, _])]) rfl rfl rfl rfl rfl rfl (Nat.le_of_ble_eq_true rfl) (.inl rfl) rfl ?_
       refine step_r rfl rfl trivial ?_
       refine step_nil ?_
       refine seqK_n ?_
       refine sem_ret ?_
       refine blkK_r ?_
       refine seqK_r ?_
       refine answersR (vs := [(.agg [_, _, _, _, _, _, _, _, _]), _]) rfl ⟨Nat.le_of_ble_eq_true rfl, trivial, trivial⟩ ?_ rfl
       first
        | (exfalso; omega)
        | (simp [packA, beginC, g4, g6, g8, g10, g12, g15]; done)
        | grind [packA, beginC]
      ·have g15 := h15
       try simp at g15
       refine sem_seq ?_
       refine sem_region rfl ?_
       refine step_r rfl rfl (by decide) ?_
       refine step_r (v := (.agg [_, _, _, _])) rfl rfl (Nat.le_of_ble_eq_true rfl) ?_
       refine step_call rfl rfl rfl rfl (there_ok s.Next) rfl rfl rfl ?_
       refine step_r rfl rfl trivial ?_
       refine step_nil ?_
       refine seqK_n ?_
       refine sem_cond rfl (fun h17 => ?_) (fun h17 => ?_)
       ·have g17 := h17
        try simp at g17
        refine sem_skip ?_
        refine seqK_n ?_
        refine sem_condh1 rfl h17 ?_
        refine sem_seq ?_
        refine sem_region rfl ?_
        refine step_r (v := (.agg [_, _, _, _, _, _, _, _, _])) rfl rfl trivial ?_
        refine step_store (H' := [(2, .box [_, _, _, _, _, _, _, _, _]), (1, .box [_, _, _, _, _, _, _, _]), (0, .box [_, _, _, _, _, _, _, _, _])]) rfl rfl rfl rfl rfl rfl (Nat.le_of_ble_eq_true rfl) (.inl rfl) rfl ?_
        refine step_r rfl rfl trivial ?_
        refine step_nil ?_
        refine seqK_n ?_
        refine sem_ret ?_
        refine blkK_r ?_
        refine seqK_r ?_
        refine answersR (vs := [(.agg [_, _, _, _, _, _, _, _, _]), _]) rfl ⟨Nat.le_of_ble_eq_true rfl, trivial, trivial⟩ ?_ rfl
        first
         | (exfalso; omega)
         | (simp [packA, beginC, g4, g6, g8, g10, g12, g15, g17]; done)
         | grind [packA, beginC]
       ·have g17 := h17
        try simp at g17
        refine sem_seq ?_
        refine sem_region rfl ?_
        refine step_r rfl rfl (by decide) ?_
        refine step_r rfl rfl (by decide) ?_
        refine step_r rfl rfl trivial ?_
        refine step_r rfl rfl trivial ?_
        refine step_bin rfl rfl rfl rfl rfl trivial ?_
        refine step_r rfl rfl trivial ?_
        refine step_nil ?_
        refine seqK_n ?_
        refine sem_cond rfl (fun h19 => ?_) (fun h19 => ?_)
        ·have g19 := h19
         try simp at g19
         refine sem_skip ?_
         refine seqK_n ?_
         refine sem_condh1 rfl h19 ?_
         refine sem_seq ?_
         refine sem_region rfl ?_
         refine step_r (v := (.agg [_, _, _, _, _, _, _, _, _])) rfl rfl trivial ?_
         refine step_store (H' := [(2, .box [_, _, _, _, _, _, _, _, _]), (1, .box [_, _, _, _, _, _, _, _]), (0, .box [_, _, _, _, _, _, _, _, _])]) rfl rfl rfl rfl rfl rfl (Nat.le_of_ble_eq_true rfl) (.inl rfl) rfl ?_
         refine step_r rfl rfl trivial ?_
         refine step_nil ?_
         refine seqK_n ?_
         refine sem_ret ?_
         refine blkK_r ?_
         refine seqK_r ?_
         refine answersR (vs := [(.agg [_, _, _, _, _, _, _, _, _]), _]) rfl ⟨Nat.le_of_ble_eq_true rfl, trivial, trivial⟩ ?_ rfl
         first
          | (exfalso; omega)
          | (simp [packA, beginC, g4, g6, g8, g10, g12, g15, g17, g19]; done)
          | grind [packA, beginC]
        ·have g19 := h19
         try simp at g19
         refine sem_region rfl ?_
         refine step_r rfl rfl (by decide) ?_
         refine step_r rfl rfl trivial ?_
         refine step_r rfl rfl (by decide) ?_
         refine step_r rfl rfl (by decide) ?_
         refine step_r rfl rfl trivial ?_
         refine step_bin rfl rfl rfl rfl rfl trivial ?_
         refine step_r rfl rfl trivial ?_
         refine step_nil ?_
         refine seqK_n ?_
         refine sem_cond rfl (fun h21 => ?_) (fun h21 => ?_)
         ·have g21 := h21
          try simp at g21
          refine sem_seq ?_
          refine sem_region rfl ?_
          refine step_r (v := (.agg [_, _, _, _, _, _, _, _, _])) rfl rfl trivial ?_
          refine step_store (H' := [(2, .box [_, _, _, _, _, _, _, _, _]), (1, .box [_, _, _, _, _, _, _, _]), (0, .box [_, _, _, _, _, _, _, _, _])]) rfl rfl rfl rfl rfl rfl (Nat.le_of_ble_eq_true rfl) (.inl rfl) rfl ?_
          refine step_r rfl rfl trivial ?_
          refine step_nil ?_
          refine seqK_n ?_
          refine sem_ret ?_
          refine blkK_r ?_
          refine seqK_r ?_
          refine answersR (vs := [(.agg [_, _, _, _, _, _, _, _, _]), _]) rfl ⟨Nat.le_of_ble_eq_true rfl, trivial, trivial⟩ ?_ rfl
          first
           | (exfalso; omega)
           | (simp [packA, beginC, g4, g6, g8, g10, g12, g15, g17, g19, g21]; done)
           | grind [packA, beginC]
         ·have g21 := h21
          try simp at g21
          refine sem_skip ?_
          refine blkK_n ?_
          refine seqK_n ?_
          refine sem_seq ?_
          refine sem_region rfl ?_
          refine step_r (v := (.agg [_, _, _, _, _, _, _, _])) rfl rfl (Nat.le_of_ble_eq_true rfl) ?_
          refine step_r rfl rfl trivial ?_
          refine step_r rfl rfl (by decide) ?_
          refine step_r rfl rfl (by decide) ?_
          refine step_r rfl rfl trivial ?_
          refine step_call rfl rfl rfl rfl (from_ok17 a g s.Now.Until) rfl rfl rfl ?_
          refine step_r rfl rfl (by decide) ?_
          refine step_store (H' := [(2, .box [_, _, _, _, _, _, _, _, _]), (1, .box [_, _, _, _, _, _, _, _]), (0, .box [_, _, _, _, _, _, _, _, _])]) rfl rfl rfl rfl rfl rfl (Nat.le_of_ble_eq_true rfl) (.inl rfl) rfl ?_
          refine step_nil ?_
          refine seqK_n ?_
          refine sem_seq ?_
          refine sem_region rfl ?_
          refine step_r (v := (.agg [_, _, _, _, _, _, _, _, _])) rfl rfl (Nat.le_of_ble_eq_true rfl) ?_
          refine step_store (H' := [(2, .box [_, _, _, _, _, _, _, _, _]), (1, .box [_, _, _, _, _, _, _, _]), (0, .box [_, _, _, _, _, _, _, _, _])]) rfl rfl rfl rfl rfl rfl (Nat.le_of_ble_eq_true rfl) (.inl rfl) rfl ?_
          refine step_r rfl rfl trivial ?_
          refine step_nil ?_
          refine seqK_n ?_
          refine sem_ret ?_
          refine answersR (vs := [(.agg [_, _, _, _, _, _, _, _, _]), _]) rfl ⟨Nat.le_of_ble_eq_true rfl, trivial, trivial⟩ ?_ rfl
          first
           | (exfalso; omega)
           | (simp [packA, beginC, g4, g6, g8, g10, g12, g15, g17, g19, g21]; done)
           | grind [packA, beginC]
    ·have g10 := h10
     try simp at g10
     refine step_g0 rfl h10 rfl ?_
     refine step_g0 rfl h10 rfl ?_
     refine step_g0 rfl h10 rfl ?_
     refine step_g0 rfl h10 rfl ?_
     refine step_pickF rfl h10 rfl rfl ?_
     refine step_r rfl rfl trivial ?_
     refine step_nil ?_
     refine seqK_n ?_
     refine sem_condF rfl ?_
     refine sem_seq ?_
     refine sem_seq ?_
     refine sem_region rfl ?_
     refine step_r rfl rfl (by decide) ?_
     refine step_r (v := (.agg [_, _, _, _])) rfl rfl (Nat.le_of_ble_eq_true rfl) ?_
     refine step_call rfl rfl rfl rfl (there_ok s.Now) rfl rfl rfl ?_
     refine step_r rfl rfl trivial ?_
     refine step_r rfl rfl trivial ?_
     refine step_nil ?_
     refine seqK_n ?_
     refine sem_cond rfl (fun h24 => ?_) (fun h24 => ?_)
     ·have g24 := h24
      try simp at g24
      refine sem_skip ?_
      refine seqK_n ?_
      refine sem_condh1 rfl h24 ?_
      refine sem_seq ?_
      refine sem_region rfl ?_
      refine step_r (v := (.agg [_, _, _, _, _, _, _, _, _])) rfl rfl trivial ?_
      refine step_store (H' := [(2, .box [_, _, _, _, _, _, _, _, _]), (1, .box [_, _, _, _, _, _, _, _]), (0, .box [_, _, _, _, _, _, _, _, _])]) rfl rfl rfl rfl rfl rfl (Nat.le_of_ble_eq_true rfl) (.inl rfl) rfl ?_
      refine step_r rfl rfl trivial ?_
      refine step_nil ?_
      refine seqK_n ?_
      refine sem_ret ?_
      refine blkK_r ?_
      refine seqK_r ?_
      refine answersR (vs := [(.agg [_, _, _, _, _, _, _, _, _]), _]) rfl ⟨Nat.le_of_ble_eq_true rfl, trivial, trivial⟩ ?_ rfl
      first
       | (exfalso; omega)
       | (simp [packA, beginC, g4, g6, g8, g10, g24]; done)
       | grind [packA, beginC]
     ·have g24 := h24
      try simp at g24
      refine sem_seq ?_
      refine sem_region rfl ?_
      refine step_r rfl rfl (by decide) ?_
      refine step_r (v := (.agg [_, _, _, _])) rfl rfl (Nat.le_of_ble_eq_true rfl) ?_
      refine step_call rfl rfl rfl rfl (there_ok s.Next) rfl rfl rfl ?_
      refine step_r rfl rfl trivial ?_
      refine step_nil ?_
      refine seqK_n ?_
      refine sem_cond rfl (fun h26 => ?_) (fun h26 => ?_)
      ·have g26 := h26
       try simp at g26
       refine sem_skip ?_
       refine seqK_n ?_
       refine sem_condh1 rfl h26 ?_
       refine sem_seq ?_
       refine sem_region rfl ?_
       refine step_r (v := (.agg [_, _, _, _, _, _, _, _, _])) rfl rfl trivial ?_
       refine step_store (H' := [(2, .box [_, _, _, _, _, _, _, _, _]), (1, .box [_, _, _, _, _, _, _, _]), (0, .box [_, _, _, _, _, _, _, _, _])]) rfl rfl rfl rfl rfl rfl (Nat.le_of_ble_eq_true rfl) (.inl rfl) rfl ?_
       refine step_r rfl rfl trivial ?_
       refine step_nil ?_
       refine seqK_n ?_
       refine sem_ret ?_
       refine blkK_r ?_
       refine seqK_r ?_
       refine answersR (vs := [(.agg [_, _, _, _, _, _, _, _, _]), _]) rfl ⟨Nat.le_of_ble_eq_true rfl, trivial, trivial⟩ ?_ rfl
       first
        | (exfalso; omega)
        | (simp [packA, beginC, g4, g6, g8, g10, g24, g26]; done)
        | grind [packA, beginC]
      ·have g26 := h26
       try simp at g26
       refine sem_seq ?_
       refine sem_region rfl ?_
       refine step_r rfl rfl (by decide) ?_
       refine step_r rfl rfl (by decide) ?_
       refine step_r rfl rfl trivial ?_
       refine step_r rfl rfl trivial ?_
       refine step_bin rfl rfl rfl rfl rfl trivial ?_
       refine step_r rfl rfl trivial ?_
       refine step_nil ?_
       refine seqK_n ?_
       refine sem_cond rfl (fun h28 => ?_) (fun h28 => ?_)
       ·have g28 := h28
        try simp at g28
        refine sem_skip ?_
        refine seqK_n ?_
        refine sem_condh1 rfl h28 ?_
        refine sem_seq ?_
        refine sem_region rfl ?_
        refine step_r (v := (.agg [_, _, _, _, _, _, _, _, _])) rfl rfl trivial ?_
        refine step_store (H' := [(2, .box [_, _, _, _, _, _, _, _, _]), (1, .box [_, _, _, _, _, _, _, _]), (0, .box [_, _, _, _, _, _, _, _, _])]) rfl rfl rfl rfl rfl rfl (Nat.le_of_ble_eq_true rfl) (.inl rfl) rfl ?_
        refine step_r rfl rfl trivial ?_
        refine step_nil ?_
        refine seqK_n ?_
        refine sem_ret ?_
        refine blkK_r ?_
        refine seqK_r ?_
        refine answersR (vs := [(.agg [_, _, _, _, _, _, _, _, _]), _]) rfl ⟨Nat.le_of_ble_eq_true rfl, trivial, trivial⟩ ?_ rfl
        first
         | (exfalso; omega)
         | (simp [packA, beginC, g4, g6, g8, g10, g24, g26, g28]; done)
         | grind [packA, beginC]
       ·have g28 := h28
        try simp at g28
        refine sem_region rfl ?_
        refine step_r rfl rfl (by decide) ?_
        refine step_r rfl rfl trivial ?_
        refine step_r rfl rfl (by decide) ?_
        refine step_r rfl rfl (by decide) ?_
        refine step_r rfl rfl trivial ?_
        refine step_bin rfl rfl rfl rfl rfl trivial ?_
        refine step_r rfl rfl trivial ?_
        refine step_nil ?_
        refine seqK_n ?_
        refine sem_cond rfl (fun h30 => ?_) (fun h30 => ?_)
        ·have g30 := h30
         try simp at g30
         refine sem_seq ?_
         refine sem_region rfl ?_
         refine step_r (v := (.agg [_, _, _, _, _, _, _, _, _])) rfl rfl trivial ?_
         refine step_store (H' := [(2, .box [_, _, _, _, _, _, _, _, _]), (1, .box [_, _, _, _, _, _, _, _]), (0, .box [_, _, _, _, _, _, _, _, _])]) rfl rfl rfl rfl rfl rfl (Nat.le_of_ble_eq_true rfl) (.inl rfl) rfl ?_
         refine step_r rfl rfl trivial ?_
         refine step_nil ?_
         refine seqK_n ?_
         refine sem_ret ?_
         refine blkK_r ?_
         refine seqK_r ?_
         refine answersR (vs := [(.agg [_, _, _, _, _, _, _, _, _]), _]) rfl ⟨Nat.le_of_ble_eq_true rfl, trivial, trivial⟩ ?_ rfl
         first
          | (exfalso; omega)
          | (simp [packA, beginC, g4, g6, g8, g10, g24, g26, g28, g30]; done)
          | grind [packA, beginC]
        ·have g30 := h30
         try simp at g30
         refine sem_skip ?_
         refine blkK_n ?_
         refine seqK_n ?_
         refine sem_seq ?_
         refine sem_region rfl ?_
         refine step_r (v := (.agg [_, _, _, _, _, _, _, _])) rfl rfl (Nat.le_of_ble_eq_true rfl) ?_
         refine step_r rfl rfl trivial ?_
         refine step_r rfl rfl (by decide) ?_
         refine step_r rfl rfl (by decide) ?_
         refine step_r rfl rfl trivial ?_
         refine step_call rfl rfl rfl rfl (from_ok17 a g s.Now.Until) rfl rfl rfl ?_
         refine step_r rfl rfl (by decide) ?_
         refine step_store (H' := [(2, .box [_, _, _, _, _, _, _, _, _]), (1, .box [_, _, _, _, _, _, _, _]), (0, .box [_, _, _, _, _, _, _, _, _])]) rfl rfl rfl rfl rfl rfl (Nat.le_of_ble_eq_true rfl) (.inl rfl) rfl ?_
         refine step_nil ?_
         refine seqK_n ?_
         refine sem_seq ?_
         refine sem_region rfl ?_
         refine step_r (v := (.agg [_, _, _, _, _, _, _, _, _])) rfl rfl (Nat.le_of_ble_eq_true rfl) ?_
         refine step_store (H' := [(2, .box [_, _, _, _, _, _, _, _, _]), (1, .box [_, _, _, _, _, _, _, _]), (0, .box [_, _, _, _, _, _, _, _, _])]) rfl rfl rfl rfl rfl rfl (Nat.le_of_ble_eq_true rfl) (.inl rfl) rfl ?_
         refine step_r rfl rfl trivial ?_
         refine step_nil ?_
         refine seqK_n ?_
         refine sem_ret ?_
         refine answersR (vs := [(.agg [_, _, _, _, _, _, _, _, _]), _]) rfl ⟨Nat.le_of_ble_eq_true rfl, trivial, trivial⟩ ?_ rfl
         first
          | (exfalso; omega)
          | (simp [packA, beginC, g4, g6, g8, g10, g24, g26, g28, g30]; done)
          | grind [packA, beginC]

theorem stop_ok (s : GCasting) : Ok Try.prog 39 [aGCasting s] [] (.tup [aGCasting (stopC s).1, I (stopC s).2]) [] [] := by
 refine ok_of_sem Try.func39 rfl ?_
 show Walks Try.prog _ _ ⟨[(0, aGCasting s)], [], 0, [], 26, 0⟩
 refine sem_seq ?_
 refine sem_region rfl ?_
 refine step_n (o := .box [_, _, _, _, _, _, _, _, _]) (nx' := 1) rfl rfl rfl trivial ?_
 refine step_n (o := .box [_, _, _, _, _, _, _, _, _]) (nx' := 2) rfl rfl rfl trivial ?_
 refine step_r rfl rfl trivial ?_
 refine step_nil ?_
 refine seqK_n ?_
 refine sem_seq ?_
 refine sem_region rfl ?_
 refine step_r rfl rfl trivial ?_
 refine step_nil ?_
 refine seqK_n ?_
 refine sem_seq ?_
 refine sem_seq ?_
 refine sem_region rfl ?_
 refine step_r rfl rfl (by decide) ?_
 refine step_r (v := (.agg [_, _, _, _])) rfl rfl (Nat.le_of_ble_eq_true rfl) ?_
 refine step_r rfl rfl (by decide) ?_
 refine step_r (v := (.agg [_, _, _, _])) rfl rfl (Nat.le_of_ble_eq_true rfl) ?_
 refine step_n (o := .row _ _ [_, _, _, _, _, _, _, _]) (nx' := 3) rfl rfl rfl (by decide) ?_
 refine step_r rfl rfl trivial ?_
 refine step_r rfl rfl trivial ?_
 refine step_nil ?_
 refine seqK_n ?_
 refine sem_block ?_
 refine sem_loop_of (fun k : Nat => match k with | 0 => (⟨[(1, .ptr 0 0), (2, .ptr 1 0), (4, I 0), (11, .ref 2 4 0 2), (12, I 2), (13, I 0)], [(0, .box [I s.Now.Ability, I s.Now.Target, I s.Now.Since, I s.Now.Until, I s.Next.Ability, I s.Next.Target, I s.Next.Since, I s.Next.Until, I s.Wait]), (1, .box [I 0, I 0, I 0, I 0, I 0, I 0, I 0, I 0, I 0]), (2, .row 52 4 [i64 s.Now.Ability, i64 s.Now.Target, i64 s.Now.Since, i64 s.Now.Until, i64 s.Next.Ability, i64 s.Next.Target, i64 s.Next.Since, i64 s.Next.Until])], 3, [], 26, 0⟩ : St) | 1 => (⟨[(1, .ptr 0 0), (2, .ptr 1 0), (4, I (if s.Now.Ability ≠ 0 then 1 else 0)), (11, .ref 2 4 0 2), (12, I 2), (13, I 1)], [(0, .box [I s.Now.Ability, I s.Now.Target, I s.Now.Since, I s.Now.Until, I s.Next.Ability, I s.Next.Target, I s.Next.Since, I s.Next.Until, I s.Wait]), (1, .box [I 0, I 0, I 0, I 0, I 0, I 0, I 0, I 0, I 0]), (2, .row 52 4 [i64 s.Now.Ability, i64 s.Now.Target, i64 s.Now.Since, i64 s.Now.Until, i64 s.Next.Ability, i64 s.Next.Target, i64 s.Next.Since, i64 s.Next.Until])], 3, [], 26, 0⟩ : St) | _ => (⟨[(1, .ptr 0 0), (2, .ptr 1 0), (4, I (stopC s).2), (11, .ref 2 4 0 2), (12, I 2), (13, I 2)], [(0, .box [I s.Now.Ability, I s.Now.Target, I s.Now.Since, I s.Now.Until, I s.Next.Ability, I s.Next.Target, I s.Next.Since, I s.Next.Until, I s.Wait]), (1, .box [I 0, I 0, I 0, I 0, I 0, I 0, I 0, I 0, I 0]), (2, .row 52 4 [i64 s.Now.Ability, i64 s.Now.Target, i64 s.Now.Since, i64 s.Now.Until, i64 s.Next.Ability, i64 s.Next.Target, i64 s.Next.Since, i64 s.Next.Until])], 3, [], 26, 0⟩ : St)) (fun k => k ≤ 2) (fun k => 2 - k) 0 (Nat.zero_le _) (less_of rfl ⟨⟨rfl, rfl⟩, ⟨rfl, rfl⟩, ⟨rfl, rfl⟩, ⟨rfl, rfl⟩, ⟨rfl, rfl⟩, ⟨rfl, rfl⟩, trivial⟩ ⟨⟨rfl, rfl, rfl⟩, ⟨rfl, rfl, rfl⟩, ⟨rfl, rfl, rfl⟩, trivial⟩ (fun _ _ => .inr (Nat.zero_le _))) (fun k hI => ?_)
 have hk : k = 0 ∨ k = 1 ∨ k = 2 := by omega
 rcases hk with rfl | rfl | rfl
 ·show Walks Try.prog _ _ (⟨[(1, .ptr 0 0), (2, .ptr 1 0), (4, I 0), (11, .ref 2 4 0 2), (12, I 2), (13, I 0)], [(0, .box [I s.Now.Ability, I s.Now.Target, I s.Now.Since, I s.Now.Until, I s.Next.Ability, I s.Next.Target, I s.Next.Since, I s.Next.Until, I s.Wait]), (1, .box [I 0, I 0, I 0, I 0, I 0, I 0, I 0, I 0, I 0]), (2, .row 52 4 [i64 s.Now.Ability, i64 s.Now.Target, i64 s.Now.Since, i64 s.Now.Until, i64 s.Next.Ability, i64 s.Next.Target, i64 s.Next.Since, i64 s.Next.Until])], 3, [], 26, 0⟩ : St)
  refine sem_seq ?_
  refine sem_region rfl ?_
  refine step_bin rfl rfl rfl rfl rfl trivial ?_
  refine step_nil ?_
  refine seqK_n ?_
  refine sem_seq ?_
  refine sem_condT rfl ?_
  refine sem_skip ?_
  refine seqK_n ?_
  refine sem_seq ?_
  refine sem_block ?_
  refine sem_seq ?_
  refine sem_region rfl ?_
  refine step_idxR (k := 0) rfl rfl rfl rfl (by decide) rfl ?_
  refine step_load_rowR rfl rfl rfl rfl (Nat.le_of_ble_eq_true rfl) (rfl) rfl ?_
  refine step_n (o := .box [_, _, _, _]) (nx' := 4) rfl rfl rfl trivial ?_
  refine step_store (H' := [(3, .box [_, _, _, _]), (0, .box [_, _, _, _, _, _, _, _, _]), (1, .box [_, _, _, _, _, _, _, _, _]), (2, .row _ _ _)]) rfl rfl rfl rfl rfl rfl (Nat.le_of_ble_eq_true rfl) (.inl rfl) rfl ?_
  refine step_nil ?_
  refine seqK_n ?_
  refine sem_seq ?_
  refine sem_region rfl ?_
  refine step_r (v := (.agg [_, _, _, _])) rfl rfl (Nat.le_of_ble_eq_true rfl) ?_
  refine step_call rfl rfl rfl rfl (there_ok s.Now) rfl rfl rfl ?_
  refine step_nil ?_
  refine seqK_n ?_
  refine sem_cond rfl (fun h1 => ?_) (fun h1 => ?_)
  ·have g1 := h1
   try simp at g1
   refine sem_region rfl ?_
   refine step_r rfl rfl trivial ?_
   refine step_bin rfl rfl rfl rfl rfl trivial ?_
   refine step_r rfl rfl trivial ?_
   refine step_nil ?_
   refine blkK_n ?_
   refine seqK_n ?_
   refine sem_region rfl ?_
   refine step_bin rfl rfl rfl rfl rfl trivial ?_
   refine step_r rfl rfl trivial ?_
   refine step_nil ?_
   exact lup_again 1 (by omega) (by omega) (less_of rfl ⟨⟨rfl, rfl⟩, ⟨rfl, rfl⟩, ⟨congrArg (fun n => some (I n)) (by grind [stopC, IntKind.wrap_i64]), rfl⟩, ⟨rfl, rfl⟩, ⟨rfl, rfl⟩, ⟨congrArg (fun n => some (I n)) (by decide), rfl⟩, trivial⟩ ⟨⟨rfl, rfl, rfl⟩, ⟨rfl, rfl, rfl⟩, ⟨rfl, rfl, rfl⟩, trivial⟩ (fun _ _ => .inr (Nat.zero_le _)))
  ·have g1 := h1
   try simp at g1
   refine sem_skip ?_
   refine blkK_n ?_
   refine seqK_n ?_
   refine sem_region rfl ?_
   refine step_bin rfl rfl rfl rfl rfl trivial ?_
   refine step_r rfl rfl trivial ?_
   refine step_nil ?_
   exact lup_again 1 (by omega) (by omega) (less_of rfl ⟨⟨rfl, rfl⟩, ⟨rfl, rfl⟩, ⟨congrArg (fun n => some (I n)) (by grind [stopC, IntKind.wrap_i64]), rfl⟩, ⟨rfl, rfl⟩, ⟨rfl, rfl⟩, ⟨congrArg (fun n => some (I n)) (by decide), rfl⟩, trivial⟩ ⟨⟨rfl, rfl, rfl⟩, ⟨rfl, rfl, rfl⟩, ⟨rfl, rfl, rfl⟩, trivial⟩ (fun _ _ => .inr (Nat.zero_le _)))
 ·show Walks Try.prog _ _ (⟨[(1, .ptr 0 0), (2, .ptr 1 0), (4, I (if s.Now.Ability ≠ 0 then 1 else 0)), (11, .ref 2 4 0 2), (12, I 2), (13, I 1)], [(0, .box [I s.Now.Ability, I s.Now.Target, I s.Now.Since, I s.Now.Until, I s.Next.Ability, I s.Next.Target, I s.Next.Since, I s.Next.Until, I s.Wait]), (1, .box [I 0, I 0, I 0, I 0, I 0, I 0, I 0, I 0, I 0]), (2, .row 52 4 [i64 s.Now.Ability, i64 s.Now.Target, i64 s.Now.Since, i64 s.Now.Until, i64 s.Next.Ability, i64 s.Next.Target, i64 s.Next.Since, i64 s.Next.Until])], 3, [], 26, 0⟩ : St)
  refine sem_seq ?_
  refine sem_region rfl ?_
  refine step_bin rfl rfl rfl rfl rfl trivial ?_
  refine step_nil ?_
  refine seqK_n ?_
  refine sem_seq ?_
  refine sem_condT rfl ?_
  refine sem_skip ?_
  refine seqK_n ?_
  refine sem_seq ?_
  refine sem_block ?_
  refine sem_seq ?_
  refine sem_region rfl ?_
  refine step_idxR (k := 1) rfl rfl rfl rfl (by decide) rfl ?_
  refine step_load_rowR rfl rfl rfl rfl (Nat.le_of_ble_eq_true rfl) (rfl) rfl ?_
  refine step_n (o := .box [_, _, _, _]) (nx' := 4) rfl rfl rfl trivial ?_
  refine step_store (H' := [(3, .box [_, _, _, _]), (0, .box [_, _, _, _, _, _, _, _, _]), (1, .box [_, _, _, _, _, _, _, _, _]), (2, .row _ _ _)]) rfl rfl rfl rfl rfl rfl (Nat.le_of_ble_eq_true rfl) (.inl rfl) rfl ?_
  refine step_nil ?_
  refine seqK_n ?_
  refine sem_seq ?_
  refine sem_region rfl ?_
  refine step_r (v := (.agg [_, _, _, _])) rfl rfl (Nat.le_of_ble_eq_true rfl) ?_
  refine step_call rfl rfl rfl rfl (there_ok s.Next) rfl rfl rfl ?_
  refine step_nil ?_
  refine seqK_n ?_
  refine sem_cond rfl (fun h6 => ?_) (fun h6 => ?_)
  ·have g6 := h6
   try simp at g6
   refine sem_region rfl ?_
   refine step_r rfl rfl trivial ?_
   refine step_bin rfl rfl rfl rfl rfl trivial ?_
   refine step_r rfl rfl trivial ?_
   refine step_nil ?_
   refine blkK_n ?_
   refine seqK_n ?_
   refine sem_region rfl ?_
   refine step_bin rfl rfl rfl rfl rfl trivial ?_
   refine step_r rfl rfl trivial ?_
   refine step_nil ?_
   exact lup_again 2 (by omega) (by omega) (less_of rfl ⟨⟨rfl, rfl⟩, ⟨rfl, rfl⟩, ⟨congrArg (fun n => some (I n)) (by grind [stopC, IntKind.wrap_i64]), rfl⟩, ⟨rfl, rfl⟩, ⟨rfl, rfl⟩, ⟨congrArg (fun n => some (I n)) (by decide), rfl⟩, trivial⟩ ⟨⟨rfl, rfl, rfl⟩, ⟨rfl, rfl, rfl⟩, ⟨rfl, rfl, rfl⟩, trivial⟩ (fun _ _ => .inr (Nat.zero_le _)))
  ·have g6 := h6
   try simp at g6
   refine sem_skip ?_
   refine blkK_n ?_
   refine seqK_n ?_
   refine sem_region rfl ?_
   refine step_bin rfl rfl rfl rfl rfl trivial ?_
   refine step_r rfl rfl trivial ?_
   refine step_nil ?_
   exact lup_again 2 (by omega) (by omega) (less_of rfl ⟨⟨rfl, rfl⟩, ⟨rfl, rfl⟩, ⟨congrArg (fun n => some (I n)) (by grind [stopC, IntKind.wrap_i64]), rfl⟩, ⟨rfl, rfl⟩, ⟨rfl, rfl⟩, ⟨congrArg (fun n => some (I n)) (by decide), rfl⟩, trivial⟩ ⟨⟨rfl, rfl, rfl⟩, ⟨rfl, rfl, rfl⟩, ⟨rfl, rfl, rfl⟩, trivial⟩ (fun _ _ => .inr (Nat.zero_le _)))
 ·show Walks Try.prog _ _ (⟨[(1, .ptr 0 0), (2, .ptr 1 0), (4, I (stopC s).2), (11, .ref 2 4 0 2), (12, I 2), (13, I 2)], [(0, .box [I s.Now.Ability, I s.Now.Target, I s.Now.Since, I s.Now.Until, I s.Next.Ability, I s.Next.Target, I s.Next.Since, I s.Next.Until, I s.Wait]), (1, .box [I 0, I 0, I 0, I 0, I 0, I 0, I 0, I 0, I 0]), (2, .row 52 4 [i64 s.Now.Ability, i64 s.Now.Target, i64 s.Now.Since, i64 s.Now.Until, i64 s.Next.Ability, i64 s.Next.Target, i64 s.Next.Since, i64 s.Next.Until])], 3, [], 26, 0⟩ : St)
  refine sem_seq ?_
  refine sem_region rfl ?_
  refine step_bin rfl rfl rfl rfl rfl trivial ?_
  refine step_nil ?_
  refine seqK_n ?_
  refine sem_seq ?_
  refine sem_condF rfl ?_
  refine sem_exit ?_
  refine seqK_e ?_
  refine lupK_e ?_
  refine blkK_t rfl ?_
  refine seqK_n ?_
  refine sem_seq ?_
  refine sem_region rfl ?_
  refine step_r rfl rfl (by decide) ?_
  refine step_r rfl rfl trivial ?_
  refine step_r (v := (.agg [_, _, _, _, _, _, _, _, _])) rfl rfl trivial ?_
  refine step_r rfl rfl trivial ?_
  refine step_store (H' := [(0, .box [_, _, _, _, _, _, _, _, _]), (1, .box [_, _, _, _, _, _, _, _, _]), (2, .row _ _ _)]) rfl rfl rfl rfl rfl rfl (Nat.le_of_ble_eq_true rfl) (.inl rfl) rfl ?_
  refine step_r rfl rfl trivial ?_
  refine step_nil ?_
  refine seqK_n ?_
  refine sem_ret ?_
  exact answersR rfl ⟨Nat.le_of_ble_eq_true rfl, trivial, trivial⟩ (rfl) rfl

theorem step_ok (s : GCasting) (t : Int) : Ok Try.prog 38 [aGCasting s, I t] [] (.tup [aGCasting (stepC s t).1, .ref 0 4 0 (stepC s t).2.length]) [.row 52 4 ((stepC s t).2.flatMap encGCast)] [] := by
 refine ok_of_sem Try.func38 rfl ?_
 show Walks Try.prog _ _ ⟨[(0, aGCasting s), (1, I t)], [], 0, [], 29, 0⟩
 refine sem_seq ?_
 refine sem_region rfl ?_
 refine step_n (o := .box [_, _, _, _, _, _, _, _, _]) (nx' := 1) rfl rfl rfl trivial ?_
 refine step_n (o := .box [_, _, _, _, _, _, _, _, _]) (nx' := 2) rfl rfl rfl trivial ?_
 refine step_n (nx' := 3) rfl rfl rfl trivial ?_
 refine step_nil ?_
 refine seqK_n ?_
 refine sem_scope ?_
 refine sem_seq ?_
 refine sem_region rfl ?_
 refine step_n (nx' := 4) rfl rfl rfl trivial ?_
 refine step_nil ?_
 refine seqK_n ?_
 refine sem_seq ?_
 refine sem_label ?_
 refine seqK_n ?_
 refine sem_seq ?_
 refine sem_block ?_
 refine sem_loop_of (fun a : Nat × GCasting × List GCast => match a with | (n, s1, L) => (⟨[(1, I t), (2, .ptr 0 0), (4, .ptr 1 0), (6, .ref 3 4 0 L.length)], [(0, .box [I s1.Now.Ability, I s1.Now.Target, I s1.Now.Since, I s1.Now.Until, I s1.Next.Ability, I s1.Next.Target, I s1.Next.Since, I s1.Next.Until, I s1.Wait]), (1, .box [I 0, I 0, I 0, I 0, I 0, I 0, I 0, I 0, I 0]), (3, .row 52 4 (L.flatMap encGCast))], 4, [], 29, 0⟩ : St)) (fun a : Nat × GCasting × List GCast => match a with | (n, s1, L) => L.length + n = 3 ∧ (stepF n s1 t).1 = (stepC s t).1 ∧ L ++ (stepF n s1 t).2 = (stepC s t).2 ∧ (n ≤ 1 → s1.Now.Ability = 0) ∧ (n ≤ 2 → s1.Next.Ability = 0)) (fun a : Nat × GCasting × List GCast => match a with | (n, s1, L) => n) (3, s, []) (⟨rfl, rfl, rfl, fun h => by omega, fun h => by omega⟩) (less_of rfl ⟨⟨rfl, rfl⟩, ⟨rfl, rfl⟩, ⟨rfl, rfl⟩, ⟨rfl, rfl⟩, trivial⟩ ⟨⟨rfl, rfl, rfl⟩, ⟨rfl, rfl, rfl⟩, ⟨rfl, rfl, rfl⟩, trivial⟩ (fun _ _ => .inr (Nat.zero_le _))) (fun a hI => ?_)
 obtain ⟨n, s1, L⟩ := a
 show Walks Try.prog _ _ (⟨[(1, I t), (2, .ptr 0 0), (4, .ptr 1 0), (6, .ref 3 4 0 L.length)], [(0, .box [I s1.Now.Ability, I s1.Now.Target, I s1.Now.Since, I s1.Now.Until, I s1.Next.Ability, I s1.Next.Target, I s1.Next.Since, I s1.Next.Until, I s1.Wait]), (1, .box [I 0, I 0, I 0, I 0, I 0, I 0, I 0, I 0, I 0]), (3, .row 52 4 (L.flatMap encGCast))], 4, [], 29, 0⟩ : St)
 refine sem_block ?_
 refine sem_seq ?_
 refine sem_seq ?_
 refine sem_region rfl ?_
 refine step_r rfl rfl (by decide) ?_
 refine step_r (v := (.agg [_, _, _, _])) rfl rfl (Nat.le_of_ble_eq_true rfl) ?_
 refine step_call rfl rfl rfl rfl (there_ok s1.Now) rfl rfl rfl ?_
 refine step_r rfl rfl trivial ?_
 refine step_r rfl rfl trivial ?_
 refine step_gs rfl (fun h2 => ?_) (fun h2 => ?_)
 ·have g2 := h2
  try simp at g2
  have e : stepF n s1 t = (s1, []) := by
   cases n with
   | zero => rfl
   | succ n => exact if_pos (by simp [g2])
  obtain ⟨i1, i2, i3, i4, i5⟩ := hI
  rw [e] at i2 i3
  simp only [List.append_nil] at i3
  rw [← i2, ← i3]
  refine step_g0 rfl h2 rfl ?_
  refine step_g0 rfl h2 rfl ?_
  refine step_g0 rfl h2 rfl ?_
  refine step_g0 rfl h2 rfl ?_
  refine step_g0 rfl h2 rfl ?_
  refine step_pickT rfl h2 rfl rfl ?_
  refine step_nil ?_
  refine seqK_n ?_
  refine sem_condT rfl ?_
  refine sem_exit ?_
  refine seqK_e ?_
  refine blkK_f rfl ?_
  refine lupK_e ?_
  refine blkK_t rfl ?_
  refine seqK_n ?_
  refine sem_seq ?_
  refine sem_region rfl ?_
  refine step_r (v := (.agg [_, _, _, _, _, _, _, _, _])) rfl rfl (Nat.le_of_ble_eq_true rfl) ?_
  refine step_r rfl rfl trivial ?_
  refine step_store (H' := [(0, .box [_, _, _, _, _, _, _, _, _]), (1, .box [_, _, _, _, _, _, _, _, _]), (3, .row _ _ _)]) rfl rfl rfl rfl rfl rfl (Nat.le_of_ble_eq_true rfl) (.inl rfl) rfl ?_
  refine step_r rfl rfl trivial ?_
  refine step_nil ?_
  refine seqK_n ?_
  refine sem_ret ?_
  refine scpK_r ?_
  exact answersNewR [3] rfl ⟨Nat.le_of_ble_eq_true rfl, trivial, trivial⟩ rfl rfl (by decide) rfl ⟨⟨rfl, rfl⟩, trivial⟩
 ·have g2 := h2
  try simp at g2
  have ga := g2
  refine step_g1 rfl h2 ?_
  refine step_r rfl rfl (by decide) ?_
  refine step_g1 rfl h2 ?_
  refine step_r rfl rfl (by decide) ?_
  refine step_g1 rfl h2 ?_
  refine step_r rfl rfl trivial ?_
  refine step_g1 rfl h2 ?_
  refine step_r rfl rfl trivial ?_
  refine step_g1 rfl h2 ?_
  refine step_bin rfl rfl rfl rfl rfl trivial ?_
  refine step_pickF rfl h2 rfl rfl ?_
  refine step_nil ?_
  refine seqK_n ?_
  refine sem_cond rfl (fun h5 => ?_) (fun h5 => ?_)
  ·have g5 := h5
   try simp at g5
   have e : stepF n s1 t = (s1, []) := by
    cases n with
    | zero => rfl
    | succ n => exact if_pos (by simp [g5])
   obtain ⟨i1, i2, i3, i4, i5⟩ := hI
   rw [e] at i2 i3
   simp only [List.append_nil] at i3
   rw [← i2, ← i3]
   refine sem_exit ?_
   refine seqK_e ?_
   refine blkK_f rfl ?_
   refine lupK_e ?_
   refine blkK_t rfl ?_
   refine seqK_n ?_
   refine sem_seq ?_
   refine sem_region rfl ?_
   refine step_r (v := (.agg [_, _, _, _, _, _, _, _, _])) rfl rfl (Nat.le_of_ble_eq_true rfl) ?_
   refine step_r rfl rfl trivial ?_
   refine step_store (H' := [(0, .box [_, _, _, _, _, _, _, _, _]), (1, .box [_, _, _, _, _, _, _, _, _]), (3, .row _ _ _)]) rfl rfl rfl rfl rfl rfl (Nat.le_of_ble_eq_true rfl) (.inl rfl) rfl ?_
   refine step_r rfl rfl trivial ?_
   refine step_nil ?_
   refine seqK_n ?_
   refine sem_ret ?_
   refine scpK_r ?_
   exact answersNewR [3] rfl ⟨Nat.le_of_ble_eq_true rfl, trivial, trivial⟩ rfl rfl (by decide) rfl ⟨⟨rfl, rfl⟩, trivial⟩
  ·have g5 := h5
   try simp at g5
   have gb := g5
   refine sem_skip ?_
   refine seqK_n ?_
   refine sem_seq ?_
   refine sem_region rfl ?_
   refine step_r rfl rfl trivial ?_
   refine step_r rfl rfl (by decide) ?_
   refine step_r (v := (.agg [_, _, _, _])) rfl rfl (Nat.le_of_ble_eq_true rfl) ?_
   refine step_n (o := .row _ _ [_, _, _, _]) (nx' := 5) rfl rfl rfl (by decide) ?_
   refine step_appendC (m := 1) (new := [_, _, _, _]) (cs' := (L ++ [s1.Now]).flatMap encGCast) (n' := (L ++ [s1.Now]).length) (H' := [(4, .row _ _ _), (0, .box [_, _, _, _, _, _, _, _, _]), (1, .box [_, _, _, _, _, _, _, _, _]), (3, .row _ _ _)]) rfl rfl rfl (rfl) rfl rfl rfl rfl rfl rfl (flat_len (s := 4) (enc := encGCast) (fun _ => rfl) L) (rfl) (by have := hI.1; unfold maxGrow; omega) (len_snoc L _) (((flat_snoc (enc := encGCast) (l := L) s1.Now)).symm) (.inl rfl) rfl rfl (.keep rfl (.keep rfl (.keep rfl (.keep rfl .nil)))) (.keep rfl (.keep rfl (.keep rfl (.lose (v' := .undef) rfl (.keep rfl (.keep rfl (.keep rfl (.keep rfl (.keep rfl (.keep rfl (.keep rfl (.keep rfl (.keep rfl (.keep rfl (.keep rfl (.keep rfl (.keep rfl (.keep rfl (.lose (v' := .undef) rfl .nil))))))))))))))))))) ?_
   refine step_r rfl rfl trivial ?_
   refine step_nil ?_
   refine seqK_n ?_
   refine sem_region rfl ?_
   refine step_r (v := (.agg [_, _, _, _, _, _, _, _, _])) rfl rfl (Nat.le_of_ble_eq_true rfl) ?_
   refine step_r rfl rfl (by decide) ?_
   refine step_r (v := (.agg [_, _, _, _])) rfl rfl (Nat.le_of_ble_eq_true rfl) ?_
   refine step_call rfl rfl rfl rfl (now_ok s1 s1.Next) rfl rfl rfl ?_
   refine step_store (H' := [(4, .row _ _ _), (0, .box [_, _, _, _, _, _, _, _, _]), (1, .box [_, _, _, _, _, _, _, _, _]), (3, .row _ _ _)]) rfl rfl rfl rfl rfl rfl (Nat.le_of_ble_eq_true rfl) (.inl rfl) rfl ?_
   refine step_nil ?_
   refine blkK_n ?_
   obtain ⟨i1, i2, i3, i4, i5⟩ := hI
   obtain ⟨m, rfl⟩ : ∃ m, n = m + 1 := ⟨n - 1, by
    have : ¬ n ≤ 1 := fun h => ga (i4 h)
    omega⟩
   have e : stepF (m + 1) s1 t = ((stepF m (nowC s1 s1.Next) t).1, s1.Now :: (stepF m (nowC s1 s1.Next) t).2) := if_neg (by simp only [not_or]; exact ⟨ga, by omega⟩)
   rw [e] at i2 i3
   exact lup_again (m, nowC s1 s1.Next, L ++ [s1.Now]) (⟨by simp only [List.length_append, List.length_cons, List.length_nil]; omega, i2, by rw [List.append_assoc]; exact i3, fun h => i5 (by omega), fun _ => rfl⟩) (Nat.lt_succ_self m) (less_of rfl ⟨⟨rfl, rfl⟩, ⟨rfl, rfl⟩, ⟨rfl, rfl⟩, ⟨rfl, rfl⟩, trivial⟩ ⟨⟨rfl, rfl, rfl⟩, ⟨rfl, rfl, rfl⟩, ⟨rfl, rfl, rfl⟩, trivial⟩ (fun _ _ => .inr (Nat.zero_le _)))

theorem same17_ok (a : List GCast) (a_f : Bool) (b : List GCast) (b_f : Bool) : Ok Try.prog 42 [.pv (.slc a.length a_f (a.flatMap encGCast)), .pv (.slc b.length b_f (b.flatMap encGCast))] [] (B (decide (a = b))) [] [] := by
 refine Ok.len fun hlen => ?_
 have hl_a : a.length ≤ maxLen := hlen _ (by simp [lensL, lens, lensP])
 have hl_b : b.length ≤ maxLen := hlen _ (by simp [lensL, lens, lensP])
 unfold maxLen at hl_a hl_b
 refine ok_of_sem Try.func42 rfl ?_
 show Walks Try.prog _ _ ⟨[(0, .pv (.slc a.length a_f (a.flatMap encGCast))), (1, .pv (.slc b.length b_f (b.flatMap encGCast)))], [], 0, [], 26, 0⟩
 refine sem_seq ?_
 refine sem_region rfl ?_
 refine step_r rfl rfl trivial ?_
 refine step_nil ?_
 refine seqK_n ?_
 refine sem_seq ?_
 refine sem_seq ?_
 refine sem_region rfl ?_
 refine step_r rfl rfl trivial ?_
 refine step_r rfl rfl trivial ?_
 refine step_r rfl rfl trivial ?_
 refine step_r rfl rfl trivial ?_
 refine step_bin rfl rfl rfl rfl rfl trivial ?_
 refine step_nil ?_
 refine seqK_n ?_
 refine sem_cond rfl (fun h1 => ?_) (fun h1 => ?_)
 ·skip
  refine sem_seq ?_
  refine sem_region rfl ?_
  refine step_r rfl rfl trivial ?_
  refine step_nil ?_
  refine seqK_n ?_
  refine sem_ret ?_
  refine seqK_r ?_
  have hne : ¬ a.length = b.length := by
   have h := h1; simp at h; omega
  exact answersR rfl (by simp) (congrArg B (decide_eq_false (fun e => hne (by rw [e]))).symm) rfl
 ·have hlen : a.length = b.length := by
   have h := h1; simp at h; omega
  refine sem_skip ?_
  refine seqK_n ?_
  refine sem_seq ?_
  refine sem_seq ?_
  refine sem_region rfl ?_
  refine step_r rfl rfl trivial ?_
  refine step_nil ?_
  refine seqK_n ?_
  refine sem_block ?_
  refine sem_loop_of (fun k : Nat => (⟨[(0, .pv (.slc a.length a_f (a.flatMap encGCast))), (1, .pv (.slc b.length b_f (b.flatMap encGCast))), (5, I k)], [], 0, [], 26, 0⟩ : St)) (fun k : Nat => k ≤ a.length ∧ a.take k = b.take k) (fun k : Nat => a.length - k) 0 (⟨Nat.zero_le _, rfl⟩) (less_of rfl ⟨⟨rfl, rfl⟩, ⟨rfl, rfl⟩, ⟨rfl, rfl⟩, trivial⟩ trivial (fun _ _ => .inr (Nat.zero_le _))) (fun k hI => ?_)
  show Walks Try.prog _ _ (⟨[(0, .pv (.slc a.length a_f (a.flatMap encGCast))), (1, .pv (.slc b.length b_f (b.flatMap encGCast))), (5, I k)], [], 0, [], 26, 0⟩ : St)
  refine sem_seq ?_
  refine sem_seq ?_
  refine sem_region rfl ?_
  refine step_r rfl rfl trivial ?_
  refine step_r rfl rfl trivial ?_
  refine step_r rfl rfl trivial ?_
  refine step_bin rfl rfl rfl rfl rfl trivial ?_
  refine step_nil ?_
  refine seqK_n ?_
  refine sem_cond rfl (fun h3 => ?_) (fun h3 => ?_)
  ·have hk : k < a.length := by simpa using h3
   have hk2 : k < b.length := by omega
   obtain ⟨x, hx⟩ : ∃ x, a[k]? = some x := ⟨_, List.getElem?_eq_getElem hk⟩
   obtain ⟨y, hy⟩ : ∃ y, b[k]? = some y := ⟨_, List.getElem?_eq_getElem hk2⟩
   refine sem_skip ?_
   refine seqK_n ?_
   refine sem_seq ?_
   refine sem_block ?_
   refine sem_seq ?_
   refine sem_drawn rfl (by decide +kernel) rfl ?_
   refine step_r rfl rfl trivial ?_
   refine step_r rfl rfl trivial ?_
   refine step_idxS (k := k) rfl rfl rfl rfl hk (flat_ne (s := 4) (enc := encGCast) (fun _ => rfl) (by decide) hk) rfl ?_
   refine step_load_row rfl rfl rfl (flat_lt (s := 4) (enc := encGCast) (fun _ => rfl) hk) (flat_take (s := 4) (enc := encGCast) (fun _ => rfl) hx) rfl ?_
   refine step_r rfl rfl trivial ?_
   refine step_r rfl rfl trivial ?_
   refine step_idxS (k := k) rfl rfl rfl rfl hk2 (flat_ne (s := 4) (enc := encGCast) (fun _ => rfl) (by decide) hk2) rfl ?_
   refine step_load_row rfl rfl rfl (flat_lt (s := 4) (enc := encGCast) (fun _ => rfl) hk2) (flat_take (s := 4) (enc := encGCast) (fun _ => rfl) hy) rfl ?_
   refine step_neqA rfl rfl rfl (by kernel_rfl) rfl rfl rfl rfl rfl ?_
   refine step_nil ?_
   refine seqK_n ?_
   refine sem_cond rfl (fun h4 => ?_) (fun h4 => ?_)
   ·have hne : x ≠ y := by
     intro e; subst e; simp at h4
    refine sem_seq ?_
    refine sem_region rfl ?_
    refine step_r rfl rfl trivial ?_
    refine step_nil ?_
    refine seqK_n ?_
    refine sem_ret ?_
    refine blkK_r ?_
    refine seqK_r ?_
    refine lupK_r ?_
    refine blkK_r ?_
    refine seqK_r ?_
    exact answersR rfl (by simp) (congrArg B (decide_eq_false (same_no hx hy hne)).symm) rfl
   ·have hxy : x = y := by
     have h := h4
     simp at h
     rcases x with ⟨⟩; rcases y with ⟨⟩; simp_all
    refine sem_skip ?_
    refine blkK_n ?_
    refine seqK_n ?_
    refine sem_region rfl ?_
    refine step_r rfl rfl trivial ?_
    refine step_bin rfl rfl rfl rfl rfl trivial ?_
    refine step_r rfl rfl trivial ?_
    refine step_nil ?_
    exact lup_again (k+1) (⟨hk, by rw [take_snoc hx, take_snoc hy, hI.2, hxy]⟩) (by omega) (less_of rfl ⟨⟨rfl, rfl⟩, ⟨rfl, rfl⟩, ⟨congrArg (fun n => some (I n)) (wrapK hk hl_a), rfl⟩, trivial⟩ trivial (fun _ _ => .inr (Nat.zero_le _)))
  ·have hk : k = a.length := by have := of_decide_eq_false h3; have := hI.1; omega
   refine sem_exit ?_
   refine seqK_e ?_
   refine lupK_e ?_
   refine blkK_t rfl ?_
   refine seqK_n ?_
   refine sem_seq ?_
   refine sem_region rfl ?_
   refine step_r rfl rfl trivial ?_
   refine step_nil ?_
   refine seqK_n ?_
   refine sem_ret ?_
   exact answersR rfl (by simp) (congrArg B (decide_eq_true (same_all hI.2 hk hlen)).symm) rfl
end Go.Proofs.Ytgopngmofcohnaa

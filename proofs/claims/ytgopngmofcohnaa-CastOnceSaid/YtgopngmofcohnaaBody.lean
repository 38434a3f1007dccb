import Derived.Test.YtgopngmofcohnaaSl
namespace Go.Proofs.Ytgopngmofcohnaa
open Go Go.RowKit Go.Proofs.YtgopngmofcohnaaVm
attribute [local irreducible] opsWp AnswersE OpsS
set_option maxHeartbeats 400000
set_option maxRecDepth 100000
set_option linter.all false
structure GPos where
  (X : Int)
  (Y : Int)
  deriving DecidableEq, Inhabited
def encGPos (x : GPos) : List PV := [i64 x.X, i64 x.Y]
abbrev aGPos (x : GPos) : AV := .agg [I x.X, I x.Y]
def wfGPos (x : GPos) : Prop := (InR x.X) ∧ (InR x.Y)
theorem encGPos_solid {l : List GPos} : ∀ p ∈ l.flatMap encGPos, solidP p = true := flat_solid (fun x p h => by simp only [encGPos, List.mem_cons, List.mem_nil_iff, or_false] at h; rcases h with rfl | rfl <;> rfl)

structure GUnit where
  (Id : Int)
  (Kind : Int)
  (Group : Int)
  (Health : Int)
  (MaxHealth : Int)
  (Power : Int)
  (MaxPower : Int)
  (At : GPos)
  (Casting : Int)
  deriving DecidableEq, Inhabited
def encGUnit (x : GUnit) : List PV := [i64 x.Id, i64 x.Kind, i64 x.Group, i64 x.Health, i64 x.MaxHealth, i64 x.Power, i64 x.MaxPower, i64 x.At.X, i64 x.At.Y, i64 x.Casting]
abbrev aGUnit (x : GUnit) : AV := .agg [I x.Id, I x.Kind, I x.Group, I x.Health, I x.MaxHealth, I x.Power, I x.MaxPower, I x.At.X, I x.At.Y, I x.Casting]
def wfGUnit (x : GUnit) : Prop := (InR x.Id) ∧ (InR x.Kind) ∧ (InR x.Group) ∧ (InR x.Health) ∧ (InR x.MaxHealth) ∧ (InR x.Power) ∧ (InR x.MaxPower) ∧ (wfGPos x.At) ∧ (InR x.Casting)
theorem encGUnit_solid {l : List GUnit} : ∀ p ∈ l.flatMap encGUnit, solidP p = true := flat_solid (fun x p h => by simp only [encGUnit, List.mem_cons, List.mem_nil_iff, or_false] at h; rcases h with rfl | rfl | rfl | rfl | rfl | rfl | rfl | rfl | rfl | rfl <;> rfl)

structure A9int where
  (f0 : Int)
  (f1 : Int)
  (f2 : Int)
  (f3 : Int)
  (f4 : Int)
  (f5 : Int)
  (f6 : Int)
  (f7 : Int)
  (f8 : Int)
  deriving DecidableEq, Inhabited
def encA9int (x : A9int) : List PV := [i64 x.f0, i64 x.f1, i64 x.f2, i64 x.f3, i64 x.f4, i64 x.f5, i64 x.f6, i64 x.f7, i64 x.f8]
abbrev aA9int (x : A9int) : AV := .agg [I x.f0, I x.f1, I x.f2, I x.f3, I x.f4, I x.f5, I x.f6, I x.f7, I x.f8]
def wfA9int (x : A9int) : Prop := (InR x.f0) ∧ (InR x.f1) ∧ (InR x.f2) ∧ (InR x.f3) ∧ (InR x.f4) ∧ (InR x.f5) ∧ (InR x.f6) ∧ (InR x.f7) ∧ (InR x.f8)
theorem encA9int_solid {l : List A9int} : ∀ p ∈ l.flatMap encA9int, solidP p = true := flat_solid (fun x p h => by simp only [encA9int, List.mem_cons, List.mem_nil_iff, or_false] at h; rcases h with rfl | rfl | rfl | rfl | rfl | rfl | rfl | rfl | rfl <;> rfl)

def Right (u : GUnit) : Prop := 1 ≤ u.Id ∧ (u.Kind = 1 ∨ u.Kind = 2) ∧ 0 ≤ u.Group ∧ u.Group ≤ 8 ∧ 0 ≤ u.Casting ∧ 1 ≤ u.MaxHealth ∧ u.MaxHealth ≤ 1000000 ∧ 0 ≤ u.MaxPower ∧ u.MaxPower ≤ 1000000 ∧ 0 ≤ u.Health ∧ u.Health ≤ u.MaxHealth ∧ 0 ≤ u.Power ∧ u.Power ≤ u.MaxPower
instance (u : GUnit) : Decidable (Right u) := by unfold Right; infer_instance
def hurtM (u : GUnit) (n : Int) : GUnit × Int := if Right u then
    let k := clampM n 0 u.Health
    let h := IntKind.i64.wrap (u.Health - k)
    ({ u with Health := h, Casting := if h < 1 then 0 else u.Casting }, k) else (u, 0)
def healM (u : GUnit) (n : Int) : GUnit × Int := if Right u ∧ ¬ u.Health < 1 then
    let k := clampM n 0 (IntKind.i64.wrap (u.MaxHealth - u.Health))
    ({ u with Health := IntKind.i64.wrap (u.Health + k) }, k) else (u, 0)
def gainM (u : GUnit) (n : Int) : GUnit × Int := if Right u ∧ ¬ u.Health < 1 then
    let k := clampM n 0 (IntKind.i64.wrap (u.MaxPower - u.Power))
    ({ u with Power := IntKind.i64.wrap (u.Power + k) }, k) else (u, 0)
def spendM (u : GUnit) (n : Int) : GUnit × Bool := if Right u ∧ ¬ u.Health < 1 ∧ 0 ≤ n ∧ n ≤ u.Power then
    ({ u with Power := IntKind.i64.wrap (u.Power - n) }, true) else (u, false)
def raiseM (u : GUnit) : GUnit × Bool := if Right u ∧ u.Health < 1 then
    ({ u with Health := max (partM u.MaxHealth 1 2) 1 }, true) else (u, false)
abbrev outUI (r : GUnit × Int) : AV := .tup [aGUnit r.1, I r.2]
abbrev outUB (r : GUnit × Bool) : AV := .tup [aGUnit r.1, B r.2]


theorem within_ok (n : Int) (a : Int) (b : Int) : Ok Try.prog 50 [I n, I a, I b] [] (B (decide (a ≤ n ∧ n ≤ b))) [] [] := by
 refine ok_of_sem Try.func50 rfl ?_
 show Walks Try.prog _ _ ⟨[(0, I n), (1, I a), (2, I b)], [], 0, [], 15, 0⟩
 refine sem_seq ?_
 refine sem_region rfl ?_
 refine step_r rfl rfl trivial ?_
 refine step_nil ?_
 refine seqK_n ?_
 refine sem_seq ?_
 refine sem_region rfl ?_
 refine step_r rfl rfl trivial ?_
 refine step_r rfl rfl trivial ?_
 refine step_bin rfl rfl rfl rfl rfl trivial ?_
 refine step_r rfl rfl trivial ?_
 refine step_gs rfl (fun h4 => ?_) (fun h4 => ?_)
 ·have g4 := h4
  try simp at g4
  refine step_g1 rfl h4 ?_
  refine step_r rfl rfl trivial ?_
  refine step_g1 rfl h4 ?_
  refine step_r rfl rfl trivial ?_
  refine step_g1 rfl h4 ?_
  refine step_bin rfl rfl rfl rfl rfl trivial ?_
  refine step_pickT rfl h4 rfl rfl ?_
  refine step_r rfl rfl trivial ?_
  refine step_nil ?_
  refine seqK_n ?_
  refine sem_ret ?_
  refine answersR (vs := [_]) rfl ⟨trivial, trivial⟩ (congrArg B ?_) rfl
  first
   | rfl
   | (exfalso; omega)
   | (simp [g4]; done)
   | (rw [Bool.eq_iff_iff]; simp [g4]; done)
   | (rw [Bool.eq_iff_iff]; simp [g4]; omega)
   | grind []
 ·have g4 := h4
  try simp at g4
  refine step_g0 rfl h4 rfl ?_
  refine step_g0 rfl h4 rfl ?_
  refine step_g0 rfl h4 rfl ?_
  refine step_pickF rfl h4 rfl rfl ?_
  refine step_r rfl rfl trivial ?_
  refine step_nil ?_
  refine seqK_n ?_
  refine sem_ret ?_
  refine answersR (vs := [_]) rfl ⟨trivial, trivial⟩ (congrArg B ?_) rfl
  first
   | rfl
   | (exfalso; omega)
   | (simp [g4]; done)
   | (rw [Bool.eq_iff_iff]; simp [g4]; done)
   | (rw [Bool.eq_iff_iff]; simp [g4]; omega)
   | grind []

theorem right_ok (u : GUnit) : Ok Try.prog 22 [aGUnit u] [] (B (decide (Right u))) [] [] := by
 refine ok_of_sem Try.func22 rfl ?_
 show Walks Try.prog _ _ ⟨[(0, aGUnit u)], [], 0, [], 43, 0⟩
 refine sem_seq ?_
 refine sem_region rfl ?_
 refine step_n (o := .box [_, _, _, _, _, _, _, _, _, _]) (nx' := 1) rfl rfl rfl trivial ?_
 refine step_r rfl rfl trivial ?_
 refine step_nil ?_
 refine seqK_n ?_
 refine sem_seq ?_
 refine sem_block ?_
 refine sem_seq ?_
 refine sem_seq ?_
 refine sem_region rfl ?_
 refine step_r rfl rfl (by decide) ?_
 refine step_r rfl rfl trivial ?_
 refine step_bin rfl rfl rfl rfl rfl trivial ?_
 refine step_r rfl rfl trivial ?_
 refine step_nil ?_
 refine seqK_n ?_
 refine sem_cond rfl (fun h2 => ?_) (fun h2 => ?_)
 ·have g2 := h2
  try simp at g2
  refine sem_skip ?_
  refine seqK_n ?_
  refine sem_condh1 rfl h2 ?_
  refine sem_seq ?_
  refine sem_region rfl ?_
  refine step_r rfl rfl trivial ?_
  refine step_nil ?_
  refine seqK_n ?_
  refine sem_ret ?_
  refine blkK_r ?_
  refine seqK_r ?_
  refine answersR (vs := [_]) rfl ⟨trivial, trivial⟩ (congrArg B ?_) rfl
  first
   | rfl
   | (exfalso; omega)
   | (simp [Right, g2]; done)
   | (rw [Bool.eq_iff_iff]; simp [Right, g2]; done)
   | (rw [Bool.eq_iff_iff]; simp [Right, g2]; omega)
   | grind [Right]
 ·have g2 := h2
  try simp at g2
  refine sem_seq ?_
  refine sem_region rfl ?_
  refine step_r rfl rfl (by decide) ?_
  refine step_r rfl rfl trivial ?_
  refine step_bin rfl rfl rfl rfl rfl trivial ?_
  refine step_r rfl rfl trivial ?_
  refine step_gs rfl (fun h4 => ?_) (fun h4 => ?_)
  ·have g4 := h4
   try simp at g4
   refine step_g1 rfl h4 ?_
   refine step_r rfl rfl (by decide) ?_
   refine step_g1 rfl h4 ?_
   refine step_r rfl rfl trivial ?_
   refine step_g1 rfl h4 ?_
   refine step_bin rfl rfl rfl rfl rfl trivial ?_
   refine step_pickT rfl h4 rfl rfl ?_
   refine step_r rfl rfl trivial ?_
   refine step_nil ?_
   refine seqK_n ?_
   refine sem_cond rfl (fun h6 => ?_) (fun h6 => ?_)
   ·have g6 := h6
    try simp at g6
    refine sem_skip ?_
    refine seqK_n ?_
    refine sem_condh1 rfl h6 ?_
    refine sem_seq ?_
    refine sem_region rfl ?_
    refine step_r rfl rfl trivial ?_
    refine step_nil ?_
    refine seqK_n ?_
    refine sem_ret ?_
    refine blkK_r ?_
    refine seqK_r ?_
    refine answersR (vs := [_]) rfl ⟨trivial, trivial⟩ (congrArg B ?_) rfl
    first
     | rfl
     | (exfalso; omega)
     | (simp [Right, g2, g4, g6]; done)
     | (rw [Bool.eq_iff_iff]; simp [Right, g2, g4, g6]; done)
     | (rw [Bool.eq_iff_iff]; simp [Right, g2, g4, g6]; omega)
     | grind [Right]
   ·have g6 := h6
    try simp at g6
    refine sem_seq ?_
    refine sem_region rfl ?_
    refine step_r rfl rfl (by decide) ?_
    refine step_r rfl rfl trivial ?_
    refine step_call rfl rfl rfl rfl (within_ok u.Group 0 8) rfl rfl rfl ?_
    refine step_r rfl rfl trivial ?_
    refine step_r rfl rfl trivial ?_
    refine step_nil ?_
    refine seqK_n ?_
    refine sem_cond rfl (fun h8 => ?_) (fun h8 => ?_)
    ·have g8 := h8
     try simp at g8
     refine sem_skip ?_
     refine seqK_n ?_
     refine sem_condh1 rfl h8 ?_
     refine sem_seq ?_
     refine sem_region rfl ?_
     refine step_r rfl rfl trivial ?_
     refine step_nil ?_
     refine seqK_n ?_
     refine sem_ret ?_
     refine blkK_r ?_
     refine seqK_r ?_
     refine answersR (vs := [_]) rfl ⟨trivial, trivial⟩ (congrArg B ?_) rfl
     first
      | rfl
      | (exfalso; omega)
      | (simp [Right, g2, g4, g6, g8]; done)
      | (rw [Bool.eq_iff_iff]; simp [Right, g2, g4, g6, g8]; done)
      | (rw [Bool.eq_iff_iff]; simp [Right, g2, g4, g6, g8]; omega)
      | grind [Right]
    ·have g8 := h8
     try simp at g8
     refine sem_region rfl ?_
     refine step_r rfl rfl (by decide) ?_
     refine step_r rfl rfl trivial ?_
     refine step_bin rfl rfl rfl rfl rfl trivial ?_
     refine step_r rfl rfl trivial ?_
     refine step_nil ?_
     refine seqK_n ?_
     refine sem_cond rfl (fun h10 => ?_) (fun h10 => ?_)
     ·have g10 := h10
      try simp at g10
      refine sem_seq ?_
      refine sem_region rfl ?_
      refine step_r rfl rfl trivial ?_
      refine step_nil ?_
      refine seqK_n ?_
      refine sem_ret ?_
      refine blkK_r ?_
      refine seqK_r ?_
      refine answersR (vs := [_]) rfl ⟨trivial, trivial⟩ (congrArg B ?_) rfl
      first
       | rfl
       | (exfalso; omega)
       | (simp [Right, g2, g4, g6, g8, g10]; done)
       | (rw [Bool.eq_iff_iff]; simp [Right, g2, g4, g6, g8, g10]; done)
       | (rw [Bool.eq_iff_iff]; simp [Right, g2, g4, g6, g8, g10]; omega)
       | grind [Right]
     ·have g10 := h10
      try simp at g10
      refine sem_seq ?_
      refine sem_seq ?_
      refine sem_region rfl ?_
      refine step_r rfl rfl (by decide) ?_
      refine step_r rfl rfl trivial ?_
      refine step_call rfl rfl rfl rfl (within_ok u.MaxHealth 1 1000000) rfl rfl rfl ?_
      refine step_r rfl rfl trivial ?_
      refine step_r rfl rfl trivial ?_
      refine step_nil ?_
      refine seqK_n ?_
      refine sem_cond rfl (fun h12 => ?_) (fun h12 => ?_)
      ·have g12 := h12
       try simp at g12
       refine sem_skip ?_
       refine seqK_n ?_
       refine sem_condh1 rfl h12 ?_
       refine sem_seq ?_
       refine sem_region rfl ?_
       refine step_r rfl rfl trivial ?_
       refine step_nil ?_
       refine seqK_n ?_
       refine sem_ret ?_
       refine blkK_r ?_
       refine seqK_r ?_
       refine answersR (vs := [_]) rfl ⟨trivial, trivial⟩ (congrArg B ?_) rfl
       first
        | rfl
        | (exfalso; omega)
        | (simp [Right, g2, g4, g6, g8, g10, g12]; done)
        | (rw [Bool.eq_iff_iff]; simp [Right, g2, g4, g6, g8, g10, g12]; done)
        | (rw [Bool.eq_iff_iff]; simp [Right, g2, g4, g6, g8, g10, g12]; omega)
        | grind [Right]
      ·have g12 := h12
       try simp at g12
       refine sem_region rfl ?_
       refine step_r rfl rfl (by decide) ?_
       refine step_r rfl rfl trivial ?_
       refine step_call rfl rfl rfl rfl (within_ok u.MaxPower 0 1000000) rfl rfl rfl ?_
       refine step_r rfl rfl trivial ?_
       refine step_r rfl rfl trivial ?_
       refine step_nil ?_
       refine seqK_n ?_
       refine sem_cond rfl (fun h14 => ?_) (fun h14 => ?_)
       ·have g14 := h14
        try simp at g14
        refine sem_seq ?_
        refine sem_region rfl ?_
        refine step_r rfl rfl trivial ?_
        refine step_nil ?_
        refine seqK_n ?_
        refine sem_ret ?_
        refine blkK_r ?_
        refine seqK_r ?_
        refine answersR (vs := [_]) rfl ⟨trivial, trivial⟩ (congrArg B ?_) rfl
        first
         | rfl
         | (exfalso; omega)
         | (simp [Right, g2, g4, g6, g8, g10, g12, g14]; done)
         | (rw [Bool.eq_iff_iff]; simp [Right, g2, g4, g6, g8, g10, g12, g14]; done)
         | (rw [Bool.eq_iff_iff]; simp [Right, g2, g4, g6, g8, g10, g12, g14]; omega)
         | grind [Right]
       ·have g14 := h14
        try simp at g14
        refine sem_skip ?_
        refine blkK_n ?_
        refine seqK_n ?_
        refine sem_seq ?_
        refine sem_region rfl ?_
        refine step_r rfl rfl (by decide) ?_
        refine step_r rfl rfl trivial ?_
        refine step_r rfl rfl (by decide) ?_
        refine step_r rfl rfl trivial ?_
        refine step_call rfl rfl rfl rfl (within_ok u.Health 0 u.MaxHealth) rfl rfl rfl ?_
        refine step_r rfl rfl trivial ?_
        refine step_gs rfl (fun h16 => ?_) (fun h16 => ?_)
        ·have g16 := h16
         try simp at g16
         refine step_g1 rfl h16 ?_
         refine step_r rfl rfl (by decide) ?_
         refine step_g1 rfl h16 ?_
         refine step_r rfl rfl trivial ?_
         refine step_g1 rfl h16 ?_
         refine step_r rfl rfl (by decide) ?_
         refine step_g1 rfl h16 ?_
         refine step_r rfl rfl trivial ?_
         refine step_g1 rfl h16 ?_
         refine step_call rfl rfl rfl rfl (within_ok u.Power 0 u.MaxPower) rfl rfl rfl ?_
         refine step_pickT rfl h16 rfl rfl ?_
         refine step_r rfl rfl trivial ?_
         refine step_nil ?_
         refine seqK_n ?_
         refine sem_ret ?_
         refine answersR (vs := [_]) rfl ⟨trivial, trivial⟩ (congrArg B ?_) rfl
         first
          | rfl
          | (exfalso; omega)
          | (simp [Right, g2, g4, g6, g8, g10, g12, g14, g16]; done)
          | (rw [Bool.eq_iff_iff]; simp [Right, g2, g4, g6, g8, g10, g12, g14, g16]; done)
          | (rw [Bool.eq_iff_iff]; simp [Right, g2, g4, g6, g8, g10, g12, g14, g16]; omega)
          | grind [Right]
        ·have g16 := h16
         try simp at g16
         refine step_g0 rfl h16 rfl ?_
         refine step_g0 rfl h16 rfl ?_
         refine step_g0 rfl h16 rfl ?_
         refine step_g0 rfl h16 rfl ?_
         refine step_g0 rfl h16 rfl ?_
         refine step_pickF rfl h16 rfl rfl ?_
         refine step_r rfl rfl trivial ?_
         refine step_nil ?_
         refine seqK_n ?_
         refine sem_ret ?_
         refine answersR (vs := [_]) rfl ⟨trivial, trivial⟩ (congrArg B ?_) rfl
         first
          | rfl
          | (exfalso; omega)
          | (simp [Right, g2, g4, g6, g8, g10, g12, g14, g16]; done)
          | (rw [Bool.eq_iff_iff]; simp [Right, g2, g4, g6, g8, g10, g12, g14, g16]; done)
          | (rw [Bool.eq_iff_iff]; simp [Right, g2, g4, g6, g8, g10, g12, g14, g16]; omega)
          | grind [Right]
  ·have g4 := h4
   try simp at g4
   refine step_g0 rfl h4 rfl ?_
   refine step_g0 rfl h4 rfl ?_
   refine step_g0 rfl h4 rfl ?_
   refine step_pickF rfl h4 rfl rfl ?_
   refine step_r rfl rfl trivial ?_
   refine step_nil ?_
   refine seqK_n ?_
   refine sem_condF rfl ?_
   refine sem_seq ?_
   refine sem_region rfl ?_
   refine step_r rfl rfl (by decide) ?_
   refine step_r rfl rfl trivial ?_
   refine step_call rfl rfl rfl rfl (within_ok u.Group 0 8) rfl rfl rfl ?_
   refine step_r rfl rfl trivial ?_
   refine step_r rfl rfl trivial ?_
   refine step_nil ?_
   refine seqK_n ?_
   refine sem_cond rfl (fun h19 => ?_) (fun h19 => ?_)
   ·have g19 := h19
    try simp at g19
    refine sem_skip ?_
    refine seqK_n ?_
    refine sem_condh1 rfl h19 ?_
    refine sem_seq ?_
    refine sem_region rfl ?_
    refine step_r rfl rfl trivial ?_
    refine step_nil ?_
    refine seqK_n ?_
    refine sem_ret ?_
    refine blkK_r ?_
    refine seqK_r ?_
    refine answersR (vs := [_]) rfl ⟨trivial, trivial⟩ (congrArg B ?_) rfl
    first
     | rfl
     | (exfalso; omega)
     | (simp [Right, g2, g4, g19]; done)
     | (rw [Bool.eq_iff_iff]; simp [Right, g2, g4, g19]; done)
     | (rw [Bool.eq_iff_iff]; simp [Right, g2, g4, g19]; omega)
     | grind [Right]
   ·have g19 := h19
    try simp at g19
    refine sem_region rfl ?_
    refine step_r rfl rfl (by decide) ?_
    refine step_r rfl rfl trivial ?_
    refine step_bin rfl rfl rfl rfl rfl trivial ?_
    refine step_r rfl rfl trivial ?_
    refine step_nil ?_
    refine seqK_n ?_
    refine sem_cond rfl (fun h21 => ?_) (fun h21 => ?_)
    ·have g21 := h21
     try simp at g21
     refine sem_seq ?_
     refine sem_region rfl ?_
     refine step_r rfl rfl trivial ?_
     refine step_nil ?_
     refine seqK_n ?_
     refine sem_ret ?_
     refine blkK_r ?_
     refine seqK_r ?_
     refine answersR (vs := [_]) rfl ⟨trivial, trivial⟩ (congrArg B ?_) rfl
     first
      | rfl
      | (exfalso; omega)
      | (simp [Right, g2, g4, g19, g21]; done)
      | (rw [Bool.eq_iff_iff]; simp [Right, g2, g4, g19, g21]; done)
      | (rw [Bool.eq_iff_iff]; simp [Right, g2, g4, g19, g21]; omega)
      | grind [Right]
    ·have g21 := h21
     try simp at g21
     refine sem_seq ?_
     refine sem_seq ?_
     refine sem_region rfl ?_
     refine step_r rfl rfl (by decide) ?_
     refine step_r rfl rfl trivial ?_
     refine step_call rfl rfl rfl rfl (within_ok u.MaxHealth 1 1000000) rfl rfl rfl ?_
     refine step_r rfl rfl trivial ?_
     refine step_r rfl rfl trivial ?_
     refine step_nil ?_
     refine seqK_n ?_
     refine sem_cond rfl (fun h23 => ?_) (fun h23 => ?_)
     ·have g23 := h23
      try simp at g23
      refine sem_skip ?_
      refine seqK_n ?_
      refine sem_condh1 rfl h23 ?_
      refine sem_seq ?_
      refine sem_region rfl ?_
      refine step_r rfl rfl trivial ?_
      refine step_nil ?_
      refine seqK_n ?_
      refine sem_ret ?_
      refine blkK_r ?_
      refine seqK_r ?_
      refine answersR (vs := [_]) rfl ⟨trivial, trivial⟩ (congrArg B ?_) rfl
      first
       | rfl
       | (exfalso; omega)
       | (simp [Right, g2, g4, g19, g21, g23]; done)
       | (rw [Bool.eq_iff_iff]; simp [Right, g2, g4, g19, g21, g23]; done)
       | (rw [Bool.eq_iff_iff]; simp [Right, g2, g4, g19, g21, g23]; omega)
       | grind [Right]
     ·have g23 := h23
      try simp at g23
      refine sem_region rfl ?_
      refine step_r rfl rfl (by decide) ?_
      refine step_r rfl rfl trivial ?_
      refine step_call rfl rfl rfl rfl (within_ok u.MaxPower 0 1000000) rfl rfl rfl ?_
      refine step_r rfl rfl trivial ?_
      refine step_r rfl rfl trivial ?_
      refine step_nil ?_
      refine seqK_n ?_
      refine sem_cond rfl (fun h25 => ?_) (fun h25 => ?_)
      ·have g25 := h25
       try simp at g25
       refine sem_seq ?_
       refine sem_region rfl ?_
       refine step_r rfl rfl trivial ?_
       refine step_nil ?_
       refine seqK_n ?_
       refine sem_ret ?_
       refine blkK_r ?_
       refine seqK_r ?_
       refine answersR (vs := [_]) rfl ⟨trivial, trivial⟩ (congrArg B ?_) rfl
       first
        | rfl
        | (exfalso; omega)
        | (simp [Right, g2, g4, g19, g21, g23, g25]; done)
        | (rw [Bool.eq_iff_iff]; simp [Right, g2, g4, g19, g21, g23, g25]; done)
        | (rw [Bool.eq_iff_iff]; simp [Right, g2, g4, g19, g21, g23, g25]; omega)
        | grind [Right]
      ·have g25 := h25
       try simp at g25
       refine sem_skip ?_
       refine blkK_n ?_
       refine seqK_n ?_
       refine sem_seq ?_
       refine sem_region rfl ?_
       refine step_r rfl rfl (by decide) ?_
       refine step_r rfl rfl trivial ?_
       refine step_r rfl rfl (by decide) ?_
       refine step_r rfl rfl trivial ?_
       refine step_call rfl rfl rfl rfl (within_ok u.Health 0 u.MaxHealth) rfl rfl rfl ?_
       refine step_r rfl rfl trivial ?_
       refine step_gs rfl (fun h27 => ?_) (fun h27 => ?_)
       ·have g27 := h27
        try simp at g27
        refine step_g1 rfl h27 ?_
        refine step_r rfl rfl (by decide) ?_
        refine step_g1 rfl h27 ?_
        refine step_r rfl rfl trivial ?_
        refine step_g1 rfl h27 ?_
        refine step_r rfl rfl (by decide) ?_
        refine step_g1 rfl h27 ?_
        refine step_r rfl rfl trivial ?_
        refine step_g1 rfl h27 ?_
        refine step_call rfl rfl rfl rfl (within_ok u.Power 0 u.MaxPower) rfl rfl rfl ?_
        refine step_pickT rfl h27 rfl rfl ?_
        refine step_r rfl rfl trivial ?_
        refine step_nil ?_
        refine seqK_n ?_
        refine sem_ret ?_
        refine answersR (vs := [_]) rfl ⟨trivial, trivial⟩ (congrArg B ?_) rfl
        first
         | rfl
         | (exfalso; omega)
         | (simp [Right, g2, g4, g19, g21, g23, g25, g27]; done)
         | (rw [Bool.eq_iff_iff]; simp [Right, g2, g4, g19, g21, g23, g25, g27]; done)
         | (rw [Bool.eq_iff_iff]; simp [Right, g2, g4, g19, g21, g23, g25, g27]; omega)
         | grind [Right]
       ·have g27 := h27
        try simp at g27
        refine step_g0 rfl h27 rfl ?_
        refine step_g0 rfl h27 rfl ?_
        refine step_g0 rfl h27 rfl ?_
        refine step_g0 rfl h27 rfl ?_
        refine step_g0 rfl h27 rfl ?_
        refine step_pickF rfl h27 rfl rfl ?_
        refine step_r rfl rfl trivial ?_
        refine step_nil ?_
        refine seqK_n ?_
        refine sem_ret ?_
        refine answersR (vs := [_]) rfl ⟨trivial, trivial⟩ (congrArg B ?_) rfl
        first
         | rfl
         | (exfalso; omega)
         | (simp [Right, g2, g4, g19, g21, g23, g25, g27]; done)
         | (rw [Bool.eq_iff_iff]; simp [Right, g2, g4, g19, g21, g23, g25, g27]; done)
         | (rw [Bool.eq_iff_iff]; simp [Right, g2, g4, g19, g21, g23, g25, g27]; omega)
         | grind [Right]

theorem rightR_ok (u : GUnit) : Ok Try.prog 23 [aGUnit u] [] (B (decide (Right u))) [] [] := by
 refine ok_of_sem Try.func23 rfl ?_
 show Walks Try.prog _ _ ⟨[(0, aGUnit u)], [], 0, [], 75, 0⟩
 refine sem_seq ?_
 refine sem_region rfl ?_
 refine step_n (o := .box [_, _, _, _, _, _, _, _, _, _]) (nx' := 1) rfl rfl rfl trivial ?_
 refine step_r rfl rfl trivial ?_
 refine step_nil ?_
 refine seqK_n ?_
 refine sem_seq ?_
 refine sem_region rfl ?_
 refine step_r rfl rfl (by decide) ?_
 refine step_r rfl rfl trivial ?_
 refine step_bin rfl rfl rfl rfl rfl trivial ?_
 refine step_r rfl rfl trivial ?_
 refine step_gs rfl (fun h2 => ?_) (fun h2 => ?_)
 ·have g2 := h2
  try simp at g2
  refine step_g1 rfl h2 ?_
  refine step_r rfl rfl (by decide) ?_
  refine step_g1 rfl h2 ?_
  refine step_r rfl rfl trivial ?_
  refine step_g1 rfl h2 ?_
  refine step_bin rfl rfl rfl rfl rfl trivial ?_
  refine step_g1 rfl h2 ?_
  refine step_r rfl rfl trivial ?_
  refine step_gs rfl (fun h4 => ?_) (fun h4 => ?_)
  ·have g4 := h4
   try simp at g4
   refine step_g0 rfl h4 rfl ?_
   refine step_g0 rfl h4 rfl ?_
   refine step_g0 rfl h4 rfl ?_
   refine step_g1 rfl h2 ?_
   refine step_pickT rfl h4 rfl rfl ?_
   refine step_pickT rfl h2 rfl rfl ?_
   refine step_r rfl rfl trivial ?_
   refine step_gt rfl ?_
   refine step_r rfl rfl (by decide) ?_
   refine step_gt rfl ?_
   refine step_r rfl rfl trivial ?_
   refine step_gt rfl ?_
   refine step_bin rfl rfl rfl rfl rfl trivial ?_
   refine step_r rfl rfl trivial ?_
   refine step_r rfl rfl trivial ?_
   refine step_gs rfl (fun h6 => ?_) (fun h6 => ?_)
   ·have g6 := h6
    try simp at g6
    refine step_g1 rfl h6 ?_
    refine step_r rfl rfl (by decide) ?_
    refine step_g1 rfl h6 ?_
    refine step_r rfl rfl trivial ?_
    refine step_g1 rfl h6 ?_
    refine step_bin rfl rfl rfl rfl rfl trivial ?_
    refine step_pickT rfl h6 rfl rfl ?_
    refine step_r rfl rfl trivial ?_
    refine step_gs rfl (fun h8 => ?_) (fun h8 => ?_)
    ·have g8 := h8
     try simp at g8
     refine step_g1 rfl h8 ?_
     refine step_r rfl rfl (by decide) ?_
     refine step_g1 rfl h8 ?_
     refine step_r rfl rfl trivial ?_
     refine step_g1 rfl h8 ?_
     refine step_bin rfl rfl rfl rfl rfl trivial ?_
     refine step_pickT rfl h8 rfl rfl ?_
     refine step_r rfl rfl trivial ?_
     refine step_gs rfl (fun h10 => ?_) (fun h10 => ?_)
     ·have g10 := h10
      try simp at g10
      refine step_g1 rfl h10 ?_
      refine step_r rfl rfl (by decide) ?_
      refine step_g1 rfl h10 ?_
      refine step_r rfl rfl trivial ?_
      refine step_g1 rfl h10 ?_
      refine step_bin rfl rfl rfl rfl rfl trivial ?_
      refine step_pickT rfl h10 rfl rfl ?_
      refine step_r rfl rfl trivial ?_
      refine step_gs rfl (fun h12 => ?_) (fun h12 => ?_)
      ·have g12 := h12
       try simp at g12
       refine step_g1 rfl h12 ?_
       refine step_r rfl rfl (by decide) ?_
       refine step_g1 rfl h12 ?_
       refine step_r rfl rfl trivial ?_
       refine step_g1 rfl h12 ?_
       refine step_bin rfl rfl rfl rfl rfl trivial ?_
       refine step_pickT rfl h12 rfl rfl ?_
       refine step_r rfl rfl trivial ?_
       refine step_gs rfl (fun h14 => ?_) (fun h14 => ?_)
       ·have g14 := h14
        try simp at g14
        refine step_g1 rfl h14 ?_
        refine step_r rfl rfl (by decide) ?_
        refine step_g1 rfl h14 ?_
        refine step_r rfl rfl trivial ?_
        refine step_g1 rfl h14 ?_
        refine step_bin rfl rfl rfl rfl rfl trivial ?_
        refine step_pickT rfl h14 rfl rfl ?_
        refine step_r rfl rfl trivial ?_
        refine step_gs rfl (fun h16 => ?_) (fun h16 => ?_)
        ·have g16 := h16
         try simp at g16
         refine step_g1 rfl h16 ?_
         refine step_r rfl rfl (by decide) ?_
         refine step_g1 rfl h16 ?_
         refine step_r rfl rfl trivial ?_
         refine step_g1 rfl h16 ?_
         refine step_bin rfl rfl rfl rfl rfl trivial ?_
         refine step_pickT rfl h16 rfl rfl ?_
         refine step_r rfl rfl trivial ?_
         refine step_gs rfl (fun h18 => ?_) (fun h18 => ?_)
         ·have g18 := h18
          try simp at g18
          refine step_g1 rfl h18 ?_
          refine step_r rfl rfl (by decide) ?_
          refine step_g1 rfl h18 ?_
          refine step_r rfl rfl trivial ?_
          refine step_g1 rfl h18 ?_
          refine step_r rfl rfl (by decide) ?_
          refine step_g1 rfl h18 ?_
          refine step_r rfl rfl trivial ?_
          refine step_g1 rfl h18 ?_
          refine step_bin rfl rfl rfl rfl rfl trivial ?_
          refine step_pickT rfl h18 rfl rfl ?_
          refine step_r rfl rfl trivial ?_
          refine step_gs rfl (fun h20 => ?_) (fun h20 => ?_)
          ·have g20 := h20
           try simp at g20
           refine step_g1 rfl h20 ?_
           refine step_r rfl rfl (by decide) ?_
           refine step_g1 rfl h20 ?_
           refine step_r rfl rfl trivial ?_
           refine step_g1 rfl h20 ?_
           refine step_bin rfl rfl rfl rfl rfl trivial ?_
           refine step_pickT rfl h20 rfl rfl ?_
           refine step_r rfl rfl trivial ?_
           refine step_gs rfl (fun h22 => ?_) (fun h22 => ?_)
           ·have g22 := h22
            try simp at g22
            refine step_g1 rfl h22 ?_
            refine step_r rfl rfl (by decide) ?_
            refine step_g1 rfl h22 ?_
            refine step_r rfl rfl trivial ?_
            refine step_g1 rfl h22 ?_
            refine step_r rfl rfl (by decide) ?_
            refine step_g1 rfl h22 ?_
            refine step_r rfl rfl trivial ?_
            refine step_g1 rfl h22 ?_
            refine step_bin rfl rfl rfl rfl rfl trivial ?_
            refine step_pickT rfl h22 rfl rfl ?_
            refine step_r rfl rfl trivial ?_
            refine step_gs rfl (fun h24 => ?_) (fun h24 => ?_)
            ·have g24 := h24
             try simp at g24
             refine step_g1 rfl h24 ?_
             refine step_r rfl rfl (by decide) ?_
             refine step_g1 rfl h24 ?_
             refine step_r rfl rfl trivial ?_
             refine step_g1 rfl h24 ?_
             refine step_bin rfl rfl rfl rfl rfl trivial ?_
             refine step_pickT rfl h24 rfl rfl ?_
             refine step_r rfl rfl trivial ?_
             refine step_nil ?_
             refine seqK_n ?_
             refine sem_ret ?_
             refine answersR (vs := [_]) rfl ⟨trivial, trivial⟩ (congrArg B ?_) rfl
             first
              | rfl
              | (exfalso; omega)
              | (simp [Right, g2, g4, g6, g8, g10, g12, g14, g16, g18, g20, g22, g24]; done)
              | (rw [Bool.eq_iff_iff]; simp [Right, g2, g4, g6, g8, g10, g12, g14, g16, g18, g20, g22, g24]; done)
              | (rw [Bool.eq_iff_iff]; simp [Right, g2, g4, g6, g8, g10, g12, g14, g16, g18, g20, g22, g24]; omega)
              | grind [Right]
            ·have g24 := h24
             try simp at g24
             refine step_g0 rfl h24 rfl ?_
             refine step_g0 rfl h24 rfl ?_
             refine step_g0 rfl h24 rfl ?_
             refine step_pickF rfl h24 rfl rfl ?_
             refine step_r rfl rfl trivial ?_
             refine step_nil ?_
             refine seqK_n ?_
             refine sem_ret ?_
             refine answersR (vs := [_]) rfl ⟨trivial, trivial⟩ (congrArg B ?_) rfl
             first
              | rfl
              | (exfalso; omega)
              | (simp [Right, g2, g4, g6, g8, g10, g12, g14, g16, g18, g20, g22, g24]; done)
              | (rw [Bool.eq_iff_iff]; simp [Right, g2, g4, g6, g8, g10, g12, g14, g16, g18, g20, g22, g24]; done)
              | (rw [Bool.eq_iff_iff]; simp [Right, g2, g4, g6, g8, g10, g12, g14, g16, g18, g20, g22, g24]; omega)
              | grind [Right]
           ·have g22 := h22
            try simp at g22
            refine step_g0 rfl h22 rfl ?_
            refine step_g0 rfl h22 rfl ?_
            refine step_g0 rfl h22 rfl ?_
            refine step_g0 rfl h22 rfl ?_
            refine step_g0 rfl h22 rfl ?_
            refine step_pickF rfl h22 rfl rfl ?_
            refine step_r rfl rfl trivial ?_
            refine step_gf rfl rfl ?_
            refine step_gf rfl rfl ?_
            refine step_gf rfl rfl ?_
            refine step_r rfl rfl trivial ?_
            refine step_r rfl rfl trivial ?_
            refine step_nil ?_
            refine seqK_n ?_
            refine sem_ret ?_
            refine answersR (vs := [_]) rfl ⟨trivial, trivial⟩ (congrArg B ?_) rfl
            first
             | rfl
             | (exfalso; omega)
             | (simp [Right, g2, g4, g6, g8, g10, g12, g14, g16, g18, g20, g22]; done)
             | (rw [Bool.eq_iff_iff]; simp [Right, g2, g4, g6, g8, g10, g12, g14, g16, g18, g20, g22]; done)
             | (rw [Bool.eq_iff_iff]; simp [Right, g2, g4, g6, g8, g10, g12, g14, g16, g18, g20, g22]; omega)
             | grind [Right]
          ·have g20 := h20
           try simp at g20
           refine step_g0 rfl h20 rfl ?_
           refine step_g0 rfl h20 rfl ?_
           refine step_g0 rfl h20 rfl ?_
           refine step_pickF rfl h20 rfl rfl ?_
           refine step_r rfl rfl trivial ?_
           refine step_gf rfl rfl ?_
           refine step_gf rfl rfl ?_
           refine step_gf rfl rfl ?_
           refine step_gf rfl rfl ?_
           refine step_gf rfl rfl ?_
           refine step_r rfl rfl trivial ?_
           refine step_r rfl rfl trivial ?_
           refine step_gf rfl rfl ?_
           refine step_gf rfl rfl ?_
           refine step_gf rfl rfl ?_
           refine step_r rfl rfl trivial ?_
           refine step_r rfl rfl trivial ?_
           refine step_nil ?_
           refine seqK_n ?_
           refine sem_ret ?_
           refine answersR (vs := [_]) rfl ⟨trivial, trivial⟩ (congrArg B ?_) rfl
           first
            | rfl
            | (exfalso; omega)
            | (simp [Right, g2, g4, g6, g8, g10, g12, g14, g16, g18, g20]; done)
            | (rw [Bool.eq_iff_iff]; simp [Right, g2, g4, g6, g8, g10, g12, g14, g16, g18, g20]; done)
            | (rw [Bool.eq_iff_iff]; simp [Right, g2, g4, g6, g8, g10, g12, g14, g16, g18, g20]; omega)
            | grind [Right]
         ·have g18 := h18
          try simp at g18
          refine step_g0 rfl h18 rfl ?_
          refine step_g0 rfl h18 rfl ?_
          refine step_g0 rfl h18 rfl ?_
          refine step_g0 rfl h18 rfl ?_
          refine step_g0 rfl h18 rfl ?_
          refine step_pickF rfl h18 rfl rfl ?_
          refine step_r rfl rfl trivial ?_
          refine step_gf rfl rfl ?_
          refine step_gf rfl rfl ?_
          refine step_gf rfl rfl ?_
          refine step_r rfl rfl trivial ?_
          refine step_r rfl rfl trivial ?_
          refine step_gf rfl rfl ?_
          refine step_gf rfl rfl ?_
          refine step_gf rfl rfl ?_
          refine step_gf rfl rfl ?_
          refine step_gf rfl rfl ?_
          refine step_r rfl rfl trivial ?_
          refine step_r rfl rfl trivial ?_
          refine step_gf rfl rfl ?_
          refine step_gf rfl rfl ?_
          refine step_gf rfl rfl ?_
          refine step_r rfl rfl trivial ?_
          refine step_r rfl rfl trivial ?_
          refine step_nil ?_
          refine seqK_n ?_
          refine sem_ret ?_
          refine answersR (vs := [_]) rfl ⟨trivial, trivial⟩ (congrArg B ?_) rfl
          first
           | rfl
           | (exfalso; omega)
           | (simp [Right, g2, g4, g6, g8, g10, g12, g14, g16, g18]; done)
           | (rw [Bool.eq_iff_iff]; simp [Right, g2, g4, g6, g8, g10, g12, g14, g16, g18]; done)
           | (rw [Bool.eq_iff_iff]; simp [Right, g2, g4, g6, g8, g10, g12, g14, g16, g18]; omega)
           | grind [Right]
        ·have g16 := h16
         try simp at g16
         refine step_g0 rfl h16 rfl ?_
         refine step_g0 rfl h16 rfl ?_
         refine step_g0 rfl h16 rfl ?_
         refine step_pickF rfl h16 rfl rfl ?_
         refine step_r rfl rfl trivial ?_
         refine step_gf rfl rfl ?_
         refine step_gf rfl rfl ?_
         refine step_gf rfl rfl ?_
         refine step_gf rfl rfl ?_
         refine step_gf rfl rfl ?_
         refine step_r rfl rfl trivial ?_
         refine step_r rfl rfl trivial ?_
         refine step_gf rfl rfl ?_
         refine step_gf rfl rfl ?_
         refine step_gf rfl rfl ?_
         refine step_r rfl rfl trivial ?_
         refine step_r rfl rfl trivial ?_
         refine step_gf rfl rfl ?_
         refine step_gf rfl rfl ?_
         refine step_gf rfl rfl ?_
         refine step_gf rfl rfl ?_
         refine step_gf rfl rfl ?_
         refine step_r rfl rfl trivial ?_
         refine step_r rfl rfl trivial ?_
         refine step_gf rfl rfl ?_
         refine step_gf rfl rfl ?_
         refine step_gf rfl rfl ?_
         refine step_r rfl rfl trivial ?_
         refine step_r rfl rfl trivial ?_
         refine step_nil ?_
         refine seqK_n ?_
         refine sem_ret ?_
         refine answersR (vs := [_]) rfl ⟨trivial, trivial⟩ (congrArg B ?_) rfl
         first
          | rfl
          | (exfalso; omega)
          | (simp [Right, g2, g4, g6, g8, g10, g12, g14, g16]; done)
          | (rw [Bool.eq_iff_iff]; simp [Right, g2, g4, g6, g8, g10, g12, g14, g16]; done)
          | (rw [Bool.eq_iff_iff]; simp [Right, g2, g4, g6, g8, g10, g12, g14, g16]; omega)
          | grind [Right]
       ·have g14 := h14
        try simp at g14
        refine step_g0 rfl h14 rfl ?_
        refine step_g0 rfl h14 rfl ?_
        refine step_g0 rfl h14 rfl ?_
        refine step_pickF rfl h14 rfl rfl ?_
        refine step_r rfl rfl trivial ?_
        refine step_gf rfl rfl ?_
        refine step_gf rfl rfl ?_
        refine step_gf rfl rfl ?_
        refine step_r rfl rfl trivial ?_
        refine step_r rfl rfl trivial ?_
        refine step_gf rfl rfl ?_
        refine step_gf rfl rfl ?_
        refine step_gf rfl rfl ?_
        refine step_gf rfl rfl ?_
        refine step_gf rfl rfl ?_
        refine step_r rfl rfl trivial ?_
        refine step_r rfl rfl trivial ?_
        refine step_gf rfl rfl ?_
        refine step_gf rfl rfl ?_
        refine step_gf rfl rfl ?_
        refine step_r rfl rfl trivial ?_
        refine step_r rfl rfl trivial ?_
        refine step_gf rfl rfl ?_
        refine step_gf rfl rfl ?_
        refine step_gf rfl rfl ?_
        refine step_gf rfl rfl ?_
        refine step_gf rfl rfl ?_
        refine step_r rfl rfl trivial ?_
        refine step_r rfl rfl trivial ?_
        refine step_gf rfl rfl ?_
        refine step_gf rfl rfl ?_
        refine step_gf rfl rfl ?_
        refine step_r rfl rfl trivial ?_
        refine step_r rfl rfl trivial ?_
        refine step_nil ?_
        refine seqK_n ?_
        refine sem_ret ?_
        refine answersR (vs := [_]) rfl ⟨trivial, trivial⟩ (congrArg B ?_) rfl
        first
         | rfl
         | (exfalso; omega)
         | (simp [Right, g2, g4, g6, g8, g10, g12, g14]; done)
         | (rw [Bool.eq_iff_iff]; simp [Right, g2, g4, g6, g8, g10, g12, g14]; done)
         | (rw [Bool.eq_iff_iff]; simp [Right, g2, g4, g6, g8, g10, g12, g14]; omega)
         | grind [Right]
      ·have g12 := h12
       try simp at g12
       refine step_g0 rfl h12 rfl ?_
       refine step_g0 rfl h12 rfl ?_
       refine step_g0 rfl h12 rfl ?_
       refine step_pickF rfl h12 rfl rfl ?_
       refine step_r rfl rfl trivial ?_
       refine step_gf rfl rfl ?_
       refine step_gf rfl rfl ?_
       refine step_gf rfl rfl ?_
       refine step_r rfl rfl trivial ?_
       refine step_r rfl rfl trivial ?_
       refine step_gf rfl rfl ?_
       refine step_gf rfl rfl ?_
       refine step_gf rfl rfl ?_
       refine step_r rfl rfl trivial ?_
       refine step_r rfl rfl trivial ?_
       refine step_gf rfl rfl ?_
       refine step_gf rfl rfl ?_
       refine step_gf rfl rfl ?_
       refine step_gf rfl rfl ?_
       refine step_gf rfl rfl ?_
       refine step_r rfl rfl trivial ?_
       refine step_r rfl rfl trivial ?_
       refine step_gf rfl rfl ?_
       refine step_gf rfl rfl ?_
       refine step_gf rfl rfl ?_
       refine step_r rfl rfl trivial ?_
       refine step_r rfl rfl trivial ?_
       refine step_gf rfl rfl ?_
       refine step_gf rfl rfl ?_
       refine step_gf rfl rfl ?_
       refine step_gf rfl rfl ?_
       refine step_gf rfl rfl ?_
       refine step_r rfl rfl trivial ?_
       refine step_r rfl rfl trivial ?_
       refine step_gf rfl rfl ?_
       refine step_gf rfl rfl ?_
       refine step_gf rfl rfl ?_
       refine step_r rfl rfl trivial ?_
       refine step_r rfl rfl trivial ?_
       refine step_nil ?_
       refine seqK_n ?_
       refine sem_ret ?_
       refine answersR (vs := [_]) rfl ⟨trivial, trivial⟩ (congrArg B ?_) rfl
       first
        | rfl
        | (exfalso; omega)
        | (simp [Right, g2, g4, g6, g8, g10, g12]; done)
        | (rw [Bool.eq_iff_iff]; simp [Right, g2, g4, g6, g8, g10, g12]; done)
        | (rw [Bool.eq_iff_iff]; simp [Right, g2, g4, g6, g8, g10, g12]; omega)
        | grind [Right]
     ·have g10 := h10
      try simp at g10
      refine step_g0 rfl h10 rfl ?_
      refine step_g0 rfl h10 rfl ?_
      refine step_g0 rfl h10 rfl ?_
      refine step_pickF rfl h10 rfl rfl ?_
      refine step_r rfl rfl trivial ?_
      refine step_gf rfl rfl ?_
      refine step_gf rfl rfl ?_
      refine step_gf rfl rfl ?_
      refine step_r rfl rfl trivial ?_
      refine step_r rfl rfl trivial ?_
      refine step_gf rfl rfl ?_
      refine step_gf rfl rfl ?_
      refine step_gf rfl rfl ?_
      refine step_r rfl rfl trivial ?_
      refine step_r rfl rfl trivial ?_
      refine step_gf rfl rfl ?_
      refine step_gf rfl rfl ?_
      refine step_gf rfl rfl ?_
      refine step_r rfl rfl trivial ?_
      refine step_r rfl rfl trivial ?_
      refine step_gf rfl rfl ?_
      refine step_gf rfl rfl ?_
      refine step_gf rfl rfl ?_
      refine step_gf rfl rfl ?_
      refine step_gf rfl rfl ?_
      refine step_r rfl rfl trivial ?_
      refine step_r rfl rfl trivial ?_
      refine step_gf rfl rfl ?_
      refine step_gf rfl rfl ?_
      refine step_gf rfl rfl ?_
      refine step_r rfl rfl trivial ?_
      refine step_r rfl rfl trivial ?_
      refine step_gf rfl rfl ?_
      refine step_gf rfl rfl ?_
      refine step_gf rfl rfl ?_
      refine step_gf rfl rfl ?_
      refine step_gf rfl rfl ?_
      refine step_r rfl rfl trivial ?_
      refine step_r rfl rfl trivial ?_
      refine step_gf rfl rfl ?_
      refine step_gf rfl rfl ?_
      refine step_gf rfl rfl ?_
      refine step_r rfl rfl trivial ?_
      refine step_r rfl rfl trivial ?_
      refine step_nil ?_
      refine seqK_n ?_
      refine sem_ret ?_
      refine answersR (vs := [_]) rfl ⟨trivial, trivial⟩ (congrArg B ?_) rfl
      first
       | rfl
       | (exfalso; omega)
       | (simp [Right, g2, g4, g6, g8, g10]; done)
       | (rw [Bool.eq_iff_iff]; simp [Right, g2, g4, g6, g8, g10]; done)
       | (rw [Bool.eq_iff_iff]; simp [Right, g2, g4, g6, g8, g10]; omega)
       | grind [Right]
    ·have g8 := h8
     try simp at g8
     refine step_g0 rfl h8 rfl ?_
     refine step_g0 rfl h8 rfl ?_
     refine step_g0 rfl h8 rfl ?_
     refine step_pickF rfl h8 rfl rfl ?_
     refine step_r rfl rfl trivial ?_
     refine step_gf rfl rfl ?_
     refine step_gf rfl rfl ?_
     refine step_gf rfl rfl ?_
     refine step_r rfl rfl trivial ?_
     refine step_r rfl rfl trivial ?_
     refine step_gf rfl rfl ?_
     refine step_gf rfl rfl ?_
     refine step_gf rfl rfl ?_
     refine step_r rfl rfl trivial ?_
     refine step_r rfl rfl trivial ?_
     refine step_gf rfl rfl ?_
     refine step_gf rfl rfl ?_
     refine step_gf rfl rfl ?_
     refine step_r rfl rfl trivial ?_
     refine step_r rfl rfl trivial ?_
     refine step_gf rfl rfl ?_
     refine step_gf rfl rfl ?_
     refine step_gf rfl rfl ?_
     refine step_r rfl rfl trivial ?_
     refine step_r rfl rfl trivial ?_
     refine step_gf rfl rfl ?_
     refine step_gf rfl rfl ?_
     refine step_gf rfl rfl ?_
     refine step_gf rfl rfl ?_
     refine step_gf rfl rfl ?_
     refine step_r rfl rfl trivial ?_
     refine step_r rfl rfl trivial ?_
     refine step_gf rfl rfl ?_
     refine step_gf rfl rfl ?_
     refine step_gf rfl rfl ?_
     refine step_r rfl rfl trivial ?_
     refine step_r rfl rfl trivial ?_
     refine step_gf rfl rfl ?_
     refine step_gf rfl rfl ?_
     refine step_gf rfl rfl ?_
     refine step_gf rfl rfl ?_
     refine step_gf rfl rfl ?_
     refine step_r rfl rfl trivial ?_
     refine step_r rfl rfl trivial ?_
     refine step_gf rfl rfl ?_
     refine step_gf rfl rfl ?_
     refine step_gf rfl rfl ?_
     refine step_r rfl rfl trivial ?_
     refine step_r rfl rfl trivial ?_
     refine step_nil ?_
     refine seqK_n ?_
     refine sem_ret ?_
     refine answersR (vs := [_]) rfl ⟨trivial, trivial⟩ (congrArg B ?_) rfl
     first
      | rfl
      | (exfalso; omega)
      | (simp [Right, g2, g4, g6, g8]; done)
      | (rw [Bool.eq_iff_iff]; simp [Right, g2, g4, g6, g8]; done)
      | (rw [Bool.eq_iff_iff]; simp [Right, g2, g4, g6, g8]; omega)
      | grind [Right]
   ·have g6 := h6
    try simp at g6
    refine step_g0 rfl h6 rfl ?_
    refine step_g0 rfl h6 rfl ?_
    refine step_g0 rfl h6 rfl ?_
    refine step_pickF rfl h6 rfl rfl ?_
    refine step_r rfl rfl trivial ?_
    refine step_gf rfl rfl ?_
    refine step_gf rfl rfl ?_
    refine step_gf rfl rfl ?_
    refine step_r rfl rfl trivial ?_
    refine step_r rfl rfl trivial ?_
    refine step_gf rfl rfl ?_
    refine step_gf rfl rfl ?_
    refine step_gf rfl rfl ?_
    refine step_r rfl rfl trivial ?_
    refine step_r rfl rfl trivial ?_
    refine step_gf rfl rfl ?_
    refine step_gf rfl rfl ?_
    refine step_gf rfl rfl ?_
    refine step_r rfl rfl trivial ?_
    refine step_r rfl rfl trivial ?_
    refine step_gf rfl rfl ?_
    refine step_gf rfl rfl ?_
    refine step_gf rfl rfl ?_
    refine step_r rfl rfl trivial ?_
    refine step_r rfl rfl trivial ?_
    refine step_gf rfl rfl ?_
    refine step_gf rfl rfl ?_
    refine step_gf rfl rfl ?_
    refine step_r rfl rfl trivial ?_
    refine step_r rfl rfl trivial ?_
    refine step_gf rfl rfl ?_
    refine step_gf rfl rfl ?_
    refine step_gf rfl rfl ?_
    refine step_gf rfl rfl ?_
    refine step_gf rfl rfl ?_
    refine step_r rfl rfl trivial ?_
    refine step_r rfl rfl trivial ?_
    refine step_gf rfl rfl ?_
    refine step_gf rfl rfl ?_
    refine step_gf rfl rfl ?_
    refine step_r rfl rfl trivial ?_
    refine step_r rfl rfl trivial ?_
    refine step_gf rfl rfl ?_
    refine step_gf rfl rfl ?_
    refine step_gf rfl rfl ?_
    refine step_gf rfl rfl ?_
    refine step_gf rfl rfl ?_
    refine step_r rfl rfl trivial ?_
    refine step_r rfl rfl trivial ?_
    refine step_gf rfl rfl ?_
    refine step_gf rfl rfl ?_
    refine step_gf rfl rfl ?_
    refine step_r rfl rfl trivial ?_
    refine step_r rfl rfl trivial ?_
    refine step_nil ?_
    refine seqK_n ?_
    refine sem_ret ?_
    refine answersR (vs := [_]) rfl ⟨trivial, trivial⟩ (congrArg B ?_) rfl
    first
     | rfl
     | (exfalso; omega)
     | (simp [Right, g2, g4, g6]; done)
     | (rw [Bool.eq_iff_iff]; simp [Right, g2, g4, g6]; done)
     | (rw [Bool.eq_iff_iff]; simp [Right, g2, g4, g6]; omega)
     | grind [Right]
  ·have g4 := h4
   try simp at g4
   refine step_g1 rfl h4 ?_
   refine step_r rfl rfl (by decide) ?_
   refine step_g1 rfl h4 ?_
   refine step_r rfl rfl trivial ?_
   refine step_g1 rfl h4 ?_
   refine step_bin rfl rfl rfl rfl rfl trivial ?_
   refine step_g1 rfl h2 ?_
   refine step_pickF rfl h4 rfl rfl ?_
   refine step_pickT rfl h2 rfl rfl ?_
   refine step_r rfl rfl trivial ?_
   refine step_gs rfl (fun h27 => ?_) (fun h27 => ?_)
   ·have g27 := h27
    try simp at g27
    refine step_g1 rfl h27 ?_
    refine step_r rfl rfl (by decide) ?_
    refine step_g1 rfl h27 ?_
    refine step_r rfl rfl trivial ?_
    refine step_g1 rfl h27 ?_
    refine step_bin rfl rfl rfl rfl rfl trivial ?_
    refine step_pickT rfl h27 rfl rfl ?_
    refine step_r rfl rfl trivial ?_
    refine step_gs rfl (fun h29 => ?_) (fun h29 => ?_)
    ·have g29 := h29
     try simp at g29
     refine step_g1 rfl h29 ?_
     refine step_r rfl rfl (by decide) ?_
     refine step_g1 rfl h29 ?_
     refine step_r rfl rfl trivial ?_
     refine step_g1 rfl h29 ?_
     refine step_bin rfl rfl rfl rfl rfl trivial ?_
     refine step_pickT rfl h29 rfl rfl ?_
     refine step_r rfl rfl trivial ?_
     refine step_gs rfl (fun h31 => ?_) (fun h31 => ?_)
     ·have g31 := h31
      try simp at g31
      refine step_g1 rfl h31 ?_
      refine step_r rfl rfl (by decide) ?_
      refine step_g1 rfl h31 ?_
      refine step_r rfl rfl trivial ?_
      refine step_g1 rfl h31 ?_
      refine step_bin rfl rfl rfl rfl rfl trivial ?_
      refine step_pickT rfl h31 rfl rfl ?_
      refine step_r rfl rfl trivial ?_
      refine step_gs rfl (fun h33 => ?_) (fun h33 => ?_)
      ·have g33 := h33
       try simp at g33
       refine step_g1 rfl h33 ?_
       refine step_r rfl rfl (by decide) ?_
       refine step_g1 rfl h33 ?_
       refine step_r rfl rfl trivial ?_
       refine step_g1 rfl h33 ?_
       refine step_bin rfl rfl rfl rfl rfl trivial ?_
       refine step_pickT rfl h33 rfl rfl ?_
       refine step_r rfl rfl trivial ?_
       refine step_gs rfl (fun h35 => ?_) (fun h35 => ?_)
       ·have g35 := h35
        try simp at g35
        refine step_g1 rfl h35 ?_
        refine step_r rfl rfl (by decide) ?_
        refine step_g1 rfl h35 ?_
        refine step_r rfl rfl trivial ?_
        refine step_g1 rfl h35 ?_
        refine step_bin rfl rfl rfl rfl rfl trivial ?_
        refine step_pickT rfl h35 rfl rfl ?_
        refine step_r rfl rfl trivial ?_
        refine step_gs rfl (fun h37 => ?_) (fun h37 => ?_)
        ·have g37 := h37
         try simp at g37
         refine step_g1 rfl h37 ?_
         refine step_r rfl rfl (by decide) ?_
         refine step_g1 rfl h37 ?_
         refine step_r rfl rfl trivial ?_
         refine step_g1 rfl h37 ?_
         refine step_bin rfl rfl rfl rfl rfl trivial ?_
         refine step_pickT rfl h37 rfl rfl ?_
         refine step_r rfl rfl trivial ?_
         refine step_gs rfl (fun h39 => ?_) (fun h39 => ?_)
         ·have g39 := h39
          try simp at g39
          refine step_g1 rfl h39 ?_
          refine step_r rfl rfl (by decide) ?_
          refine step_g1 rfl h39 ?_
          refine step_r rfl rfl trivial ?_
          refine step_g1 rfl h39 ?_
          refine step_bin rfl rfl rfl rfl rfl trivial ?_
          refine step_pickT rfl h39 rfl rfl ?_
          refine step_r rfl rfl trivial ?_
          refine step_gs rfl (fun h41 => ?_) (fun h41 => ?_)
          ·have g41 := h41
           try simp at g41
           refine step_g1 rfl h41 ?_
           refine step_r rfl rfl (by decide) ?_
           refine step_g1 rfl h41 ?_
           refine step_r rfl rfl trivial ?_
           refine step_g1 rfl h41 ?_
           refine step_r rfl rfl (by decide) ?_
           refine step_g1 rfl h41 ?_
           refine step_r rfl rfl trivial ?_
           refine step_g1 rfl h41 ?_
           refine step_bin rfl rfl rfl rfl rfl trivial ?_
           refine step_pickT rfl h41 rfl rfl ?_
           refine step_r rfl rfl trivial ?_
           refine step_gs rfl (fun h43 => ?_) (fun h43 => ?_)
           ·have g43 := h43
            try simp at g43
            refine step_g1 rfl h43 ?_
            refine step_r rfl rfl (by decide) ?_
            refine step_g1 rfl h43 ?_
            refine step_r rfl rfl trivial ?_
            refine step_g1 rfl h43 ?_
            refine step_bin rfl rfl rfl rfl rfl trivial ?_
            refine step_pickT rfl h43 rfl rfl ?_
            refine step_r rfl rfl trivial ?_
            refine step_gs rfl (fun h45 => ?_) (fun h45 => ?_)
            ·have g45 := h45
             try simp at g45
             refine step_g1 rfl h45 ?_
             refine step_r rfl rfl (by decide) ?_
             refine step_g1 rfl h45 ?_
             refine step_r rfl rfl trivial ?_
             refine step_g1 rfl h45 ?_
             refine step_r rfl rfl (by decide) ?_
             refine step_g1 rfl h45 ?_
             refine step_r rfl rfl trivial ?_
             refine step_g1 rfl h45 ?_
             refine step_bin rfl rfl rfl rfl rfl trivial ?_
             refine step_pickT rfl h45 rfl rfl ?_
             refine step_r rfl rfl trivial ?_
             refine step_gs rfl (fun h47 => ?_) (fun h47 => ?_)
             ·have g47 := h47
              try simp at g47
              refine step_g1 rfl h47 ?_
              refine step_r rfl rfl (by decide) ?_
              refine step_g1 rfl h47 ?_
              refine step_r rfl rfl trivial ?_
              refine step_g1 rfl h47 ?_
              refine step_bin rfl rfl rfl rfl rfl trivial ?_
              refine step_pickT rfl h47 rfl rfl ?_
              refine step_r rfl rfl trivial ?_
              refine step_nil ?_
              refine seqK_n ?_
              refine sem_ret ?_
              refine answersR (vs := [_]) rfl ⟨trivial, trivial⟩ (congrArg B ?_) rfl
              first
               | rfl
               | (exfalso; omega)
               | (simp [Right, g2, g4, g27, g29, g31, g33, g35, g37, g39, g41, g43, g45, g47]; done)
               | (rw [Bool.eq_iff_iff]; simp [Right, g2, g4, g27, g29, g31, g33, g35, g37, g39, g41, g43, g45, g47]; done)
               | (rw [Bool.eq_iff_iff]; simp [Right, g2, g4, g27, g29, g31, g33, g35, g37, g39, g41, g43, g45, g47]; omega)
               | grind [Right]
             ·have g47 := h47
              try simp at g47
              refine step_g0 rfl h47 rfl ?_
              refine step_g0 rfl h47 rfl ?_
              refine step_g0 rfl h47 rfl ?_
              refine step_pickF rfl h47 rfl rfl ?_
              refine step_r rfl rfl trivial ?_
              refine step_nil ?_
              refine seqK_n ?_
              refine sem_ret ?_
              refine answersR (vs := [_]) rfl ⟨trivial, trivial⟩ (congrArg B ?_) rfl
              first
               | rfl
               | (exfalso; omega)
               | (simp [Right, g2, g4, g27, g29, g31, g33, g35, g37, g39, g41, g43, g45, g47]; done)
               | (rw [Bool.eq_iff_iff]; simp [Right, g2, g4, g27, g29, g31, g33, g35, g37, g39, g41, g43, g45, g47]; done)
               | (rw [Bool.eq_iff_iff]; simp [Right, g2, g4, g27, g29, g31, g33, g35, g37, g39, g41, g43, g45, g47]; omega)
               | grind [Right]
            ·have g45 := h45
             try simp at g45
             refine step_g0 rfl h45 rfl ?_
             refine step_g0 rfl h45 rfl ?_
             refine step_g0 rfl h45 rfl ?_
             refine step_g0 rfl h45 rfl ?_
             refine step_g0 rfl h45 rfl ?_
             refine step_pickF rfl h45 rfl rfl ?_
             refine step_r rfl rfl trivial ?_
             refine step_gf rfl rfl ?_
             refine step_gf rfl rfl ?_
             refine step_gf rfl rfl ?_
             refine step_r rfl rfl trivial ?_
             refine step_r rfl rfl trivial ?_
             refine step_nil ?_
             refine seqK_n ?_
             refine sem_ret ?_
             refine answersR (vs := [_]) rfl ⟨trivial, trivial⟩ (congrArg B ?_) rfl
             first
              | rfl
              | (exfalso; omega)
              | (simp [Right, g2, g4, g27, g29, g31, g33, g35, g37, g39, g41, g43, g45]; done)
              | (rw [Bool.eq_iff_iff]; simp [Right, g2, g4, g27, g29, g31, g33, g35, g37, g39, g41, g43, g45]; done)
              | (rw [Bool.eq_iff_iff]; simp [Right, g2, g4, g27, g29, g31, g33, g35, g37, g39, g41, g43, g45]; omega)
              | grind [Right]
           ·have g43 := h43
            try simp at g43
            refine step_g0 rfl h43 rfl ?_
            refine step_g0 rfl h43 rfl ?_
            refine step_g0 rfl h43 rfl ?_
            refine step_pickF rfl h43 rfl rfl ?_
            refine step_r rfl rfl trivial ?_
            refine step_gf rfl rfl ?_
            refine step_gf rfl rfl ?_
            refine step_gf rfl rfl ?_
            refine step_gf rfl rfl ?_
            refine step_gf rfl rfl ?_
            refine step_r rfl rfl trivial ?_
            refine step_r rfl rfl trivial ?_
            refine step_gf rfl rfl ?_
            refine step_gf rfl rfl ?_
            refine step_gf rfl rfl ?_
            refine step_r rfl rfl trivial ?_
            refine step_r rfl rfl trivial ?_
            refine step_nil ?_
            refine seqK_n ?_
            refine sem_ret ?_
            refine answersR (vs := [_]) rfl ⟨trivial, trivial⟩ (congrArg B ?_) rfl
            first
             | rfl
             | (exfalso; omega)
             | (simp [Right, g2, g4, g27, g29, g31, g33, g35, g37, g39, g41, g43]; done)
             | (rw [Bool.eq_iff_iff]; simp [Right, g2, g4, g27, g29, g31, g33, g35, g37, g39, g41, g43]; done)
             | (rw [Bool.eq_iff_iff]; simp [Right, g2, g4, g27, g29, g31, g33, g35, g37, g39, g41, g43]; omega)
             | grind [Right]
          ·have g41 := h41
           try simp at g41
           refine step_g0 rfl h41 rfl ?_
           refine step_g0 rfl h41 rfl ?_
           refine step_g0 rfl h41 rfl ?_
           refine step_g0 rfl h41 rfl ?_
           refine step_g0 rfl h41 rfl ?_
           refine step_pickF rfl h41 rfl rfl ?_
           refine step_r rfl rfl trivial ?_
           refine step_gf rfl rfl ?_
           refine step_gf rfl rfl ?_
           refine step_gf rfl rfl ?_
           refine step_r rfl rfl trivial ?_
           refine step_r rfl rfl trivial ?_
           refine step_gf rfl rfl ?_
           refine step_gf rfl rfl ?_
           refine step_gf rfl rfl ?_
           refine step_gf rfl rfl ?_
           refine step_gf rfl rfl ?_
           refine step_r rfl rfl trivial ?_
           refine step_r rfl rfl trivial ?_
           refine step_gf rfl rfl ?_
           refine step_gf rfl rfl ?_
           refine step_gf rfl rfl ?_
           refine step_r rfl rfl trivial ?_
           refine step_r rfl rfl trivial ?_
           refine step_nil ?_
           refine seqK_n ?_
           refine sem_ret ?_
           refine answersR (vs := [_]) rfl ⟨trivial, trivial⟩ (congrArg B ?_) rfl
           first
            | rfl
            | (exfalso; omega)
            | (simp [Right, g2, g4, g27, g29, g31, g33, g35, g37, g39, g41]; done)
            | (rw [Bool.eq_iff_iff]; simp [Right, g2, g4, g27, g29, g31, g33, g35, g37, g39, g41]; done)
            | (rw [Bool.eq_iff_iff]; simp [Right, g2, g4, g27, g29, g31, g33, g35, g37, g39, g41]; omega)
            | grind [Right]
         ·have g39 := h39
          try simp at g39
          refine step_g0 rfl h39 rfl ?_
          refine step_g0 rfl h39 rfl ?_
          refine step_g0 rfl h39 rfl ?_
          refine step_pickF rfl h39 rfl rfl ?_
          refine step_r rfl rfl trivial ?_
          refine step_gf rfl rfl ?_
          refine step_gf rfl rfl ?_
          refine step_gf rfl rfl ?_
          refine step_gf rfl rfl ?_
          refine step_gf rfl rfl ?_
          refine step_r rfl rfl trivial ?_
          refine step_r rfl rfl trivial ?_
          refine step_gf rfl rfl ?_
          refine step_gf rfl rfl ?_
          refine step_gf rfl rfl ?_
          refine step_r rfl rfl trivial ?_
          refine step_r rfl rfl trivial ?_
          refine step_gf rfl rfl ?_
          refine step_gf rfl rfl ?_
          refine step_gf rfl rfl ?_
          refine step_gf rfl rfl ?_
          refine step_gf rfl rfl ?_
          refine step_r rfl rfl trivial ?_
          refine step_r rfl rfl trivial ?_
          refine step_gf rfl rfl ?_
          refine step_gf rfl rfl ?_
          refine step_gf rfl rfl ?_
          refine step_r rfl rfl trivial ?_
          refine step_r rfl rfl trivial ?_
          refine step_nil ?_
          refine seqK_n ?_
          refine sem_ret ?_
          refine answersR (vs := [_]) rfl ⟨trivial, trivial⟩ (congrArg B ?_) rfl
          first
           | rfl
           | (exfalso; omega)
           | (simp [Right, g2, g4, g27, g29, g31, g33, g35, g37, g39]; done)
           | (rw [Bool.eq_iff_iff]; simp [Right, g2, g4, g27, g29, g31, g33, g35, g37, g39]; done)
           | (rw [Bool.eq_iff_iff]; simp [Right, g2, g4, g27, g29, g31, g33, g35, g37, g39]; omega)
           | grind [Right]
        ·have g37 := h37
         try simp at g37
         refine step_g0 rfl h37 rfl ?_
         refine step_g0 rfl h37 rfl ?_
         refine step_g0 rfl h37 rfl ?_
         refine step_pickF rfl h37 rfl rfl ?_
         refine step_r rfl rfl trivial ?_
         refine step_gf rfl rfl ?_
         refine step_gf rfl rfl ?_
         refine step_gf rfl rfl ?_
         refine step_r rfl rfl trivial ?_
         refine step_r rfl rfl trivial ?_
         refine step_gf rfl rfl ?_
         refine step_gf rfl rfl ?_
         refine step_gf rfl rfl ?_
         refine step_gf rfl rfl ?_
         refine step_gf rfl rfl ?_
         refine step_r rfl rfl trivial ?_
         refine step_r rfl rfl trivial ?_
         refine step_gf rfl rfl ?_
         refine step_gf rfl rfl ?_
         refine step_gf rfl rfl ?_
         refine step_r rfl rfl trivial ?_
         refine step_r rfl rfl trivial ?_
         refine step_gf rfl rfl ?_
         refine step_gf rfl rfl ?_
         refine step_gf rfl rfl ?_
         refine step_gf rfl rfl ?_
         refine step_gf rfl rfl ?_
         refine step_r rfl rfl trivial ?_
         refine step_r rfl rfl trivial ?_
         refine step_gf rfl rfl ?_
         refine step_gf rfl rfl ?_
         refine step_gf rfl rfl ?_
         refine step_r rfl rfl trivial ?_
         refine step_r rfl rfl trivial ?_
         refine step_nil ?_
         refine seqK_n ?_
         refine sem_ret ?_
         refine answersR (vs := [_]) rfl ⟨trivial, trivial⟩ (congrArg B ?_) rfl
         first
          | rfl
          | (exfalso; omega)
          | (simp [Right, g2, g4, g27, g29, g31, g33, g35, g37]; done)
          | (rw [Bool.eq_iff_iff]; simp [Right, g2, g4, g27, g29, g31, g33, g35, g37]; done)
          | (rw [Bool.eq_iff_iff]; simp [Right, g2, g4, g27, g29, g31, g33, g35, g37]; omega)
          | grind [Right]
       ·have g35 := h35
        try simp at g35
        refine step_g0 rfl h35 rfl ?_
        refine step_g0 rfl h35 rfl ?_
        refine step_g0 rfl h35 rfl ?_
        refine step_pickF rfl h35 rfl rfl ?_
        refine step_r rfl rfl trivial ?_
        refine step_gf rfl rfl ?_
        refine step_gf rfl rfl ?_
        refine step_gf rfl rfl ?_
        refine step_r rfl rfl trivial ?_
        refine step_r rfl rfl trivial ?_
        refine step_gf rfl rfl ?_
        refine step_gf rfl rfl ?_
        refine step_gf rfl rfl ?_
        refine step_r rfl rfl trivial ?_
        refine step_r rfl rfl trivial ?_
        refine step_gf rfl rfl ?_
        refine step_gf rfl rfl ?_
        refine step_gf rfl rfl ?_
        refine step_gf rfl rfl ?_
        refine step_gf rfl rfl ?_
        refine step_r rfl rfl trivial ?_
        refine step_r rfl rfl trivial ?_
        refine step_gf rfl rfl ?_
        refine step_gf rfl rfl ?_
        refine step_gf rfl rfl ?_
        refine step_r rfl rfl trivial ?_
        refine step_r rfl rfl trivial ?_
        refine step_gf rfl rfl ?_
        refine step_gf rfl rfl ?_
        refine step_gf rfl rfl ?_
        refine step_gf rfl rfl ?_
        refine step_gf rfl rfl ?_
        refine step_r rfl rfl trivial ?_
        refine step_r rfl rfl trivial ?_
        refine step_gf rfl rfl ?_
        refine step_gf rfl rfl ?_
        refine step_gf rfl rfl ?_
        refine step_r rfl rfl trivial ?_
        refine step_r rfl rfl trivial ?_
        refine step_nil ?_
        refine seqK_n ?_
        refine sem_ret ?_
        refine answersR (vs := [_]) rfl ⟨trivial, trivial⟩ (congrArg B ?_) rfl
        first
         | rfl
         | (exfalso; omega)
         | (simp [Right, g2, g4, g27, g29, g31, g33, g35]; done)
         | (rw [Bool.eq_iff_iff]; simp [Right, g2, g4, g27, g29, g31, g33, g35]; done)
         | (rw [Bool.eq_iff_iff]; simp [Right, g2, g4, g27, g29, g31, g33, g35]; omega)
         | grind [Right]
      ·have g33 := h33
       try simp at g33
       refine step_g0 rfl h33 rfl ?_
       refine step_g0 rfl h33 rfl ?_
       refine step_g0 rfl h33 rfl ?_
       refine step_pickF rfl h33 rfl rfl ?_
       refine step_r rfl rfl trivial ?_
       refine step_gf rfl rfl ?_
       refine step_gf rfl rfl ?_
       refine step_gf rfl rfl ?_
       refine step_r rfl rfl trivial ?_
       refine step_r rfl rfl trivial ?_
       refine step_gf rfl rfl ?_
       refine step_gf rfl rfl ?_
       refine step_gf rfl rfl ?_
       refine step_r rfl rfl trivial ?_
       refine step_r rfl rfl trivial ?_
       refine step_gf rfl rfl ?_
       refine step_gf rfl rfl ?_
       refine step_gf rfl rfl ?_
       refine step_r rfl rfl trivial ?_
       refine step_r rfl rfl trivial ?_
       refine step_gf rfl rfl ?_
       refine step_gf rfl rfl ?_
       refine step_gf rfl rfl ?_
       refine step_gf rfl rfl ?_
       refine step_gf rfl rfl ?_
       refine step_r rfl rfl trivial ?_
       refine step_r rfl rfl trivial ?_
       refine step_gf rfl rfl ?_
       refine step_gf rfl rfl ?_
       refine step_gf rfl rfl ?_
       refine step_r rfl rfl trivial ?_
       refine step_r rfl rfl trivial ?_
       refine step_gf rfl rfl ?_
       refine step_gf rfl rfl ?_
       refine step_gf rfl rfl ?_
       refine step_gf rfl rfl ?_
       refine step_gf rfl rfl ?_
       refine step_r rfl rfl trivial ?_
       refine step_r rfl rfl trivial ?_
       refine step_gf rfl rfl ?_
       refine step_gf rfl rfl ?_
       refine step_gf rfl rfl ?_
       refine step_r rfl rfl trivial ?_
       refine step_r rfl rfl trivial ?_
       refine step_nil ?_
       refine seqK_n ?_
       refine sem_ret ?_
       refine answersR (vs := [_]) rfl ⟨trivial, trivial⟩ (congrArg B ?_) rfl
       first
        | rfl
        | (exfalso; omega)
        | (simp [Right, g2, g4, g27, g29, g31, g33]; done)
        | (rw [Bool.eq_iff_iff]; simp [Right, g2, g4, g27, g29, g31, g33]; done)
        | (rw [Bool.eq_iff_iff]; simp [Right, g2, g4, g27, g29, g31, g33]; omega)
        | grind [Right]
     ·have g31 := h31
      try simp at g31
      refine step_g0 rfl h31 rfl ?_
      refine step_g0 rfl h31 rfl ?_
      refine step_g0 rfl h31 rfl ?_
      refine step_pickF rfl h31 rfl rfl ?_
      refine step_r rfl rfl trivial ?_
      refine step_gf rfl rfl ?_
      refine step_gf rfl rfl ?_
      refine step_gf rfl rfl ?_
      refine step_r rfl rfl trivial ?_
      refine step_r rfl rfl trivial ?_
      refine step_gf rfl rfl ?_
      refine step_gf rfl rfl ?_
      refine step_gf rfl rfl ?_
      refine step_r rfl rfl trivial ?_
      refine step_r rfl rfl trivial ?_
      refine step_gf rfl rfl ?_
      refine step_gf rfl rfl ?_
      refine step_gf rfl rfl ?_
      refine step_r rfl rfl trivial ?_
      refine step_r rfl rfl trivial ?_
      refine step_gf rfl rfl ?_
      refine step_gf rfl rfl ?_
      refine step_gf rfl rfl ?_
      refine step_r rfl rfl trivial ?_
      refine step_r rfl rfl trivial ?_
      refine step_gf rfl rfl ?_
      refine step_gf rfl rfl ?_
      refine step_gf rfl rfl ?_
      refine step_gf rfl rfl ?_
      refine step_gf rfl rfl ?_
      refine step_r rfl rfl trivial ?_
      refine step_r rfl rfl trivial ?_
      refine step_gf rfl rfl ?_
      refine step_gf rfl rfl ?_
      refine step_gf rfl rfl ?_
      refine step_r rfl rfl trivial ?_
      refine step_r rfl rfl trivial ?_
      refine step_gf rfl rfl ?_
      refine step_gf rfl rfl ?_
      refine step_gf rfl rfl ?_
      refine step_gf rfl rfl ?_
      refine step_gf rfl rfl ?_
      refine step_r rfl rfl trivial ?_
      refine step_r rfl rfl trivial ?_
      refine step_gf rfl rfl ?_
      refine step_gf rfl rfl ?_
      refine step_gf rfl rfl ?_
      refine step_r rfl rfl trivial ?_
      refine step_r rfl rfl trivial ?_
      refine step_nil ?_
      refine seqK_n ?_
      refine sem_ret ?_
      refine answersR (vs := [_]) rfl ⟨trivial, trivial⟩ (congrArg B ?_) rfl
      first
       | rfl
       | (exfalso; omega)
       | (simp [Right, g2, g4, g27, g29, g31]; done)
       | (rw [Bool.eq_iff_iff]; simp [Right, g2, g4, g27, g29, g31]; done)
       | (rw [Bool.eq_iff_iff]; simp [Right, g2, g4, g27, g29, g31]; omega)
       | grind [Right]
    ·have g29 := h29
     try simp at g29
     refine step_g0 rfl h29 rfl ?_
     refine step_g0 rfl h29 rfl ?_
     refine step_g0 rfl h29 rfl ?_
     refine step_pickF rfl h29 rfl rfl ?_
     refine step_r rfl rfl trivial ?_
     refine step_gf rfl rfl ?_
     refine step_gf rfl rfl ?_
     refine step_gf rfl rfl ?_
     refine step_r rfl rfl trivial ?_
     refine step_r rfl rfl trivial ?_
     refine step_gf rfl rfl ?_
     refine step_gf rfl rfl ?_
     refine step_gf rfl rfl ?_
     refine step_r rfl rfl trivial ?_
     refine step_r rfl rfl trivial ?_
     refine step_gf rfl rfl ?_
     refine step_gf rfl rfl ?_
     refine step_gf rfl rfl ?_
     refine step_r rfl rfl trivial ?_
     refine step_r rfl rfl trivial ?_
     refine step_gf rfl rfl ?_
     refine step_gf rfl rfl ?_
     refine step_gf rfl rfl ?_
     refine step_r rfl rfl trivial ?_
     refine step_r rfl rfl trivial ?_
     refine step_gf rfl rfl ?_
     refine step_gf rfl rfl ?_
     refine step_gf rfl rfl ?_
     refine step_r rfl rfl trivial ?_
     refine step_r rfl rfl trivial ?_
     refine step_gf rfl rfl ?_
     refine step_gf rfl rfl ?_
     refine step_gf rfl rfl ?_
     refine step_gf rfl rfl ?_
     refine step_gf rfl rfl ?_
     refine step_r rfl rfl trivial ?_
     refine step_r rfl rfl trivial ?_
     refine step_gf rfl rfl ?_
     refine step_gf rfl rfl ?_
     refine step_gf rfl rfl ?_
     refine step_r rfl rfl trivial ?_
     refine step_r rfl rfl trivial ?_
     refine step_gf rfl rfl ?_
     refine step_gf rfl rfl ?_
     refine step_gf rfl rfl ?_
     refine step_gf rfl rfl ?_
     refine step_gf rfl rfl ?_
     refine step_r rfl rfl trivial ?_
     refine step_r rfl rfl trivial ?_
     refine step_gf rfl rfl ?_
     refine step_gf rfl rfl ?_
     refine step_gf rfl rfl ?_
     refine step_r rfl rfl trivial ?_
     refine step_r rfl rfl trivial ?_
     refine step_nil ?_
     refine seqK_n ?_
     refine sem_ret ?_
     refine answersR (vs := [_]) rfl ⟨trivial, trivial⟩ (congrArg B ?_) rfl
     first
      | rfl
      | (exfalso; omega)
      | (simp [Right, g2, g4, g27, g29]; done)
      | (rw [Bool.eq_iff_iff]; simp [Right, g2, g4, g27, g29]; done)
      | (rw [Bool.eq_iff_iff]; simp [Right, g2, g4, g27, g29]; omega)
      | grind [Right]
   ·have g27 := h27
    try simp at g27
    refine step_g0 rfl h27 rfl ?_
    refine step_g0 rfl h27 rfl ?_
    refine step_g0 rfl h27 rfl ?_
    refine step_pickF rfl h27 rfl rfl ?_
    refine step_r rfl rfl trivial ?_
    refine step_gf rfl rfl ?_
    refine step_gf rfl rfl ?_
    refine step_gf rfl rfl ?_
    refine step_r rfl rfl trivial ?_
    refine step_r rfl rfl trivial ?_
    refine step_gf rfl rfl ?_
    refine step_gf rfl rfl ?_
    refine step_gf rfl rfl ?_
    refine step_r rfl rfl trivial ?_
    refine step_r rfl rfl trivial ?_
    refine step_gf rfl rfl ?_
    refine step_gf rfl rfl ?_
    refine step_gf rfl rfl ?_
    refine step_r rfl rfl trivial ?_
    refine step_r rfl rfl trivial ?_
    refine step_gf rfl rfl ?_
    refine step_gf rfl rfl ?_
    refine step_gf rfl rfl ?_
    refine step_r rfl rfl trivial ?_
    refine step_r rfl rfl trivial ?_
    refine step_gf rfl rfl ?_
    refine step_gf rfl rfl ?_
    refine step_gf rfl rfl ?_
    refine step_r rfl rfl trivial ?_
    refine step_r rfl rfl trivial ?_
    refine step_gf rfl rfl ?_
    refine step_gf rfl rfl ?_
    refine step_gf rfl rfl ?_
    refine step_r rfl rfl trivial ?_
    refine step_r rfl rfl trivial ?_
    refine step_gf rfl rfl ?_
    refine step_gf rfl rfl ?_
    refine step_gf rfl rfl ?_
    refine step_gf rfl rfl ?_
    refine step_gf rfl rfl ?_
    refine step_r rfl rfl trivial ?_
    refine step_r rfl rfl trivial ?_
    refine step_gf rfl rfl ?_
    refine step_gf rfl rfl ?_
    refine step_gf rfl rfl ?_
    refine step_r rfl rfl trivial ?_
    refine step_r rfl rfl trivial ?_
    refine step_gf rfl rfl ?_
    refine step_gf rfl rfl ?_
    refine step_gf rfl rfl ?_
    refine step_gf rfl rfl ?_
    refine step_gf rfl rfl ?_
    refine step_r rfl rfl trivial ?_
    refine step_r rfl rfl trivial ?_
    refine step_gf rfl rfl ?_
    refine step_gf rfl rfl ?_
    refine step_gf rfl rfl ?_
    refine step_r rfl rfl trivial ?_
    refine step_r rfl rfl trivial ?_
    refine step_nil ?_
    refine seqK_n ?_
    refine sem_ret ?_
    refine answersR (vs := [_]) rfl ⟨trivial, trivial⟩ (congrArg B ?_) rfl
    first
     | rfl
     | (exfalso; omega)
     | (simp [Right, g2, g4, g27]; done)
     | (rw [Bool.eq_iff_iff]; simp [Right, g2, g4, g27]; done)
     | (rw [Bool.eq_iff_iff]; simp [Right, g2, g4, g27]; omega)
     | grind [Right]
 ·have g2 := h2
  try simp at g2
  refine step_g0 rfl h2 rfl ?_
  refine step_g0 rfl h2 rfl ?_
  refine step_g0 rfl h2 rfl ?_
  refine step_g0 rfl h2 rfl ?_
  refine step_gf rfl rfl ?_
  refine step_gf rfl rfl ?_
  refine step_gf rfl rfl ?_
  refine step_g0 rfl h2 rfl ?_
  refine step_pickF rfl h2 rfl rfl ?_
  refine step_r rfl rfl trivial ?_
  refine step_gf rfl rfl ?_
  refine step_gf rfl rfl ?_
  refine step_gf rfl rfl ?_
  refine step_r rfl rfl trivial ?_
  refine step_r rfl rfl trivial ?_
  refine step_gf rfl rfl ?_
  refine step_gf rfl rfl ?_
  refine step_gf rfl rfl ?_
  refine step_r rfl rfl trivial ?_
  refine step_r rfl rfl trivial ?_
  refine step_gf rfl rfl ?_
  refine step_gf rfl rfl ?_
  refine step_gf rfl rfl ?_
  refine step_r rfl rfl trivial ?_
  refine step_r rfl rfl trivial ?_
  refine step_gf rfl rfl ?_
  refine step_gf rfl rfl ?_
  refine step_gf rfl rfl ?_
  refine step_r rfl rfl trivial ?_
  refine step_r rfl rfl trivial ?_
  refine step_gf rfl rfl ?_
  refine step_gf rfl rfl ?_
  refine step_gf rfl rfl ?_
  refine step_r rfl rfl trivial ?_
  refine step_r rfl rfl trivial ?_
  refine step_gf rfl rfl ?_
  refine step_gf rfl rfl ?_
  refine step_gf rfl rfl ?_
  refine step_r rfl rfl trivial ?_
  refine step_r rfl rfl trivial ?_
  refine step_gf rfl rfl ?_
  refine step_gf rfl rfl ?_
  refine step_gf rfl rfl ?_
  refine step_r rfl rfl trivial ?_
  refine step_r rfl rfl trivial ?_
  refine step_gf rfl rfl ?_
  refine step_gf rfl rfl ?_
  refine step_gf rfl rfl ?_
  refine step_gf rfl rfl ?_
  refine step_gf rfl rfl ?_
  refine step_r rfl rfl trivial ?_
  refine step_r rfl rfl trivial ?_
  refine step_gf rfl rfl ?_
  refine step_gf rfl rfl ?_
  refine step_gf rfl rfl ?_
  refine step_r rfl rfl trivial ?_
  refine step_r rfl rfl trivial ?_
  refine step_gf rfl rfl ?_
  refine step_gf rfl rfl ?_
  refine step_gf rfl rfl ?_
  refine step_gf rfl rfl ?_
  refine step_gf rfl rfl ?_
  refine step_r rfl rfl trivial ?_
  refine step_r rfl rfl trivial ?_
  refine step_gf rfl rfl ?_
  refine step_gf rfl rfl ?_
  refine step_gf rfl rfl ?_
  refine step_r rfl rfl trivial ?_
  refine step_r rfl rfl trivial ?_
  refine step_nil ?_
  refine seqK_n ?_
  refine sem_ret ?_
  refine answersR (vs := [_]) rfl ⟨trivial, trivial⟩ (congrArg B ?_) rfl
  first
   | rfl
   | (exfalso; omega)
   | (simp [Right, g2]; done)
   | (rw [Bool.eq_iff_iff]; simp [Right, g2]; done)
   | (rw [Bool.eq_iff_iff]; simp [Right, g2]; omega)
   | grind [Right]

theorem dead_ok (u : GUnit) : Ok Try.prog 24 [aGUnit u] [] (B (decide (u.Health < 1))) [] [] := by
 refine ok_of_sem Try.func24 rfl ?_
 show Walks Try.prog _ _ ⟨[(0, aGUnit u)], [], 0, [], 6, 0⟩
 refine sem_seq ?_
 refine sem_region rfl ?_
 refine step_n (o := .box [_, _, _, _, _, _, _, _, _, _]) (nx' := 1) rfl rfl rfl trivial ?_
 refine step_r rfl rfl trivial ?_
 refine step_nil ?_
 refine seqK_n ?_
 refine sem_seq ?_
 refine sem_region rfl ?_
 refine step_r rfl rfl (by decide) ?_
 refine step_r rfl rfl trivial ?_
 refine step_bin rfl rfl rfl rfl rfl trivial ?_
 refine step_r rfl rfl trivial ?_
 refine step_nil ?_
 refine seqK_n ?_
 refine sem_ret ?_
 exact answersR rfl ⟨trivial, trivial⟩ (rfl) rfl

theorem deadR_ok (u : GUnit) : Ok Try.prog 25 [aGUnit u] [] (B (decide (u.Health < 1))) [] [] := by
 refine ok_of_sem Try.func25 rfl ?_
 show Walks Try.prog _ _ ⟨[(0, aGUnit u)], [], 0, [], 6, 0⟩
 refine sem_seq ?_
 refine sem_region rfl ?_
 refine step_n (o := .box [_, _, _, _, _, _, _, _, _, _]) (nx' := 1) rfl rfl rfl trivial ?_
 refine step_r rfl rfl trivial ?_
 refine step_nil ?_
 refine seqK_n ?_
 refine sem_seq ?_
 refine sem_region rfl ?_
 refine step_r rfl rfl (by decide) ?_
 refine step_r rfl rfl trivial ?_
 refine step_bin rfl rfl rfl rfl rfl trivial ?_
 refine step_r rfl rfl trivial ?_
 refine step_nil ?_
 refine seqK_n ?_
 refine sem_ret ?_
 exact answersR rfl ⟨trivial, trivial⟩ (rfl) rfl

theorem below_ok (u : GUnit) (p : Int) : Ok Try.prog 26 [aGUnit u, I p] [] (B (decide (u.Health ≤ partM u.MaxHealth p 100))) [] [] := by
 refine ok_of_sem Try.func26 rfl ?_
 show Walks Try.prog _ _ ⟨[(0, aGUnit u), (1, I p)], [], 0, [], 12, 0⟩
 refine sem_seq ?_
 refine sem_region rfl ?_
 refine step_n (o := .box [_, _, _, _, _, _, _, _, _, _]) (nx' := 1) rfl rfl rfl trivial ?_
 refine step_r rfl rfl trivial ?_
 refine step_nil ?_
 refine seqK_n ?_
 refine sem_seq ?_
 refine sem_drawn rfl (by decide +kernel) rfl ?_
 refine step_r rfl rfl (by decide) ?_
 refine step_r rfl rfl trivial ?_
 refine step_r rfl rfl (by decide) ?_
 refine step_r rfl rfl trivial ?_
 refine step_r rfl rfl trivial ?_
 refine step_call rfl rfl rfl rfl (part_ok u.MaxHealth p 100) rfl rfl rfl ?_
 refine step_bin rfl rfl rfl rfl rfl trivial ?_
 refine step_r rfl rfl trivial ?_
 refine step_nil ?_
 refine seqK_n ?_
 refine sem_ret ?_
 exact answersR rfl ⟨trivial, trivial⟩ (rfl) rfl

theorem belowR_ok (u : GUnit) (p : Int) : Ok Try.prog 27 [aGUnit u, I p] [] (B (decide (u.Health ≤ partR u.MaxHealth p 100))) [] [] := by
 refine ok_of_sem Try.func27 rfl ?_
 show Walks Try.prog _ _ ⟨[(0, aGUnit u), (1, I p)], [], 0, [], 12, 0⟩
 refine sem_seq ?_
 refine sem_region rfl ?_
 refine step_n (o := .box [_, _, _, _, _, _, _, _, _, _]) (nx' := 1) rfl rfl rfl trivial ?_
 refine step_r rfl rfl trivial ?_
 refine step_nil ?_
 refine seqK_n ?_
 refine sem_seq ?_
 refine sem_drawn rfl (by decide +kernel) rfl ?_
 refine step_r rfl rfl (by decide) ?_
 refine step_r rfl rfl trivial ?_
 refine step_r rfl rfl (by decide) ?_
 refine step_r rfl rfl trivial ?_
 refine step_r rfl rfl trivial ?_
 refine step_call rfl rfl rfl rfl (partR_ok u.MaxHealth p 100) rfl rfl rfl ?_
 refine step_bin rfl rfl rfl rfl rfl trivial ?_
 refine step_r rfl rfl trivial ?_
 refine step_nil ?_
 refine seqK_n ?_
 refine sem_ret ?_
 exact answersR rfl ⟨trivial, trivial⟩ (rfl) rfl

theorem belowR_okM (u : GUnit) (p : Int) : Ok Try.prog 27 [aGUnit u, I p] [] (B (decide (u.Health ≤ partM u.MaxHealth p 100))) [] [] := by rw [part_same]; exact belowR_ok u p

theorem fields_ok (u : GUnit) : Ok Try.prog 28 [aGUnit u] [] (.agg [I u.Kind, I u.Group, I u.Health, I u.MaxHealth, I u.Power, I u.MaxPower, I u.At.X, I u.At.Y, I u.Casting]) [] [] := by
 refine ok_of_sem Try.func28 rfl ?_
 show Walks Try.prog _ _ ⟨[(0, aGUnit u)], [], 0, [], 24, 0⟩
 refine sem_seq ?_
 refine sem_region rfl ?_
 refine step_n (o := .box [_, _, _, _, _, _, _, _, _, _]) (nx' := 1) rfl rfl rfl trivial ?_
 refine step_n (o := .box [_, _, _, _, _, _, _, _, _]) (nx' := 2) rfl rfl rfl trivial ?_
 refine step_nil ?_
 refine seqK_n ?_
 refine sem_seq ?_
 refine sem_region rfl ?_
 refine step_r rfl rfl (by decide) ?_
 refine step_r rfl rfl trivial ?_
 refine step_r rfl rfl (by decide) ?_
 refine step_r rfl rfl trivial ?_
 refine step_r rfl rfl (by decide) ?_
 refine step_r rfl rfl trivial ?_
 refine step_r rfl rfl (by decide) ?_
 refine step_r rfl rfl trivial ?_
 refine step_r rfl rfl (by decide) ?_
 refine step_r rfl rfl trivial ?_
 refine step_r rfl rfl (by decide) ?_
 refine step_r rfl rfl trivial ?_
 refine step_r rfl rfl (by decide) ?_
 refine step_r rfl rfl (by decide) ?_
 refine step_r rfl rfl trivial ?_
 refine step_r rfl rfl (by decide) ?_
 refine step_r rfl rfl (by decide) ?_
 refine step_r rfl rfl trivial ?_
 refine step_r rfl rfl (by decide) ?_
 refine step_r rfl rfl trivial ?_
 refine step_r (v := (.agg [_, _, _, _, _, _, _, _, _])) rfl rfl trivial ?_
 refine step_store (H' := [(1, .box [_, _, _, _, _, _, _, _, _]), (0, .box [_, _, _, _, _, _, _, _, _, _])]) rfl rfl rfl rfl rfl rfl (Nat.le_of_ble_eq_true rfl) (.inl rfl) rfl ?_
 refine step_nil ?_
 refine seqK_n ?_
 refine sem_ret ?_
 exact answersR rfl ⟨Nat.le_of_ble_eq_true rfl, trivial⟩ (rfl) rfl

theorem fieldsR_ok (u : GUnit) : Ok Try.prog 29 [aGUnit u] [] (.agg [I u.Kind, I u.Group, I u.Health, I u.MaxHealth, I u.Power, I u.MaxPower, I u.At.X, I u.At.Y, I u.Casting]) [] [] := by
 refine ok_of_sem Try.func29 rfl ?_
 show Walks Try.prog _ _ ⟨[(0, aGUnit u)], [], 0, [], 24, 0⟩
 refine sem_seq ?_
 refine sem_region rfl ?_
 refine step_n (o := .box [_, _, _, _, _, _, _, _, _, _]) (nx' := 1) rfl rfl rfl trivial ?_
 refine step_n (o := .box [_, _, _, _, _, _, _, _, _]) (nx' := 2) rfl rfl rfl trivial ?_
 refine step_nil ?_
 refine seqK_n ?_
 refine sem_seq ?_
 refine sem_region rfl ?_
 refine step_r rfl rfl (by decide) ?_
 refine step_r rfl rfl trivial ?_
 refine step_r rfl rfl (by decide) ?_
 refine step_r rfl rfl trivial ?_
 refine step_r rfl rfl (by decide) ?_
 refine step_r rfl rfl trivial ?_
 refine step_r rfl rfl (by decide) ?_
 refine step_r rfl rfl trivial ?_
 refine step_r rfl rfl (by decide) ?_
 refine step_r rfl rfl trivial ?_
 refine step_r rfl rfl (by decide) ?_
 refine step_r rfl rfl trivial ?_
 refine step_r rfl rfl (by decide) ?_
 refine step_r rfl rfl (by decide) ?_
 refine step_r rfl rfl trivial ?_
 refine step_r rfl rfl (by decide) ?_
 refine step_r rfl rfl (by decide) ?_
 refine step_r rfl rfl trivial ?_
 refine step_r rfl rfl (by decide) ?_
 refine step_r rfl rfl trivial ?_
 refine step_r (v := (.agg [_, _, _, _, _, _, _, _, _])) rfl rfl trivial ?_
 refine step_store (H' := [(1, .box [_, _, _, _, _, _, _, _, _]), (0, .box [_, _, _, _, _, _, _, _, _, _])]) rfl rfl rfl rfl rfl rfl (Nat.le_of_ble_eq_true rfl) (.inl rfl) rfl ?_
 refine step_nil ?_
 refine seqK_n ?_
 refine sem_ret ?_
 exact answersR rfl ⟨Nat.le_of_ble_eq_true rfl, trivial⟩ (rfl) rfl

theorem fromR_ok (n : Int) (f : A9int) : Ok Try.prog 31 [I n, aA9int f] [] (.agg [I n, I f.f0, I f.f1, I f.f2, I f.f3, I f.f4, I f.f5, I f.f6, I f.f7, I f.f8]) [] [] := by
 refine ok_of_sem Try.func31 rfl ?_
 show Walks Try.prog _ _ ⟨[(0, I n), (1, aA9int f)], [], 0, [], 26, 0⟩
 refine sem_seq ?_
 refine sem_region rfl ?_
 refine step_n (o := .box [_, _, _, _, _, _, _, _, _]) (nx' := 1) rfl rfl rfl trivial ?_
 refine step_n (o := .box [_, _, _, _, _, _, _, _, _, _]) (nx' := 2) rfl rfl rfl trivial ?_
 refine step_nil ?_
 refine seqK_n ?_
 refine sem_seq ?_
 refine sem_region rfl ?_
 refine step_r rfl rfl trivial ?_
 refine step_r rfl rfl (by decide) ?_
 refine step_r rfl rfl trivial ?_
 refine step_r rfl rfl (by decide) ?_
 refine step_r rfl rfl trivial ?_
 refine step_r rfl rfl (by decide) ?_
 refine step_r rfl rfl trivial ?_
 refine step_r rfl rfl (by decide) ?_
 refine step_r rfl rfl trivial ?_
 refine step_r rfl rfl (by decide) ?_
 refine step_r rfl rfl trivial ?_
 refine step_r rfl rfl (by decide) ?_
 refine step_r rfl rfl trivial ?_
 refine step_r rfl rfl (by decide) ?_
 refine step_r rfl rfl trivial ?_
 refine step_r rfl rfl (by decide) ?_
 refine step_r rfl rfl trivial ?_
 refine step_r (v := (.agg [_, _])) rfl rfl trivial ?_
 refine step_r rfl rfl (by decide) ?_
 refine step_r rfl rfl trivial ?_
 refine step_r (v := (.agg [_, _, _, _, _, _, _, _, _, _])) rfl rfl trivial ?_
 refine step_store (H' := [(1, .box [_, _, _, _, _, _, _, _, _, _]), (0, .box [_, _, _, _, _, _, _, _, _])]) rfl rfl rfl rfl rfl rfl (Nat.le_of_ble_eq_true rfl) (.inl rfl) rfl ?_
 refine step_nil ?_
 refine seqK_n ?_
 refine sem_ret ?_
 exact answersR rfl ⟨Nat.le_of_ble_eq_true rfl, trivial⟩ (rfl) rfl

theorem from_ok (n : Int) (f : A9int) : Ok Try.prog 30 [I n, aA9int f] [] (.agg [I n, I f.f0, I f.f1, I f.f2, I f.f3, I f.f4, I f.f5, I f.f6, I f.f7, I f.f8]) [] [] := by
 refine ok_of_sem Try.func30 rfl ?_
 show Walks Try.prog _ _ ⟨[(0, I n), (1, aA9int f)], [], 0, [], 33, 0⟩
 refine sem_seq ?_
 refine sem_region rfl ?_
 refine step_n (o := .box [_, _, _, _, _, _, _, _, _]) (nx' := 1) rfl rfl rfl trivial ?_
 refine step_n (o := .box [_, _, _, _, _, _, _, _, _, _]) (nx' := 2) rfl rfl rfl trivial ?_
 refine step_nil ?_
 refine seqK_n ?_
 refine sem_seq ?_
 refine sem_region rfl ?_
 refine step_r rfl rfl trivial ?_
 refine step_r (v := (.agg [_, _, _, _, _, _, _, _, _, _])) rfl rfl trivial ?_
 refine step_n (o := .box [_, _, _, _, _, _, _, _, _, _]) (nx' := 3) rfl rfl rfl trivial ?_
 refine step_store (H' := [(2, .box [_, _, _, _, _, _, _, _, _, _]), (1, .box [_, _, _, _, _, _, _, _, _, _]), (0, .box [_, _, _, _, _, _, _, _, _])]) rfl rfl rfl rfl rfl rfl (Nat.le_of_ble_eq_true rfl) (.inl rfl) rfl ?_
 refine step_nil ?_
 refine seqK_n ?_
 refine sem_seq ?_
 refine sem_seq ?_
 refine sem_region rfl ?_
 refine step_r rfl rfl (by decide) ?_
 refine step_r rfl rfl (by decide) ?_
 refine step_r rfl rfl (by decide) ?_
 refine step_r rfl rfl (by decide) ?_
 refine step_r rfl rfl (by decide) ?_
 refine step_r rfl rfl (by decide) ?_
 refine step_r rfl rfl (by decide) ?_
 refine step_r rfl rfl (by decide) ?_
 refine step_r rfl rfl (by decide) ?_
 refine step_r rfl rfl (by decide) ?_
 refine step_r rfl rfl (by decide) ?_
 refine step_r (v := (.agg [_, _, _, _, _, _, _, _, _])) rfl rfl trivial ?_
 refine step_r rfl rfl trivial ?_
 refine step_nil ?_
 refine seqK_n ?_
 refine sem_block ?_
 refine sem_loop_of (fun k : Nat => match k with | 0 => (⟨[(3, .ptr 0 0), (4, .ptr 1 0), (5, .ptr 2 0), (21, .agg [.ptr 2 1, .ptr 2 2, .ptr 2 3, .ptr 2 4, .ptr 2 5, .ptr 2 6, .ptr 2 7, .ptr 2 8, .ptr 2 9]), (22, I 0)], [(0, .box [I f.f0, I f.f1, I f.f2, I f.f3, I f.f4, I f.f5, I f.f6, I f.f7, I f.f8]), (1, .box [I 0, I 0, I 0, I 0, I 0, I 0, I 0, I 0, I 0, I 0]), (2, .box [I n, I 0, I 0, I 0, I 0, I 0, I 0, I 0, I 0, I 0])], 3, [], 33, 0⟩ : St) | 1 => (⟨[(3, .ptr 0 0), (4, .ptr 1 0), (5, .ptr 2 0), (21, .agg [.ptr 2 1, .ptr 2 2, .ptr 2 3, .ptr 2 4, .ptr 2 5, .ptr 2 6, .ptr 2 7, .ptr 2 8, .ptr 2 9]), (22, I 1)], [(0, .box [I f.f0, I f.f1, I f.f2, I f.f3, I f.f4, I f.f5, I f.f6, I f.f7, I f.f8]), (1, .box [I 0, I 0, I 0, I 0, I 0, I 0, I 0, I 0, I 0, I 0]), (2, .box [I n, I f.f0, I 0, I 0, I 0, I 0, I 0, I 0, I 0, I 0])], 3, [], 33, 0⟩ : St) | 2 => (⟨[(3, .ptr 0 0), (4, .ptr 1 0), (5, .ptr 2 0), (21, .agg [.ptr 2 1, .ptr 2 2, .ptr 2 3, .ptr 2 4, .ptr 2 5, .ptr 2 6, .ptr 2 7, .ptr 2 8, .ptr 2 9]), (22, I 2)], [(0, .box [I f.f0, I f.f1, I f.f2, I f.f3, I f.f4, I f.f5, I f.f6, I f.f7, I f.f8]), (1, .box [I 0, I 0, I 0, I 0, I 0, I 0, I 0, I 0, I 0, I 0]), (2, .box [I n, I f.f0, I f.f1, I 0, I 0, I 0, I 0, I 0, I 0, I 0])], 3, [], 33, 0⟩ : St) | 3 => (⟨[(3, .ptr 0 0), (4, .ptr 1 0), (5, .ptr 2 0), (21, .agg [.ptr 2 1, .ptr 2 2, .ptr 2 3, .ptr 2 4, .ptr 2 5, .ptr 2 6, .ptr 2 7, .ptr 2 8, .ptr 2 9]), (22, I 3)], [(0, .box [I f.f0, I f.f1, I f.f2, I f.f3, I f.f4, I f.f5, I f.f6, I f.f7, I f.f8]), (1, .box [I 0, I 0, I 0, I 0, I 0, I 0, I 0, I 0, I 0, I 0]), (2, .box [I n, I f.f0, I f.f1, I f.f2, I 0, I 0, I 0, I 0, I 0, I 0])], 3, [], 33, 0⟩ : St) | 4 => (⟨[(3, .ptr 0 0), (4, .ptr 1 0), (5, .ptr 2 0), (21, .agg [.ptr 2 1, .ptr 2 2, .ptr 2 3, .ptr 2 4, .ptr 2 5, .ptr 2 6, .ptr 2 7, .ptr 2 8, .ptr 2 9]), (22, I 4)], [(0, .box [I f.f0, I f.f1, I f.f2, I f.f3, I f.f4, I f.f5, I f.f6, I f.f7, I f.f8]), (1, .box [I 0, I 0, I 0, I 0, I 0, I 0, I 0, I 0, I 0, I 0]), (2, .box [I n, I f.f0, I f.f1, I f.f2, I f.f3, I 0, I 0, I 0, I 0, I 0])], 3, [], 33, 0⟩ : St) | 5 => (⟨[(3, .ptr 0 0), (4, .ptr 1 0), (5, .ptr 2 0), (21, .agg [.ptr 2 1, .ptr 2 2, .ptr 2 3, .ptr 2 4, .ptr 2 5, .ptr 2 6, .ptr 2 7, .ptr 2 8, .ptr 2 9]), (22, I 5)], [(0, .box [I f.f0, I f.f1, I f.f2, I f.f3, I f.f4, I f.f5, I f.f6, I f.f7, I f.f8]), (1, .box [I 0, I 0, I 0, I 0, I 0, I 0, I 0, I 0, I 0, I 0]), (2, .box [I n, I f.f0, I f.f1, I f.f2, I f.f3, I f.f4, I 0, I 0, I 0, I 0])], 3, [], 33, 0⟩ : St) | 6 => (⟨[(3, .ptr 0 0), (4, .ptr 1 0), (5, .ptr 2 0), (21, .agg [.ptr 2 1, .ptr 2 2, .ptr 2 3, .ptr 2 4, .ptr 2 5, .ptr 2 6, .ptr 2 7, .ptr 2 8, .ptr 2 9]), (22, I 6)], [(0, .box [I f.f0, I f.f1, I f.f2, I f.f3, I f.f4, I f.f5, I f.f6, I f.f7, I f.f8]), (1, .box [I 0, I 0, I 0, I 0, I 0, I 0, I 0, I 0, I 0, I 0]), (2, .box [I n, I f.f0, I f.f1, I f.f2, I f.f3, I f.f4, I f.f5, I 0, I 0, I 0])], 3, [], 33, 0⟩ : St) | 7 => (⟨[(3, .ptr 0 0), (4, .ptr 1 0), (5, .ptr 2 0), (21, .agg [.ptr 2 1, .ptr 2 2, .ptr 2 3, .ptr 2 4, .ptr 2 5, .ptr 2 6, .ptr 2 7, .ptr 2 8, .ptr 2 9]), (22, I 7)], [(0, .box [I f.f0, I f.f1, I f.f2, I f.f3, I f.f4, I f.f5, I f.f6, I f.f7, I f.f8]), (1, .box [I 0, I 0, I 0, I 0, I 0, I 0, I 0, I 0, I 0, I 0]), (2, .box [I n, I f.f0, I f.f1, I f.f2, I f.f3, I f.f4, I f.f5, I f.f6, I 0, I 0])], 3, [], 33, 0⟩ : St) | 8 => (⟨[(3, .ptr 0 0), (4, .ptr 1 0), (5, .ptr 2 0), (21, .agg [.ptr 2 1, .ptr 2 2, .ptr 2 3, .ptr 2 4, .ptr 2 5, .ptr 2 6, .ptr 2 7, .ptr 2 8, .ptr 2 9]), (22, I 8)], [(0, .box [I f.f0, I f.f1, I f.f2, I f.f3, I f.f4, I f.f5, I f.f6, I f.f7, I f.f8]), (1, .box [I 0, I 0, I 0, I 0, I 0, I 0, I 0, I 0, I 0, I 0]), (2, .box [I n, I f.f0, I f.f1, I f.f2, I f.f3, I f.f4, I f.f5, I f.f6, I f.f7, I 0])], 3, [], 33, 0⟩ : St) | _ => (⟨[(3, .ptr 0 0), (4, .ptr 1 0), (5, .ptr 2 0), (21, .agg [.ptr 2 1, .ptr 2 2, .ptr 2 3, .ptr 2 4, .ptr 2 5, .ptr 2 6, .ptr 2 7, .ptr 2 8, .ptr 2 9]), (22, I 9)], [(0, .box [I f.f0, I f.f1, I f.f2, I f.f3, I f.f4, I f.f5, I f.f6, I f.f7, I f.f8]), (1, .box [I 0, I 0, I 0, I 0, I 0, I 0, I 0, I 0, I 0, I 0]), (2, .box [I n, I f.f0, I f.f1, I f.f2, I f.f3, I f.f4, I f.f5, I f.f6, I f.f7, I f.f8])], 3, [], 33, 0⟩ : St)) (fun k => k ≤ 9) (fun k => 9 - k) 0 (Nat.zero_le _) (less_of rfl ⟨⟨rfl, rfl⟩, ⟨rfl, rfl⟩, ⟨rfl, rfl⟩, ⟨rfl, rfl⟩, ⟨rfl, rfl⟩, trivial⟩ ⟨⟨rfl, rfl, rfl⟩, ⟨rfl, rfl, rfl⟩, ⟨rfl, rfl, rfl⟩, trivial⟩ (fun _ _ => .inr (Nat.zero_le _))) (fun k hI => ?_)
 have hk : k = 0 ∨ k = 1 ∨ k = 2 ∨ k = 3 ∨ k = 4 ∨ k = 5 ∨ k = 6 ∨ k = 7 ∨ k = 8 ∨ k = 9 := by omega
 rcases hk with rfl | rfl | rfl | rfl | rfl | rfl | rfl | rfl | rfl | rfl
 ·show Walks Try.prog _ _ (⟨[(3, .ptr 0 0), (4, .ptr 1 0), (5, .ptr 2 0), (21, .agg [.ptr 2 1, .ptr 2 2, .ptr 2 3, .ptr 2 4, .ptr 2 5, .ptr 2 6, .ptr 2 7, .ptr 2 8, .ptr 2 9]), (22, I 0)], [(0, .box [I f.f0, I f.f1, I f.f2, I f.f3, I f.f4, I f.f5, I f.f6, I f.f7, I f.f8]), (1, .box [I 0, I 0, I 0, I 0, I 0, I 0, I 0, I 0, I 0, I 0]), (2, .box [I n, I 0, I 0, I 0, I 0, I 0, I 0, I 0, I 0, I 0])], 3, [], 33, 0⟩ : St)
  refine sem_seq ?_
  refine sem_region rfl ?_
  refine step_bin rfl rfl rfl rfl rfl trivial ?_
  refine step_nil ?_
  refine seqK_n ?_
  refine sem_seq ?_
  refine sem_condT rfl ?_
  refine sem_skip ?_
  refine seqK_n ?_
  refine sem_seq ?_
  refine sem_block ?_
  refine sem_seq ?_
  refine sem_region rfl ?_
  refine step_r rfl rfl trivial ?_
  refine step_r rfl rfl (by decide) ?_
  refine step_r rfl rfl trivial ?_
  refine step_r rfl rfl trivial ?_
  refine step_nil ?_
  refine seqK_n ?_
  refine sem_region rfl ?_
  refine step_r rfl rfl trivial ?_
  refine step_r rfl rfl trivial ?_
  refine step_r rfl rfl (by decide) ?_
  refine step_r rfl rfl trivial ?_
  refine step_r rfl rfl trivial ?_
  refine step_store (H' := [(0, .box [_, _, _, _, _, _, _, _, _]), (1, .box [_, _, _, _, _, _, _, _, _, _]), (2, .box [_, _, _, _, _, _, _, _, _, _])]) rfl rfl rfl rfl rfl rfl (Nat.le_of_ble_eq_true rfl) (.inl rfl) rfl ?_
  refine step_nil ?_
  refine blkK_n ?_
  refine seqK_n ?_
  refine sem_region rfl ?_
  refine step_bin rfl rfl rfl rfl rfl trivial ?_
  refine step_r rfl rfl trivial ?_
  refine step_nil ?_
  exact lup_again 1 (by omega) (by omega) (less_of rfl ⟨⟨rfl, rfl⟩, ⟨rfl, rfl⟩, ⟨rfl, rfl⟩, ⟨rfl, rfl⟩, ⟨rfl, rfl⟩, trivial⟩ ⟨⟨rfl, rfl, rfl⟩, ⟨rfl, rfl, rfl⟩, ⟨rfl, rfl, rfl⟩, trivial⟩ (fun _ _ => .inr (Nat.zero_le _)))
 ·show Walks Try.prog _ _ (⟨[(3, .ptr 0 0), (4, .ptr 1 0), (5, .ptr 2 0), (21, .agg [.ptr 2 1, .ptr 2 2, .ptr 2 3, .ptr 2 4, .ptr 2 5, .ptr 2 6, .ptr 2 7, .ptr 2 8, .ptr 2 9]), (22, I 1)], [(0, .box [I f.f0, I f.f1, I f.f2, I f.f3, I f.f4, I f.f5, I f.f6, I f.f7, I f.f8]), (1, .box [I 0, I 0, I 0, I 0, I 0, I 0, I 0, I 0, I 0, I 0]), (2, .box [I n, I f.f0, I 0, I 0, I 0, I 0, I 0, I 0, I 0, I 0])], 3, [], 33, 0⟩ : St)
  refine sem_seq ?_
  refine sem_region rfl ?_
  refine step_bin rfl rfl rfl rfl rfl trivial ?_
  refine step_nil ?_
  refine seqK_n ?_
  refine sem_seq ?_
  refine sem_condT rfl ?_
  refine sem_skip ?_
  refine seqK_n ?_
  refine sem_seq ?_
  refine sem_block ?_
  refine sem_seq ?_
  refine sem_region rfl ?_
  refine step_r rfl rfl trivial ?_
  refine step_r rfl rfl (by decide) ?_
  refine step_r rfl rfl trivial ?_
  refine step_r rfl rfl trivial ?_
  refine step_nil ?_
  refine seqK_n ?_
  refine sem_region rfl ?_
  refine step_r rfl rfl trivial ?_
  refine step_r rfl rfl trivial ?_
  refine step_r rfl rfl (by decide) ?_
  refine step_r rfl rfl trivial ?_
  refine step_r rfl rfl trivial ?_
  refine step_store (H' := [(0, .box [_, _, _, _, _, _, _, _, _]), (1, .box [_, _, _, _, _, _, _, _, _, _]), (2, .box [_, _, _, _, _, _, _, _, _, _])]) rfl rfl rfl rfl rfl rfl (Nat.le_of_ble_eq_true rfl) (.inl rfl) rfl ?_
  refine step_nil ?_
  refine blkK_n ?_
  refine seqK_n ?_
  refine sem_region rfl ?_
  refine step_bin rfl rfl rfl rfl rfl trivial ?_
  refine step_r rfl rfl trivial ?_
  refine step_nil ?_
  exact lup_again 2 (by omega) (by omega) (less_of rfl ⟨⟨rfl, rfl⟩, ⟨rfl, rfl⟩, ⟨rfl, rfl⟩, ⟨rfl, rfl⟩, ⟨rfl, rfl⟩, trivial⟩ ⟨⟨rfl, rfl, rfl⟩, ⟨rfl, rfl, rfl⟩, ⟨rfl, rfl, rfl⟩, trivial⟩ (fun _ _ => .inr (Nat.zero_le _)))
 ·show Walks Try.prog _ _ (⟨[(3, .ptr 0 0), (4, .ptr 1 0), (5, .ptr 2 0), (21, .agg [.ptr 2 1, .ptr 2 2, .ptr 2 3, .ptr 2 4, .ptr 2 5, .ptr 2 6, .ptr 2 7, .ptr 2 8, .ptr 2 9]), (22, I 2)], [(0, .box [I f.f0, I f.f1, I f.f2, I f.f3, I f.f4, I f.f5, I f.f6, I f.f7, I f.f8]), (1, .box [I 0, I 0, I 0, I 0, I 0, I 0, I 0, I 0, I 0, I 0]), (2, .box [I n, I f.f0, I f.f1, I 0, I 0, I 0, I 0, I 0, I 0, I 0])], 3, [], 33, 0⟩ : St)
  refine sem_seq ?_
  refine sem_region rfl ?_
  refine step_bin rfl rfl rfl rfl rfl trivial ?_
  refine step_nil ?_
  refine seqK_n ?_
  refine sem_seq ?_
  refine sem_condT rfl ?_
  refine sem_skip ?_
  refine seqK_n ?_
  refine sem_seq ?_
  refine sem_block ?_
  refine sem_seq ?_
  refine sem_region rfl ?_
  refine step_r rfl rfl trivial ?_
  refine step_r rfl rfl (by decide) ?_
  refine step_r rfl rfl trivial ?_
  refine step_r rfl rfl trivial ?_
  refine step_nil ?_
  refine seqK_n ?_
  refine sem_region rfl ?_
  refine step_r rfl rfl trivial ?_
  refine step_r rfl rfl trivial ?_
  refine step_r rfl rfl (by decide) ?_
  refine step_r rfl rfl trivial ?_
  refine step_r rfl rfl trivial ?_
  refine step_store (H' := [(0, .box [_, _, _, _, _, _, _, _, _]), (1, .box [_, _, _, _, _, _, _, _, _, _]), (2, .box [_, _, _, _, _, _, _, _, _, _])]) rfl rfl rfl rfl rfl rfl (Nat.le_of_ble_eq_true rfl) (.inl rfl) rfl ?_
  refine step_nil ?_
  refine blkK_n ?_
  refine seqK_n ?_
  refine sem_region rfl ?_
  refine step_bin rfl rfl rfl rfl rfl trivial ?_
  refine step_r rfl rfl trivial ?_
  refine step_nil ?_
  exact lup_again 3 (by omega) (by omega) (less_of rfl ⟨⟨rfl, rfl⟩, ⟨rfl, rfl⟩, ⟨rfl, rfl⟩, ⟨rfl, rfl⟩, ⟨rfl, rfl⟩, trivial⟩ ⟨⟨rfl, rfl, rfl⟩, ⟨rfl, rfl, rfl⟩, ⟨rfl, rfl, rfl⟩, trivial⟩ (fun _ _ => .inr (Nat.zero_le _)))
 ·show Walks Try.prog _ _ (⟨[(3, .ptr 0 0), (4, .ptr 1 0), (5, .ptr 2 0), (21, .agg [.ptr 2 1, .ptr 2 2, .ptr 2 3, .ptr 2 4, .ptr 2 5, .ptr 2 6, .ptr 2 7, .ptr 2 8, .ptr 2 9]), (22, I 3)], [(0, .box [I f.f0, I f.f1, I f.f2, I f.f3, I f.f4, I f.f5, I f.f6, I f.f7, I f.f8]), (1, .box [I 0, I 0, I 0, I 0, I 0, I 0, I 0, I 0, I 0, I 0]), (2, .box [I n, I f.f0, I f.f1, I f.f2, I 0, I 0, I 0, I 0, I 0, I 0])], 3, [], 33, 0⟩ : St)
  refine sem_seq ?_
  refine sem_region rfl ?_
  refine step_bin rfl rfl rfl rfl rfl trivial ?_
  refine step_nil ?_
  refine seqK_n ?_
  refine sem_seq ?_
  refine sem_condT rfl ?_
  refine sem_skip ?_
  refine seqK_n ?_
  refine sem_seq ?_
  refine sem_block ?_
  refine sem_seq ?_
  refine sem_region rfl ?_
  refine step_r rfl rfl trivial ?_
  refine step_r rfl rfl (by decide) ?_
  refine step_r rfl rfl trivial ?_
  refine step_r rfl rfl trivial ?_
  refine step_nil ?_
  refine seqK_n ?_
  refine sem_region rfl ?_
  refine step_r rfl rfl trivial ?_
  refine step_r rfl rfl trivial ?_
  refine step_r rfl rfl (by decide) ?_
  refine step_r rfl rfl trivial ?_
  refine step_r rfl rfl trivial ?_
  refine step_store (H' := [(0, .box [_, _, _, _, _, _, _, _, _]), (1, .box [_, _, _, _, _, _, _, _, _, _]), (2, .box [_, _, _, _, _, _, _, _, _, _])]) rfl rfl rfl rfl rfl rfl (Nat.le_of_ble_eq_true rfl) (.inl rfl) rfl ?_
  refine step_nil ?_
  refine blkK_n ?_
  refine seqK_n ?_
  refine sem_region rfl ?_
  refine step_bin rfl rfl rfl rfl rfl trivial ?_
  refine step_r rfl rfl trivial ?_
  refine step_nil ?_
  exact lup_again 4 (by omega) (by omega) (less_of rfl ⟨⟨rfl, rfl⟩, ⟨rfl, rfl⟩, ⟨rfl, rfl⟩, ⟨rfl, rfl⟩, ⟨rfl, rfl⟩, trivial⟩ ⟨⟨rfl, rfl, rfl⟩, ⟨rfl, rfl, rfl⟩, ⟨rfl, rfl, rfl⟩, trivial⟩ (fun _ _ => .inr (Nat.zero_le _)))
 ·show Walks Try.prog _ _ (⟨[(3, .ptr 0 0), (4, .ptr 1 0), (5, .ptr 2 0), (21, .agg [.ptr 2 1, .ptr 2 2, .ptr 2 3, .ptr 2 4, .ptr 2 5, .ptr 2 6, .ptr 2 7, .ptr 2 8, .ptr 2 9]), (22, I 4)], [(0, .box [I f.f0, I f.f1, I f.f2, I f.f3, I f.f4, I f.f5, I f.f6, I f.f7, I f.f8]), (1, .box [I 0, I 0, I 0, I 0, I 0, I 0, I 0, I 0, I 0, I 0]), (2, .box [I n, I f.f0, I f.f1, I f.f2, I f.f3, I 0, I 0, I 0, I 0, I 0])], 3, [], 33, 0⟩ : St)
  refine sem_seq ?_
  refine sem_region rfl ?_
  refine step_bin rfl rfl rfl rfl rfl trivial ?_
  refine step_nil ?_
  refine seqK_n ?_
  refine sem_seq ?_
  refine sem_condT rfl ?_
  refine sem_skip ?_
  refine seqK_n ?_
  refine sem_seq ?_
  refine sem_block ?_
  refine sem_seq ?_
  refine sem_region rfl ?_
  refine step_r rfl rfl trivial ?_
  refine step_r rfl rfl (by decide) ?_
  refine step_r rfl rfl trivial ?_
  refine step_r rfl rfl trivial ?_
  refine step_nil ?_
  refine seqK_n ?_
  refine sem_region rfl ?_
  refine step_r rfl rfl trivial ?_
  refine step_r rfl rfl trivial ?_
  refine step_r rfl rfl (by decide) ?_
  refine step_r rfl rfl trivial ?_
  refine step_r rfl rfl trivial ?_
  refine step_store (H' := [(0, .box [_, _, _, _, _, _, _, _, _]), (1, .box [_, _, _, _, _, _, _, _, _, _]), (2, .box [_, _, _, _, _, _, _, _, _, _])]) rfl rfl rfl rfl rfl rfl (Nat.le_of_ble_eq_true rfl) (.inl rfl) rfl ?_
  refine step_nil ?_
  refine blkK_n ?_
  refine seqK_n ?_
  refine sem_region rfl ?_
  refine step_bin rfl rfl rfl rfl rfl trivial ?_
  refine step_r rfl rfl trivial ?_
  refine step_nil ?_
  exact lup_again 5 (by omega) (by omega) (less_of rfl ⟨⟨rfl, rfl⟩, ⟨rfl, rfl⟩, ⟨rfl, rfl⟩, ⟨rfl, rfl⟩, ⟨rfl, rfl⟩, trivial⟩ ⟨⟨rfl, rfl, rfl⟩, ⟨rfl, rfl, rfl⟩, ⟨rfl, rfl, rfl⟩, trivial⟩ (fun _ _ => .inr (Nat.zero_le _)))
 ·show Walks Try.prog _ _ (⟨[(3, .ptr 0 0), (4, .ptr 1 0), (5, .ptr 2 0), (21, .agg [.ptr 2 1, .ptr 2 2, .ptr 2 3, .ptr 2 4, .ptr 2 5, .ptr 2 6, .ptr 2 7, .ptr 2 8, .ptr 2 9]), (22, I 5)], [(0, .box [I f.f0, I f.f1, I f.f2, I f.f3, I f.f4, I f.f5, I f.f6, I f.f7, I f.f8]), (1, .box [I 0, I 0, I 0, I 0, I 0, I 0, I 0, I 0, I 0, I 0]), (2, .box [I n, I f.f0, I f.f1, I f.f2, I f.f3, I f.f4, I 0, I 0, I 0, I 0])], 3, [], 33, 0⟩ : St)
  refine sem_seq ?_
  refine sem_region rfl ?_
  refine step_bin rfl rfl rfl rfl rfl trivial ?_
  refine step_nil ?_
  refine seqK_n ?_
  refine sem_seq ?_
  refine sem_condT rfl ?_
  refine sem_skip ?_
  refine seqK_n ?_
  refine sem_seq ?_
  refine sem_block ?_
  refine sem_seq ?_
  refine sem_region rfl ?_
  refine step_r rfl rfl trivial ?_
  refine step_r rfl rfl (by decide) ?_
  refine step_r rfl rfl trivial ?_
  refine step_r rfl rfl trivial ?_
  refine step_nil ?_
  refine seqK_n ?_
  refine sem_region rfl ?_
  refine step_r rfl rfl trivial ?_
  refine step_r rfl rfl trivial ?_
  refine step_r rfl rfl (by decide) ?_
  refine step_r rfl rfl trivial ?_
  refine step_r rfl rfl trivial ?_
  refine step_store (H' := [(0, .box [_, _, _, _, _, _, _, _, _]), (1, .box [_, _, _, _, _, _, _, _, _, _]), (2, .box [_, _, _, _, _, _, _, _, _, _])]) rfl rfl rfl rfl rfl rfl (Nat.le_of_ble_eq_true rfl) (.inl rfl) rfl ?_
  refine step_nil ?_
  refine blkK_n ?_
  refine seqK_n ?_
  refine sem_region rfl ?_
  refine step_bin rfl rfl rfl rfl rfl trivial ?_
  refine step_r rfl rfl trivial ?_
  refine step_nil ?_
  exact lup_again 6 (by omega) (by omega) (less_of rfl ⟨⟨rfl, rfl⟩, ⟨rfl, rfl⟩, ⟨rfl, rfl⟩, ⟨rfl, rfl⟩, ⟨rfl, rfl⟩, trivial⟩ ⟨⟨rfl, rfl, rfl⟩, ⟨rfl, rfl, rfl⟩, ⟨rfl, rfl, rfl⟩, trivial⟩ (fun _ _ => .inr (Nat.zero_le _)))
 ·show Walks Try.prog _ _ (⟨[(3, .ptr 0 0), (4, .ptr 1 0), (5, .ptr 2 0), (21, .agg [.ptr 2 1, .ptr 2 2, .ptr 2 3, .ptr 2 4, .ptr 2 5, .ptr 2 6, .ptr 2 7, .ptr 2 8, .ptr 2 9]), (22, I 6)], [(0, .box [I f.f0, I f.f1, I f.f2, I f.f3, I f.f4, I f.f5, I f.f6, I f.f7, I f.f8]), (1, .box [I 0, I 0, I 0, I 0, I 0, I 0, I 0, I 0, I 0, I 0]), (2, .box [I n, I f.f0, I f.f1, I f.f2, I f.f3, I f.f4, I f.f5, I 0, I 0, I 0])], 3, [], 33, 0⟩ : St)
  refine sem_seq ?_
  refine sem_region rfl ?_
  refine step_bin rfl rfl rfl rfl rfl trivial ?_
  refine step_nil ?_
  refine seqK_n ?_
  refine sem_seq ?_
  refine sem_condT rfl ?_
  refine sem_skip ?_
  refine seqK_n ?_
  refine sem_seq ?_
  refine sem_block ?_
  refine sem_seq ?_
  refine sem_region rfl ?_
  refine step_r rfl rfl trivial ?_
  refine step_r rfl rfl (by decide) ?_
  refine step_r rfl rfl trivial ?_
  refine step_r rfl rfl trivial ?_
  refine step_nil ?_
  refine seqK_n ?_
  refine sem_region rfl ?_
  refine step_r rfl rfl trivial ?_
  refine step_r rfl rfl trivial ?_
  refine step_r rfl rfl (by decide) ?_
  refine step_r rfl rfl trivial ?_
  refine step_r rfl rfl trivial ?_
  refine step_store (H' := [(0, .box [_, _, _, _, _, _, _, _, _]), (1, .box [_, _, _, _, _, _, _, _, _, _]), (2, .box [_, _, _, _, _, _, _, _, _, _])]) rfl rfl rfl rfl rfl rfl (Nat.le_of_ble_eq_true rfl) (.inl rfl) rfl ?_
  refine step_nil ?_
  refine blkK_n ?_
  refine seqK_n ?_
  refine sem_region rfl ?_
  refine step_bin rfl rfl rfl rfl rfl trivial ?_
  refine step_r rfl rfl trivial ?_
  refine step_nil ?_
  exact lup_again 7 (by omega) (by omega) (less_of rfl ⟨⟨rfl, rfl⟩, ⟨rfl, rfl⟩, ⟨rfl, rfl⟩, ⟨rfl, rfl⟩, ⟨rfl, rfl⟩, trivial⟩ ⟨⟨rfl, rfl, rfl⟩, ⟨rfl, rfl, rfl⟩, ⟨rfl, rfl, rfl⟩, trivial⟩ (fun _ _ => .inr (Nat.zero_le _)))
 ·show Walks Try.prog _ _ (⟨[(3, .ptr 0 0), (4, .ptr 1 0), (5, .ptr 2 0), (21, .agg [.ptr 2 1, .ptr 2 2, .ptr 2 3, .ptr 2 4, .ptr 2 5, .ptr 2 6, .ptr 2 7, .ptr 2 8, .ptr 2 9]), (22, I 7)], [(0, .box [I f.f0, I f.f1, I f.f2, I f.f3, I f.f4, I f.f5, I f.f6, I f.f7, I f.f8]), (1, .box [I 0, I 0, I 0, I 0, I 0, I 0, I 0, I 0, I 0, I 0]), (2, .box [I n, I f.f0, I f.f1, I f.f2, I f.f3, I f.f4, I f.f5, I f.f6, I 0, I 0])], 3, [], 33, 0⟩ : St)
  refine sem_seq ?_
  refine sem_region rfl ?_
  refine step_bin rfl rfl rfl rfl rfl trivial ?_
  refine step_nil ?_
  refine seqK_n ?_
  refine sem_seq ?_
  refine sem_condT rfl ?_
  refine sem_skip ?_
  refine seqK_n ?_
  refine sem_seq ?_
  refine sem_block ?_
  refine sem_seq ?_
  refine sem_region rfl ?_
  refine step_r rfl rfl trivial ?_
  refine step_r rfl rfl (by decide) ?_
  refine step_r rfl rfl trivial ?_
  refine step_r rfl rfl trivial ?_
  refine step_nil ?_
  refine seqK_n ?_
  refine sem_region rfl ?_
  refine step_r rfl rfl trivial ?_
  refine step_r rfl rfl trivial ?_
  refine step_r rfl rfl (by decide) ?_
  refine step_r rfl rfl trivial ?_
  refine step_r rfl rfl trivial ?_
  refine step_store (H' := [(0, .box [_, _, _, _, _, _, _, _, _]), (1, .box [_, _, _, _, _, _, _, _, _, _]), (2, .box [_, _, _, _, _, _, _, _, _, _])]) rfl rfl rfl rfl rfl rfl (Nat.le_of_ble_eq_true rfl) (.inl rfl) rfl ?_
  refine step_nil ?_
  refine blkK_n ?_
  refine seqK_n ?_
  refine sem_region rfl ?_
  refine step_bin rfl rfl rfl rfl rfl trivial ?_
  refine step_r rfl rfl trivial ?_
  refine step_nil ?_
  exact lup_again 8 (by omega) (by omega) (less_of rfl ⟨⟨rfl, rfl⟩, ⟨rfl, rfl⟩, ⟨rfl, rfl⟩, ⟨rfl, rfl⟩, ⟨rfl, rfl⟩, trivial⟩ ⟨⟨rfl, rfl, rfl⟩, ⟨rfl, rfl, rfl⟩, ⟨rfl, rfl, rfl⟩, trivial⟩ (fun _ _ => .inr (Nat.zero_le _)))
 ·show Walks Try.prog _ _ (⟨[(3, .ptr 0 0), (4, .ptr 1 0), (5, .ptr 2 0), (21, .agg [.ptr 2 1, .ptr 2 2, .ptr 2 3, .ptr 2 4, .ptr 2 5, .ptr 2 6, .ptr 2 7, .ptr 2 8, .ptr 2 9]), (22, I 8)], [(0, .box [I f.f0, I f.f1, I f.f2, I f.f3, I f.f4, I f.f5, I f.f6, I f.f7, I f.f8]), (1, .box [I 0, I 0, I 0, I 0, I 0, I 0, I 0, I 0, I 0, I 0]), (2, .box [I n, I f.f0, I f.f1, I f.f2, I f.f3, I f.f4, I f.f5, I f.f6, I f.f7, I 0])], 3, [], 33, 0⟩ : St)
  refine sem_seq ?_
  refine sem_region rfl ?_
  refine step_bin rfl rfl rfl rfl rfl trivial ?_
  refine step_nil ?_
  refine seqK_n ?_
  refine sem_seq ?_
  refine sem_condT rfl ?_
  refine sem_skip ?_
  refine seqK_n ?_
  refine sem_seq ?_
  refine sem_block ?_
  refine sem_seq ?_
  refine sem_region rfl ?_
  refine step_r rfl rfl trivial ?_
  refine step_r rfl rfl (by decide) ?_
  refine step_r rfl rfl trivial ?_
  refine step_r rfl rfl trivial ?_
  refine step_nil ?_
  refine seqK_n ?_
  refine sem_region rfl ?_
  refine step_r rfl rfl trivial ?_
  refine step_r rfl rfl trivial ?_
  refine step_r rfl rfl (by decide) ?_
  refine step_r rfl rfl trivial ?_
  refine step_r rfl rfl trivial ?_
  refine step_store (H' := [(0, .box [_, _, _, _, _, _, _, _, _]), (1, .box [_, _, _, _, _, _, _, _, _, _]), (2, .box [_, _, _, _, _, _, _, _, _, _])]) rfl rfl rfl rfl rfl rfl (Nat.le_of_ble_eq_true rfl) (.inl rfl) rfl ?_
  refine step_nil ?_
  refine blkK_n ?_
  refine seqK_n ?_
  refine sem_region rfl ?_
  refine step_bin rfl rfl rfl rfl rfl trivial ?_
  refine step_r rfl rfl trivial ?_
  refine step_nil ?_
  exact lup_again 9 (by omega) (by omega) (less_of rfl ⟨⟨rfl, rfl⟩, ⟨rfl, rfl⟩, ⟨rfl, rfl⟩, ⟨rfl, rfl⟩, ⟨rfl, rfl⟩, trivial⟩ ⟨⟨rfl, rfl, rfl⟩, ⟨rfl, rfl, rfl⟩, ⟨rfl, rfl, rfl⟩, trivial⟩ (fun _ _ => .inr (Nat.zero_le _)))
 ·show Walks Try.prog _ _ (⟨[(3, .ptr 0 0), (4, .ptr 1 0), (5, .ptr 2 0), (21, .agg [.ptr 2 1, .ptr 2 2, .ptr 2 3, .ptr 2 4, .ptr 2 5, .ptr 2 6, .ptr 2 7, .ptr 2 8, .ptr 2 9]), (22, I 9)], [(0, .box [I f.f0, I f.f1, I f.f2, I f.f3, I f.f4, I f.f5, I f.f6, I f.f7, I f.f8]), (1, .box [I 0, I 0, I 0, I 0, I 0, I 0, I 0, I 0, I 0, I 0]), (2, .box [I n, I f.f0, I f.f1, I f.f2, I f.f3, I f.f4, I f.f5, I f.f6, I f.f7, I f.f8])], 3, [], 33, 0⟩ : St)
  refine sem_seq ?_
  refine sem_region rfl ?_
  refine step_bin rfl rfl rfl rfl rfl trivial ?_
  refine step_nil ?_
  refine seqK_n ?_
  refine sem_seq ?_
  refine sem_condF rfl ?_
  refine sem_exit ?_
  refine seqK_e ?_
  refine lupK_e ?_
  refine blkK_t rfl ?_
  refine seqK_n ?_
  refine sem_seq ?_
  refine sem_region rfl ?_
  refine step_r (v := (.agg [_, _, _, _, _, _, _, _, _, _])) rfl rfl (Nat.le_of_ble_eq_true rfl) ?_
  refine step_store (H' := [(0, .box [_, _, _, _, _, _, _, _, _]), (1, .box [_, _, _, _, _, _, _, _, _, _]), (2, .box [_, _, _, _, _, _, _, _, _, _])]) rfl rfl rfl rfl rfl rfl (Nat.le_of_ble_eq_true rfl) (.inl rfl) rfl ?_
  refine step_nil ?_
  refine seqK_n ?_
  refine sem_ret ?_
  exact answersR rfl ⟨Nat.le_of_ble_eq_true rfl, trivial⟩ (rfl) rfl

theorem alive_ok (u : GUnit) : Ok Try.prog 51 [aGUnit u] [] (B (decide (Right u ∧ ¬ u.Health < 1))) [] [] := by
 refine ok_of_sem Try.func51 rfl ?_
 show Walks Try.prog _ _ ⟨[(0, aGUnit u)], [], 0, [], 10, 0⟩
 refine sem_seq ?_
 refine sem_region rfl ?_
 refine step_n (o := .box [_, _, _, _, _, _, _, _, _, _]) (nx' := 1) rfl rfl rfl trivial ?_
 refine step_r rfl rfl trivial ?_
 refine step_nil ?_
 refine seqK_n ?_
 refine sem_seq ?_
 refine sem_region rfl ?_
 refine step_r (v := (.agg [_, _, _, _, _, _, _, _, _, _])) rfl rfl (Nat.le_of_ble_eq_true rfl) ?_
 refine step_call rfl rfl rfl rfl (right_ok u) rfl rfl rfl ?_
 refine step_r rfl rfl trivial ?_
 refine step_gs rfl (fun h2 => ?_) (fun h2 => ?_)
 ·have g2 := h2
  try simp at g2
  refine step_g1 rfl h2 ?_
  refine step_r (v := (.agg [_, _, _, _, _, _, _, _, _, _])) rfl rfl (Nat.le_of_ble_eq_true rfl) ?_
  refine step_g1 rfl h2 ?_
  refine step_call rfl rfl rfl rfl (dead_ok u) rfl rfl rfl ?_
  refine step_g1 rfl h2 ?_
  refine step_r rfl rfl trivial ?_
  refine step_pickT rfl h2 rfl rfl ?_
  refine step_r rfl rfl trivial ?_
  refine step_nil ?_
  refine seqK_n ?_
  refine sem_ret ?_
  refine answersR (vs := [_]) rfl ⟨trivial, trivial⟩ (congrArg B ?_) rfl
  first
   | rfl
   | (exfalso; omega)
   | (simp [g2]; done)
   | (rw [Bool.eq_iff_iff]; simp [g2]; done)
   | (rw [Bool.eq_iff_iff]; simp [g2]; omega)
   | grind []
 ·have g2 := h2
  try simp at g2
  refine step_g0 rfl h2 rfl ?_
  refine step_g0 rfl h2 rfl ?_
  refine step_g0 rfl h2 rfl ?_
  refine step_pickF rfl h2 rfl rfl ?_
  refine step_r rfl rfl trivial ?_
  refine step_nil ?_
  refine seqK_n ?_
  refine sem_ret ?_
  refine answersR (vs := [_]) rfl ⟨trivial, trivial⟩ (congrArg B ?_) rfl
  first
   | rfl
   | (exfalso; omega)
   | (simp [g2]; done)
   | (rw [Bool.eq_iff_iff]; simp [g2]; done)
   | (rw [Bool.eq_iff_iff]; simp [g2]; omega)
   | grind []

theorem moreB_ok (a : Int) (b : Int) (d : Int) : Ok Try.prog 52 [I a, I b, I d] [] (I (clampM a 0 (IntKind.i64.wrap (d - b)))) [] [] := by
 refine ok_of_sem Try.func52 rfl ?_
 show Walks Try.prog _ _ ⟨[(0, I a), (1, I b), (2, I d)], [], 0, [], 12, 0⟩
 refine sem_seq ?_
 refine sem_region rfl ?_
 refine step_r rfl rfl trivial ?_
 refine step_nil ?_
 refine seqK_n ?_
 refine sem_seq ?_
 refine sem_region rfl ?_
 refine step_r rfl rfl trivial ?_
 refine step_r rfl rfl trivial ?_
 refine step_r rfl rfl trivial ?_
 refine step_bin rfl rfl rfl rfl rfl trivial ?_
 refine step_call rfl rfl rfl rfl (clamp_ok a 0 (IntKind.i64.wrap (d - b))) rfl rfl rfl ?_
 refine step_r rfl rfl trivial ?_
 refine step_nil ?_
 refine seqK_n ?_
 refine sem_ret ?_
 exact answersR rfl ⟨trivial, trivial⟩ (rfl) rfl

theorem hurt_ok (u : GUnit) (n : Int) : Ok Try.prog 32 [aGUnit u, I n] [] (outUI (hurtM u n)) [] [] := by
 refine ok_of_sem Try.func32 rfl ?_
 show Walks Try.prog _ _ ⟨[(0, aGUnit u), (1, I n)], [], 0, [], 24, 0⟩
 refine sem_seq ?_
 refine sem_region rfl ?_
 refine step_n (o := .box [_, _, _, _, _, _, _, _, _, _]) (nx' := 1) rfl rfl rfl trivial ?_
 refine step_n (o := .box [_, _, _, _, _, _, _, _, _, _]) (nx' := 2) rfl rfl rfl trivial ?_
 refine step_r rfl rfl trivial ?_
 refine step_nil ?_
 refine seqK_n ?_
 refine sem_seq ?_
 refine sem_seq ?_
 refine sem_region rfl ?_
 refine step_r (v := (.agg [_, _, _, _, _, _, _, _, _, _])) rfl rfl (Nat.le_of_ble_eq_true rfl) ?_
 refine step_call rfl rfl rfl rfl (right_ok u) rfl rfl rfl ?_
 refine step_r rfl rfl trivial ?_
 refine step_nil ?_
 refine seqK_n ?_
 refine sem_cond rfl (fun h1 => ?_) (fun h1 => ?_)
 ·have g1 := h1
  try simp at g1
  refine sem_seq ?_
  refine sem_region rfl ?_
  refine step_r (v := (.agg [_, _, _, _, _, _, _, _, _, _])) rfl rfl (Nat.le_of_ble_eq_true rfl) ?_
  refine step_store (H' := [(1, .box [_, _, _, _, _, _, _, _, _, _]), (0, .box [_, _, _, _, _, _, _, _, _, _])]) rfl rfl rfl rfl rfl rfl (Nat.le_of_ble_eq_true rfl) (.inl rfl) rfl ?_
  refine step_r rfl rfl trivial ?_
  refine step_nil ?_
  refine seqK_n ?_
  refine sem_ret ?_
  refine seqK_r ?_
  have e : hurtM u n = (u, 0) := if_neg (by simpa using h1)
  rw [e]
  exact answersR rfl ⟨Nat.le_of_ble_eq_true rfl, trivial, trivial⟩ rfl rfl
 ·have g1 := h1
  try simp at g1
  refine sem_skip ?_
  refine seqK_n ?_
  refine sem_seq ?_
  refine sem_region rfl ?_
  refine step_r rfl rfl trivial ?_
  refine step_r rfl rfl (by decide) ?_
  refine step_r rfl rfl trivial ?_
  refine step_call rfl rfl rfl rfl (clamp_ok n 0 u.Health) rfl rfl rfl ?_
  refine step_r rfl rfl trivial ?_
  refine step_nil ?_
  refine seqK_n ?_
  refine sem_seq ?_
  refine sem_region rfl ?_
  refine step_r rfl rfl (by decide) ?_
  refine step_r rfl rfl trivial ?_
  refine step_r rfl rfl trivial ?_
  refine step_bin rfl rfl rfl rfl rfl trivial ?_
  refine step_r rfl rfl (by decide) ?_
  refine step_store (H' := [(1, .box [_, _, _, _, _, _, _, _, _, _]), (0, .box [_, _, _, _, _, _, _, _, _, _])]) rfl rfl rfl rfl rfl rfl (Nat.le_of_ble_eq_true rfl) (.inl rfl) rfl ?_
  refine step_nil ?_
  refine seqK_n ?_
  refine sem_seq ?_
  refine sem_seq ?_
  refine sem_region rfl ?_
  refine step_r (v := (.agg [_, _, _, _, _, _, _, _, _, _])) rfl rfl (Nat.le_of_ble_eq_true rfl) ?_
  refine step_call rfl rfl rfl rfl (dead_ok { u with Health := IntKind.i64.wrap (u.Health - clampM n 0 u.Health) }) rfl rfl rfl ?_
  refine step_nil ?_
  refine seqK_n ?_
  refine sem_cond rfl (fun h4 => ?_) (fun h4 => ?_)
  ·have g4 := h4
   try simp at g4
   have hd := h4
   refine sem_region rfl ?_
   refine step_r rfl rfl (by decide) ?_
   refine step_store (H' := [(1, .box [_, _, _, _, _, _, _, _, _, _]), (0, .box [_, _, _, _, _, _, _, _, _, _])]) rfl rfl rfl rfl rfl rfl (Nat.le_of_ble_eq_true rfl) (.inl rfl) rfl ?_
   refine step_nil ?_
   refine seqK_n ?_
   refine sem_seq ?_
   refine sem_region rfl ?_
   refine step_r (v := (.agg [_, _, _, _, _, _, _, _, _, _])) rfl rfl (Nat.le_of_ble_eq_true rfl) ?_
   refine step_r rfl rfl trivial ?_
   refine step_store (H' := [(1, .box [_, _, _, _, _, _, _, _, _, _]), (0, .box [_, _, _, _, _, _, _, _, _, _])]) rfl rfl rfl rfl rfl rfl (Nat.le_of_ble_eq_true rfl) (.inl rfl) rfl ?_
   refine step_r rfl rfl trivial ?_
   refine step_nil ?_
   refine seqK_n ?_
   refine sem_ret ?_
   have e : hurtM u n = ({ u with Health := IntKind.i64.wrap (u.Health - clampM n 0 u.Health), Casting := 0 }, clampM n 0 u.Health) := by
     have hr : Right u := by simpa using h1
     unfold hurtM; rw [if_pos hr]; simp only; rw [if_pos (of_decide_eq_true hd)]
   rw [e]
   exact answersR rfl ⟨Nat.le_of_ble_eq_true rfl, trivial, trivial⟩ rfl rfl
  ·have g4 := h4
   try simp at g4
   have hd := h4
   refine sem_skip ?_
   refine seqK_n ?_
   refine sem_seq ?_
   refine sem_region rfl ?_
   refine step_r (v := (.agg [_, _, _, _, _, _, _, _, _, _])) rfl rfl (Nat.le_of_ble_eq_true rfl) ?_
   refine step_r rfl rfl trivial ?_
   refine step_store (H' := [(1, .box [_, _, _, _, _, _, _, _, _, _]), (0, .box [_, _, _, _, _, _, _, _, _, _])]) rfl rfl rfl rfl rfl rfl (Nat.le_of_ble_eq_true rfl) (.inl rfl) rfl ?_
   refine step_r rfl rfl trivial ?_
   refine step_nil ?_
   refine seqK_n ?_
   refine sem_ret ?_
   have e : hurtM u n = ({ u with Health := IntKind.i64.wrap (u.Health - clampM n 0 u.Health), Casting := u.Casting }, clampM n 0 u.Health) := by
     have hr : Right u := by simpa using h1
     unfold hurtM; rw [if_pos hr]; simp only; rw [if_neg (of_decide_eq_false hd)]
   rw [e]
   exact answersR rfl ⟨Nat.le_of_ble_eq_true rfl, trivial, trivial⟩ rfl rfl

theorem heal_ok (u : GUnit) (n : Int) : Ok Try.prog 33 [aGUnit u, I n] [] (outUI (healM u n)) [] [] := by
 refine ok_of_sem Try.func33 rfl ?_
 show Walks Try.prog _ _ ⟨[(0, aGUnit u), (1, I n)], [], 0, [], 23, 0⟩
 refine sem_seq ?_
 refine sem_region rfl ?_
 refine step_n (o := .box [_, _, _, _, _, _, _, _, _, _]) (nx' := 1) rfl rfl rfl trivial ?_
 refine step_n (o := .box [_, _, _, _, _, _, _, _, _, _]) (nx' := 2) rfl rfl rfl trivial ?_
 refine step_r rfl rfl trivial ?_
 refine step_nil ?_
 refine seqK_n ?_
 refine sem_seq ?_
 refine sem_seq ?_
 refine sem_region rfl ?_
 refine step_r (v := (.agg [_, _, _, _, _, _, _, _, _, _])) rfl rfl (Nat.le_of_ble_eq_true rfl) ?_
 refine step_call rfl rfl rfl rfl (alive_ok u) rfl rfl rfl ?_
 refine step_r rfl rfl trivial ?_
 refine step_nil ?_
 refine seqK_n ?_
 refine sem_cond rfl (fun h1 => ?_) (fun h1 => ?_)
 ·have g1 := h1
  try simp at g1
  refine sem_seq ?_
  refine sem_region rfl ?_
  refine step_r (v := (.agg [_, _, _, _, _, _, _, _, _, _])) rfl rfl (Nat.le_of_ble_eq_true rfl) ?_
  refine step_store (H' := [(1, .box [_, _, _, _, _, _, _, _, _, _]), (0, .box [_, _, _, _, _, _, _, _, _, _])]) rfl rfl rfl rfl rfl rfl (Nat.le_of_ble_eq_true rfl) (.inl rfl) rfl ?_
  refine step_r rfl rfl trivial ?_
  refine step_nil ?_
  refine seqK_n ?_
  refine sem_ret ?_
  refine seqK_r ?_
  have e : healM u n = (u, 0) := by
    simp only [decide_eq_true_eq, decide_eq_false_iff_not, Bool.not_eq_true', Bool.not_eq_false', beq_iff_eq, bne_iff_ne, beq_eq_false_iff_ne, bne_eq_false_iff_eq, ne_eq, Decidable.not_not, Bool.not_eq_true, Bool.not_eq_false, ge_iff_le, gt_iff_lt, Bool.not_not, Bool.and_eq_true, Bool.or_eq_true, Bool.and_eq_false_iff, Bool.or_eq_false_iff, Int.not_lt, Int.not_le, Nat.not_lt, Nat.not_le, cond_true, cond_false] at *
    exact if_neg (fun hh => by first | exact absurd (And.intro hh.1 hh.2) (by assumption) | exact absurd (And.intro hh.1 hh.2.1) (by assumption) | omega | simp_all)
  rw [e]
  exact answersR rfl ⟨Nat.le_of_ble_eq_true rfl, trivial, trivial⟩ rfl rfl
 ·have g1 := h1
  try simp at g1
  refine sem_skip ?_
  refine seqK_n ?_
  refine sem_seq ?_
  refine sem_region rfl ?_
  refine step_r rfl rfl trivial ?_
  refine step_r rfl rfl (by decide) ?_
  refine step_r rfl rfl trivial ?_
  refine step_r rfl rfl (by decide) ?_
  refine step_r rfl rfl trivial ?_
  refine step_call rfl rfl rfl rfl (moreB_ok n u.Health u.MaxHealth) rfl rfl rfl ?_
  refine step_r rfl rfl trivial ?_
  refine step_nil ?_
  refine seqK_n ?_
  refine sem_seq ?_
  refine sem_region rfl ?_
  refine step_r rfl rfl (by decide) ?_
  refine step_r rfl rfl trivial ?_
  refine step_r rfl rfl trivial ?_
  refine step_bin rfl rfl rfl rfl rfl trivial ?_
  refine step_r rfl rfl (by decide) ?_
  refine step_store (H' := [(1, .box [_, _, _, _, _, _, _, _, _, _]), (0, .box [_, _, _, _, _, _, _, _, _, _])]) rfl rfl rfl rfl rfl rfl (Nat.le_of_ble_eq_true rfl) (.inl rfl) rfl ?_
  refine step_nil ?_
  refine seqK_n ?_
  refine sem_seq ?_
  refine sem_region rfl ?_
  refine step_r (v := (.agg [_, _, _, _, _, _, _, _, _, _])) rfl rfl (Nat.le_of_ble_eq_true rfl) ?_
  refine step_r rfl rfl trivial ?_
  refine step_store (H' := [(1, .box [_, _, _, _, _, _, _, _, _, _]), (0, .box [_, _, _, _, _, _, _, _, _, _])]) rfl rfl rfl rfl rfl rfl (Nat.le_of_ble_eq_true rfl) (.inl rfl) rfl ?_
  refine step_r rfl rfl trivial ?_
  refine step_nil ?_
  refine seqK_n ?_
  refine sem_ret ?_
  have e : healM u n = ({ u with Health := IntKind.i64.wrap (u.Health + clampM n 0 (IntKind.i64.wrap (u.MaxHealth - u.Health))) }, clampM n 0 (IntKind.i64.wrap (u.MaxHealth - u.Health))) := by
    simp only [decide_eq_true_eq, decide_eq_false_iff_not, Bool.not_eq_true', Bool.not_eq_false', beq_iff_eq, bne_iff_ne, beq_eq_false_iff_ne, bne_eq_false_iff_eq, ne_eq, Decidable.not_not, Bool.not_eq_true, Bool.not_eq_false, ge_iff_le, gt_iff_lt, Bool.not_not, Bool.and_eq_true, Bool.or_eq_true, Bool.and_eq_false_iff, Bool.or_eq_false_iff, Int.not_lt, Int.not_le, Nat.not_lt, Nat.not_le, cond_true, cond_false] at *
    exact if_pos (by first | simp [*] | (simp [*]; omega))
  rw [e]
  exact answersR rfl ⟨Nat.le_of_ble_eq_true rfl, trivial, trivial⟩ rfl rfl

theorem spend_ok (u : GUnit) (n : Int) : Ok Try.prog 48 [aGUnit u, I n] [] (outUB (spendM u n)) [] [] := by
 refine ok_of_sem Try.func48 rfl ?_
 show Walks Try.prog _ _ ⟨[(0, aGUnit u), (1, I n)], [], 0, [], 23, 0⟩
 refine sem_seq ?_
 refine sem_region rfl ?_
 refine step_n (o := .box [_, _, _, _, _, _, _, _, _, _]) (nx' := 1) rfl rfl rfl trivial ?_
 refine step_n (o := .box [_, _, _, _, _, _, _, _, _, _]) (nx' := 2) rfl rfl rfl trivial ?_
 refine step_r rfl rfl trivial ?_
 refine step_nil ?_
 refine seqK_n ?_
 refine sem_seq ?_
 refine sem_seq ?_
 refine sem_region rfl ?_
 refine step_r (v := (.agg [_, _, _, _, _, _, _, _, _, _])) rfl rfl (Nat.le_of_ble_eq_true rfl) ?_
 refine step_call rfl rfl rfl rfl (alive_ok u) rfl rfl rfl ?_
 refine step_r rfl rfl trivial ?_
 refine step_r rfl rfl trivial ?_
 refine step_gs rfl (fun h2 => ?_) (fun h2 => ?_)
 ·have g2 := h2
  try simp at g2
  refine step_g0 rfl h2 rfl ?_
  refine step_g0 rfl h2 rfl ?_
  refine step_g0 rfl h2 rfl ?_
  refine step_g0 rfl h2 rfl ?_
  refine step_g0 rfl h2 rfl ?_
  refine step_pickT rfl h2 rfl rfl ?_
  refine step_nil ?_
  refine seqK_n ?_
  refine sem_condT rfl ?_
  refine sem_seq ?_
  refine sem_region rfl ?_
  refine step_r (v := (.agg [_, _, _, _, _, _, _, _, _, _])) rfl rfl (Nat.le_of_ble_eq_true rfl) ?_
  refine step_store (H' := [(1, .box [_, _, _, _, _, _, _, _, _, _]), (0, .box [_, _, _, _, _, _, _, _, _, _])]) rfl rfl rfl rfl rfl rfl (Nat.le_of_ble_eq_true rfl) (.inl rfl) rfl ?_
  refine step_r rfl rfl trivial ?_
  refine step_nil ?_
  refine seqK_n ?_
  refine sem_ret ?_
  refine seqK_r ?_
  have e : spendM u n = (u, false) := by
    simp only [decide_eq_true_eq, decide_eq_false_iff_not, Bool.not_eq_true', Bool.not_eq_false', beq_iff_eq, bne_iff_ne, beq_eq_false_iff_ne, bne_eq_false_iff_eq, ne_eq, Decidable.not_not, Bool.not_eq_true, Bool.not_eq_false, ge_iff_le, gt_iff_lt, Bool.not_not, Bool.and_eq_true, Bool.or_eq_true, Bool.and_eq_false_iff, Bool.or_eq_false_iff, Int.not_lt, Int.not_le, Nat.not_lt, Nat.not_le, cond_true, cond_false] at *
    exact if_neg (fun hh => by first | exact absurd (And.intro hh.1 hh.2) (by assumption) | exact absurd (And.intro hh.1 hh.2.1) (by assumption) | omega | simp_all)
  rw [e]
  exact answersR rfl ⟨Nat.le_of_ble_eq_true rfl, trivial, trivial⟩ rfl rfl
 ·have g2 := h2
  try simp at g2
  refine step_g1 rfl h2 ?_
  refine step_r rfl rfl trivial ?_
  refine step_g1 rfl h2 ?_
  refine step_r rfl rfl (by decide) ?_
  refine step_g1 rfl h2 ?_
  refine step_r rfl rfl trivial ?_
  refine step_g1 rfl h2 ?_
  refine step_call rfl rfl rfl rfl (within_ok n 0 u.Power) rfl rfl rfl ?_
  refine step_g1 rfl h2 ?_
  refine step_r rfl rfl trivial ?_
  refine step_pickF rfl h2 rfl rfl ?_
  refine step_nil ?_
  refine seqK_n ?_
  refine sem_cond rfl (fun h5 => ?_) (fun h5 => ?_)
  ·have g5 := h5
   try simp at g5
   refine sem_seq ?_
   refine sem_region rfl ?_
   refine step_r (v := (.agg [_, _, _, _, _, _, _, _, _, _])) rfl rfl (Nat.le_of_ble_eq_true rfl) ?_
   refine step_store (H' := [(1, .box [_, _, _, _, _, _, _, _, _, _]), (0, .box [_, _, _, _, _, _, _, _, _, _])]) rfl rfl rfl rfl rfl rfl (Nat.le_of_ble_eq_true rfl) (.inl rfl) rfl ?_
   refine step_r rfl rfl trivial ?_
   refine step_nil ?_
   refine seqK_n ?_
   refine sem_ret ?_
   refine seqK_r ?_
   have e : spendM u n = (u, false) := by
     simp only [decide_eq_true_eq, decide_eq_false_iff_not, Bool.not_eq_true', Bool.not_eq_false', beq_iff_eq, bne_iff_ne, beq_eq_false_iff_ne, bne_eq_false_iff_eq, ne_eq, Decidable.not_not, Bool.not_eq_true, Bool.not_eq_false, ge_iff_le, gt_iff_lt, Bool.not_not, Bool.and_eq_true, Bool.or_eq_true, Bool.and_eq_false_iff, Bool.or_eq_false_iff, Int.not_lt, Int.not_le, Nat.not_lt, Nat.not_le, cond_true, cond_false] at *
     exact if_neg (fun hh => by first | exact absurd (And.intro hh.1 hh.2) (by assumption) | exact absurd (And.intro hh.1 hh.2.1) (by assumption) | omega | simp_all)
   rw [e]
   exact answersR rfl ⟨Nat.le_of_ble_eq_true rfl, trivial, trivial⟩ rfl rfl
  ·have g5 := h5
   try simp at g5
   refine sem_skip ?_
   refine seqK_n ?_
   refine sem_seq ?_
   refine sem_region rfl ?_
   refine step_r rfl rfl (by decide) ?_
   refine step_r rfl rfl trivial ?_
   refine step_r rfl rfl trivial ?_
   refine step_bin rfl rfl rfl rfl rfl trivial ?_
   refine step_r rfl rfl (by decide) ?_
   refine step_store (H' := [(1, .box [_, _, _, _, _, _, _, _, _, _]), (0, .box [_, _, _, _, _, _, _, _, _, _])]) rfl rfl rfl rfl rfl rfl (Nat.le_of_ble_eq_true rfl) (.inl rfl) rfl ?_
   refine step_nil ?_
   refine seqK_n ?_
   refine sem_seq ?_
   refine sem_region rfl ?_
   refine step_r (v := (.agg [_, _, _, _, _, _, _, _, _, _])) rfl rfl (Nat.le_of_ble_eq_true rfl) ?_
   refine step_store (H' := [(1, .box [_, _, _, _, _, _, _, _, _, _]), (0, .box [_, _, _, _, _, _, _, _, _, _])]) rfl rfl rfl rfl rfl rfl (Nat.le_of_ble_eq_true rfl) (.inl rfl) rfl ?_
   refine step_r rfl rfl trivial ?_
   refine step_nil ?_
   refine seqK_n ?_
   refine sem_ret ?_
   have e : spendM u n = ({ u with Power := IntKind.i64.wrap (u.Power - n) }, true) := by
     simp only [decide_eq_true_eq, decide_eq_false_iff_not, Bool.not_eq_true', Bool.not_eq_false', beq_iff_eq, bne_iff_ne, beq_eq_false_iff_ne, bne_eq_false_iff_eq, ne_eq, Decidable.not_not, Bool.not_eq_true, Bool.not_eq_false, ge_iff_le, gt_iff_lt, Bool.not_not, Bool.and_eq_true, Bool.or_eq_true, Bool.and_eq_false_iff, Bool.or_eq_false_iff, Int.not_lt, Int.not_le, Nat.not_lt, Nat.not_le, cond_true, cond_false] at *
     exact if_pos (by first | simp [*] | (simp [*]; omega))
   rw [e]
   exact answersR rfl ⟨Nat.le_of_ble_eq_true rfl, trivial, trivial⟩ rfl rfl

theorem raise_ok (u : GUnit) : Ok Try.prog 49 [aGUnit u] [] (outUB (raiseM u)) [] [] := by
 refine ok_of_sem Try.func49 rfl ?_
 show Walks Try.prog _ _ ⟨[(0, aGUnit u)], [], 0, [], 19, 0⟩
 refine sem_seq ?_
 refine sem_region rfl ?_
 refine step_n (o := .box [_, _, _, _, _, _, _, _, _, _]) (nx' := 1) rfl rfl rfl trivial ?_
 refine step_n (o := .box [_, _, _, _, _, _, _, _, _, _]) (nx' := 2) rfl rfl rfl trivial ?_
 refine step_r rfl rfl trivial ?_
 refine step_nil ?_
 refine seqK_n ?_
 refine sem_seq ?_
 refine sem_seq ?_
 refine sem_region rfl ?_
 refine step_r (v := (.agg [_, _, _, _, _, _, _, _, _, _])) rfl rfl (Nat.le_of_ble_eq_true rfl) ?_
 refine step_call rfl rfl rfl rfl (right_ok u) rfl rfl rfl ?_
 refine step_r rfl rfl trivial ?_
 refine step_r rfl rfl trivial ?_
 refine step_gs rfl (fun h2 => ?_) (fun h2 => ?_)
 ·have g2 := h2
  try simp at g2
  refine step_g0 rfl h2 rfl ?_
  refine step_g0 rfl h2 rfl ?_
  refine step_g0 rfl h2 rfl ?_
  refine step_pickT rfl h2 rfl rfl ?_
  refine step_nil ?_
  refine seqK_n ?_
  refine sem_condT rfl ?_
  refine sem_seq ?_
  refine sem_region rfl ?_
  refine step_r (v := (.agg [_, _, _, _, _, _, _, _, _, _])) rfl rfl (Nat.le_of_ble_eq_true rfl) ?_
  refine step_store (H' := [(1, .box [_, _, _, _, _, _, _, _, _, _]), (0, .box [_, _, _, _, _, _, _, _, _, _])]) rfl rfl rfl rfl rfl rfl (Nat.le_of_ble_eq_true rfl) (.inl rfl) rfl ?_
  refine step_r rfl rfl trivial ?_
  refine step_nil ?_
  refine seqK_n ?_
  refine sem_ret ?_
  refine seqK_r ?_
  have e : raiseM u = (u, false) := by
    simp only [decide_eq_true_eq, decide_eq_false_iff_not, Bool.not_eq_true', Bool.not_eq_false', beq_iff_eq, bne_iff_ne, beq_eq_false_iff_ne, bne_eq_false_iff_eq, ne_eq, Decidable.not_not, Bool.not_eq_true, Bool.not_eq_false, ge_iff_le, gt_iff_lt, Bool.not_not, Bool.and_eq_true, Bool.or_eq_true, Bool.and_eq_false_iff, Bool.or_eq_false_iff, Int.not_lt, Int.not_le, Nat.not_lt, Nat.not_le, cond_true, cond_false] at *
    exact if_neg (fun hh => by first | exact absurd (And.intro hh.1 hh.2) (by assumption) | exact absurd (And.intro hh.1 hh.2.1) (by assumption) | omega | simp_all)
  rw [e]
  exact answersR rfl ⟨Nat.le_of_ble_eq_true rfl, trivial, trivial⟩ rfl rfl
 ·have g2 := h2
  try simp at g2
  refine step_g1 rfl h2 ?_
  refine step_r (v := (.agg [_, _, _, _, _, _, _, _, _, _])) rfl rfl (Nat.le_of_ble_eq_true rfl) ?_
  refine step_g1 rfl h2 ?_
  refine step_call rfl rfl rfl rfl (dead_ok u) rfl rfl rfl ?_
  refine step_g1 rfl h2 ?_
  refine step_r rfl rfl trivial ?_
  refine step_pickF rfl h2 rfl rfl ?_
  refine step_nil ?_
  refine seqK_n ?_
  refine sem_cond rfl (fun h4 => ?_) (fun h4 => ?_)
  ·have g4 := h4
   try simp at g4
   refine sem_seq ?_
   refine sem_region rfl ?_
   refine step_r (v := (.agg [_, _, _, _, _, _, _, _, _, _])) rfl rfl (Nat.le_of_ble_eq_true rfl) ?_
   refine step_store (H' := [(1, .box [_, _, _, _, _, _, _, _, _, _]), (0, .box [_, _, _, _, _, _, _, _, _, _])]) rfl rfl rfl rfl rfl rfl (Nat.le_of_ble_eq_true rfl) (.inl rfl) rfl ?_
   refine step_r rfl rfl trivial ?_
   refine step_nil ?_
   refine seqK_n ?_
   refine sem_ret ?_
   refine seqK_r ?_
   have e : raiseM u = (u, false) := by
     simp only [decide_eq_true_eq, decide_eq_false_iff_not, Bool.not_eq_true', Bool.not_eq_false', beq_iff_eq, bne_iff_ne, beq_eq_false_iff_ne, bne_eq_false_iff_eq, ne_eq, Decidable.not_not, Bool.not_eq_true, Bool.not_eq_false, ge_iff_le, gt_iff_lt, Bool.not_not, Bool.and_eq_true, Bool.or_eq_true, Bool.and_eq_false_iff, Bool.or_eq_false_iff, Int.not_lt, Int.not_le, Nat.not_lt, Nat.not_le, cond_true, cond_false] at *
     exact if_neg (fun hh => by first | exact absurd (And.intro hh.1 hh.2) (by assumption) | exact absurd (And.intro hh.1 hh.2.1) (by assumption) | omega | simp_all)
   rw [e]
   exact answersR rfl ⟨Nat.le_of_ble_eq_true rfl, trivial, trivial⟩ rfl rfl
  ·have g4 := h4
   try simp at g4
   refine sem_skip ?_
   refine seqK_n ?_
   refine sem_seq ?_
   refine sem_region rfl ?_
   refine step_r rfl rfl (by decide) ?_
   refine step_r rfl rfl trivial ?_
   refine step_call rfl rfl rfl rfl (part_ok u.MaxHealth 1 2) rfl rfl rfl ?_
   refine step_max rfl rfl rfl ?_
   refine step_r rfl rfl (by decide) ?_
   refine step_store (H' := [(1, .box [_, _, _, _, _, _, _, _, _, _]), (0, .box [_, _, _, _, _, _, _, _, _, _])]) rfl rfl rfl rfl rfl rfl (Nat.le_of_ble_eq_true rfl) (.inl rfl) rfl ?_
   refine step_nil ?_
   refine seqK_n ?_
   refine sem_seq ?_
   refine sem_region rfl ?_
   refine step_r (v := (.agg [_, _, _, _, _, _, _, _, _, _])) rfl rfl (Nat.le_of_ble_eq_true rfl) ?_
   refine step_store (H' := [(1, .box [_, _, _, _, _, _, _, _, _, _]), (0, .box [_, _, _, _, _, _, _, _, _, _])]) rfl rfl rfl rfl rfl rfl (Nat.le_of_ble_eq_true rfl) (.inl rfl) rfl ?_
   refine step_r rfl rfl trivial ?_
   refine step_nil ?_
   refine seqK_n ?_
   refine sem_ret ?_
   have e : raiseM u = ({ u with Health := max (partM u.MaxHealth 1 2) 1 }, true) := by
     simp only [decide_eq_true_eq, decide_eq_false_iff_not, Bool.not_eq_true', Bool.not_eq_false', beq_iff_eq, bne_iff_ne, beq_eq_false_iff_ne, bne_eq_false_iff_eq, ne_eq, Decidable.not_not, Bool.not_eq_true, Bool.not_eq_false, ge_iff_le, gt_iff_lt, Bool.not_not, Bool.and_eq_true, Bool.or_eq_true, Bool.and_eq_false_iff, Bool.or_eq_false_iff, Int.not_lt, Int.not_le, Nat.not_lt, Nat.not_le, cond_true, cond_false] at *
     exact if_pos (by first | simp [*] | (simp [*]; omega))
   rw [e]
   exact answersR rfl ⟨Nat.le_of_ble_eq_true rfl, trivial, trivial⟩ rfl rfl
end Go.Proofs.Ytgopngmofcohnaa

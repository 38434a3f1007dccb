import Derived.Test.YtmijbjpdjggppaaSl
namespace Go.Proofs.Ytmijbjpdjggppaa
open Go Go.RowKit Go.Proofs.YtmijbjpdjggppaaVm
attribute [local irreducible] opsWp AnswersE OpsS
set_option maxHeartbeats 400000
set_option maxRecDepth 100000
set_option linter.all false
structure GPos where
  (X : Int)
  (Y : Int)
  deriving DecidableEq, Inhabited
def encGPos (x : GPos) : List PV := [i64 x.X, i64 x.Y]
abbrev aGPos (x : GPos) : AV := .agg [I x.X, I x.Y]
def wfGPos (x : GPos) : Prop := (InR x.X) ∧ (InR x.Y)
theorem encGPos_solid {l : List GPos} : ∀ p ∈ l.flatMap encGPos, solidP p = true := flat_solid (fun x p h => by simp only [encGPos, List.mem_cons, List.mem_nil_iff, or_false] at h; rcases h with rfl | rfl <;> rfl)

structure GUnit where
  (Id : Int)
  (Kind : Int)
  (Group : Int)
  (Health : Int)
  (MaxHealth : Int)
  (Power : Int)
  (MaxPower : Int)
  (At : GPos)
  (Casting : Int)
  deriving DecidableEq, Inhabited
def encGUnit (x : GUnit) : List PV := [i64 x.Id, i64 x.Kind, i64 x.Group, i64 x.Health, i64 x.MaxHealth, i64 x.Power, i64 x.MaxPower, i64 x.At.X, i64 x.At.Y, i64 x.Casting]
abbrev aGUnit (x : GUnit) : AV := .agg [I x.Id, I x.Kind, I x.Group, I x.Health, I x.MaxHealth, I x.Power, I x.MaxPower, I x.At.X, I x.At.Y, I x.Casting]
def wfGUnit (x : GUnit) : Prop := (InR x.Id) ∧ (InR x.Kind) ∧ (InR x.Group) ∧ (InR x.Health) ∧ (InR x.MaxHealth) ∧ (InR x.Power) ∧ (InR x.MaxPower) ∧ (wfGPos x.At) ∧ (InR x.Casting)
theorem encGUnit_solid {l : List GUnit} : ∀ p ∈ l.flatMap encGUnit, solidP p = true := flat_solid (fun x p h => by simp only [encGUnit, List.mem_cons, List.mem_nil_iff, or_false] at h; rcases h with rfl | rfl | rfl | rfl | rfl | rfl | rfl | rfl | rfl | rfl <;> rfl)

def Right (u : GUnit) : Prop := 1 ≤ u.Id ∧ (u.Kind = 1 ∨ u.Kind = 2) ∧ 0 ≤ u.Group ∧ u.Group ≤ 8 ∧ 0 ≤ u.Casting ∧ 1 ≤ u.MaxHealth ∧ u.MaxHealth ≤ 1000000 ∧ 0 ≤ u.MaxPower ∧ u.MaxPower ≤ 1000000 ∧ 0 ≤ u.Health ∧ u.Health ≤ u.MaxHealth ∧ 0 ≤ u.Power ∧ u.Power ≤ u.MaxPower
instance (u : GUnit) : Decidable (Right u) := by unfold Right; infer_instance
def hurtM (u : GUnit) (n : Int) : GUnit × Int := if Right u then
    let k := clampM n 0 u.Health
    let h := IntKind.i64.wrap (u.Health - k)
    ({ u with Health := h, Casting := if h < 1 then 0 else u.Casting }, k) else (u, 0)
def healM (u : GUnit) (n : Int) : GUnit × Int := if Right u ∧ ¬ u.Health < 1 then
    let k := clampM n 0 (IntKind.i64.wrap (u.MaxHealth - u.Health))
    ({ u with Health := IntKind.i64.wrap (u.Health + k) }, k) else (u, 0)
def gainM (u : GUnit) (n : Int) : GUnit × Int := if Right u ∧ ¬ u.Health < 1 then
    let k := clampM n 0 (IntKind.i64.wrap (u.MaxPower - u.Power))
    ({ u with Power := IntKind.i64.wrap (u.Power + k) }, k) else (u, 0)
def spendM (u : GUnit) (n : Int) : GUnit × Bool := if Right u ∧ ¬ u.Health < 1 ∧ 0 ≤ n ∧ n ≤ u.Power then
    ({ u with Power := IntKind.i64.wrap (u.Power - n) }, true) else (u, false)
def raiseM (u : GUnit) : GUnit × Bool := if Right u ∧ u.Health < 1 then
    ({ u with Health := max (partM u.MaxHealth 1 2) 1 }, true) else (u, false)
abbrev outUI (r : GUnit × Int) : AV := .tup [aGUnit r.1, I r.2]
abbrev outUB (r : GUnit × Bool) : AV := .tup [aGUnit r.1, B r.2]


theorem within_ok (n : Int) (a : Int) (b : Int) : Ok Try.prog 49 [I n, I a, I b] [] (B (decide (a ≤ n ∧ n ≤ b))) [] [] := by
 refine ok_of_sem Try.func49 rfl ?_
 show Walks Try.prog _ _ ⟨[(0, I n), (1, I a), (2, I b)], [], 0, [], 15, 0⟩
 refine sem_seq (sem_region rfl (step_r rfl rfl trivial (step_nil (seqK_n (sem_seq (sem_region rfl (step_r rfl rfl trivial (step_r rfl rfl trivial (step_bin rfl rfl rfl rfl rfl trivial (step_r rfl rfl trivial ?_))))))))))
 refine step_gs rfl (fun h4 => ?_) (fun h4 => ?_)
 ·have g4 := h4
  try simp at g4
  refine step_g1 rfl h4 (step_r rfl rfl trivial (step_g1 rfl h4 (step_r rfl rfl trivial (step_g1 rfl h4 (step_bin rfl rfl rfl rfl rfl trivial (step_pickT rfl h4 rfl rfl (step_r rfl rfl trivial (step_nil (seqK_n (sem_ret ?_))))))))))
  refine answersR (vs := [_]) rfl ⟨trivial, trivial⟩ (congrArg B ?_) rfl
  first
   | rfl
   | (exfalso; omega)
   | (simp [g4]; done)
   | (rw [Bool.eq_iff_iff]; simp [g4]; done)
   | (rw [Bool.eq_iff_iff]; simp [g4]; omega)
   | grind []
 ·have g4 := h4
  try simp at g4
  refine step_g0 rfl h4 rfl (step_g0 rfl h4 rfl (step_g0 rfl h4 rfl (step_pickF rfl h4 rfl rfl (step_r rfl rfl trivial (step_nil (seqK_n (sem_ret ?_)))))))
  refine answersR (vs := [_]) rfl ⟨trivial, trivial⟩ (congrArg B ?_) rfl
  first
   | rfl
   | (exfalso; omega)
   | (simp [g4]; done)
   | (rw [Bool.eq_iff_iff]; simp [g4]; done)
   | (rw [Bool.eq_iff_iff]; simp [g4]; omega)
   | grind []

theorem right_ok (u : GUnit) : Ok Try.prog 30 [aGUnit u] [] (B (decide (Right u))) [] [] := by
 refine ok_of_sem Try.func30 rfl ?_
 show Walks Try.prog _ _ ⟨[(0, aGUnit u)], [], 0, [], 43, 0⟩
 refine sem_seq (sem_region rfl (step_n (o := .box [_, _, _, _, _, _, _, _, _, _]) (nx' := 1) rfl rfl rfl trivial (step_r rfl rfl trivial (step_nil (seqK_n (sem_seq (sem_block (sem_seq (sem_seq (sem_region rfl (step_r rfl rfl (by decide) ?_)))))))))))
 refine step_r rfl rfl trivial (step_bin rfl rfl rfl rfl rfl trivial (step_r rfl rfl trivial (step_nil (seqK_n ?_))))
 refine sem_cond rfl (fun h2 => ?_) (fun h2 => ?_)
 ·have g2 := h2
  try simp at g2
  refine sem_skip (seqK_n (sem_condh1 rfl h2 (sem_seq (sem_region rfl (step_r rfl rfl trivial (step_nil (seqK_n (sem_ret (blkK_r (seqK_r ?_))))))))))
  refine answersR (vs := [_]) rfl ⟨trivial, trivial⟩ (congrArg B ?_) rfl
  first
   | rfl
   | (exfalso; omega)
   | (simp [Right, g2]; done)
   | (rw [Bool.eq_iff_iff]; simp [Right, g2]; done)
   | (rw [Bool.eq_iff_iff]; simp [Right, g2]; omega)
   | grind [Right]
 ·have g2 := h2
  try simp at g2
  refine sem_seq (sem_region rfl (step_r rfl rfl (by decide) (step_r rfl rfl trivial (step_bin rfl rfl rfl rfl rfl trivial (step_r rfl rfl trivial ?_)))))
  refine step_gs rfl (fun h4 => ?_) (fun h4 => ?_)
  ·have g4 := h4
   try simp at g4
   refine step_g1 rfl h4 (step_r rfl rfl (by decide) (step_g1 rfl h4 (step_r rfl rfl trivial (step_g1 rfl h4 (step_bin rfl rfl rfl rfl rfl trivial (step_pickT rfl h4 rfl rfl (step_r rfl rfl trivial (step_nil (seqK_n ?_)))))))))
   refine sem_cond rfl (fun h6 => ?_) (fun h6 => ?_)
   ·have g6 := h6
    try simp at g6
    refine sem_skip (seqK_n (sem_condh1 rfl h6 (sem_seq (sem_region rfl (step_r rfl rfl trivial (step_nil (seqK_n (sem_ret (blkK_r (seqK_r ?_))))))))))
    refine answersR (vs := [_]) rfl ⟨trivial, trivial⟩ (congrArg B ?_) rfl
    first
     | rfl
     | (exfalso; omega)
     | (simp [Right, g2, g4, g6]; done)
     | (rw [Bool.eq_iff_iff]; simp [Right, g2, g4, g6]; done)
     | (rw [Bool.eq_iff_iff]; simp [Right, g2, g4, g6]; omega)
     | grind [Right]
   ·have g6 := h6
    try simp at g6
    refine sem_seq (sem_region rfl (step_r rfl rfl (by decide) (step_r rfl rfl trivial (step_call rfl rfl rfl rfl (within_ok u.Group 0 8) rfl rfl rfl (step_r rfl rfl trivial (step_r rfl rfl trivial (step_nil (seqK_n ?_))))))))
    refine sem_cond rfl (fun h8 => ?_) (fun h8 => ?_)
    ·have g8 := h8
     try simp at g8
     refine sem_skip (seqK_n (sem_condh1 rfl h8 (sem_seq (sem_region rfl (step_r rfl rfl trivial (step_nil (seqK_n (sem_ret (blkK_r (seqK_r ?_))))))))))
     refine answersR (vs := [_]) rfl ⟨trivial, trivial⟩ (congrArg B ?_) rfl
     first
      | rfl
      | (exfalso; omega)
      | (simp [Right, g2, g4, g6, g8]; done)
      | (rw [Bool.eq_iff_iff]; simp [Right, g2, g4, g6, g8]; done)
      | (rw [Bool.eq_iff_iff]; simp [Right, g2, g4, g6, g8]; omega)
      | grind [Right]
    ·have g8 := h8
     try simp at g8
     refine sem_region rfl (step_r rfl rfl (by decide) (step_r rfl rfl trivial (step_bin rfl rfl rfl rfl rfl trivial (step_r rfl rfl trivial (step_nil (seqK_n ?_))))))
     refine sem_cond rfl (fun h10 => ?_) (fun h10 => ?_)
     ·have g10 := h10
      try simp at g10
      refine sem_seq (sem_region rfl (step_r rfl rfl trivial (step_nil (seqK_n (sem_ret (blkK_r (seqK_r ?_)))))))
      refine answersR (vs := [_]) rfl ⟨trivial, trivial⟩ (congrArg B ?_) rfl
      first
       | rfl
       | (exfalso; omega)
       | (simp [Right, g2, g4, g6, g8, g10]; done)
       | (rw [Bool.eq_iff_iff]; simp [Right, g2, g4, g6, g8, g10]; done)
       | (rw [Bool.eq_iff_iff]; simp [Right, g2, g4, g6, g8, g10]; omega)
       | grind [Right]
     ·have g10 := h10
      try simp at g10
      refine sem_seq (sem_seq (sem_region rfl (step_r rfl rfl (by decide) (step_r rfl rfl trivial (step_call rfl rfl rfl rfl (within_ok u.MaxHealth 1 1000000) rfl rfl rfl (step_r rfl rfl trivial (step_r rfl rfl trivial (step_nil (seqK_n ?_)))))))))
      refine sem_cond rfl (fun h12 => ?_) (fun h12 => ?_)
      ·have g12 := h12
       try simp at g12
       refine sem_skip (seqK_n (sem_condh1 rfl h12 (sem_seq (sem_region rfl (step_r rfl rfl trivial (step_nil (seqK_n (sem_ret (blkK_r (seqK_r ?_))))))))))
       refine answersR (vs := [_]) rfl ⟨trivial, trivial⟩ (congrArg B ?_) rfl
       first
        | rfl
        | (exfalso; omega)
        | (simp [Right, g2, g4, g6, g8, g10, g12]; done)
        | (rw [Bool.eq_iff_iff]; simp [Right, g2, g4, g6, g8, g10, g12]; done)
        | (rw [Bool.eq_iff_iff]; simp [Right, g2, g4, g6, g8, g10, g12]; omega)
        | grind [Right]
      ·have g12 := h12
       try simp at g12
       refine sem_region rfl (step_r rfl rfl (by decide) (step_r rfl rfl trivial (step_call rfl rfl rfl rfl (within_ok u.MaxPower 0 1000000) rfl rfl rfl (step_r rfl rfl trivial (step_r rfl rfl trivial (step_nil (seqK_n ?_)))))))
       refine sem_cond rfl (fun h14 => ?_) (fun h14 => ?_)
       ·have g14 := h14
        try simp at g14
        refine sem_seq (sem_region rfl (step_r rfl rfl trivial (step_nil (seqK_n (sem_ret (blkK_r (seqK_r ?_)))))))
        refine answersR (vs := [_]) rfl ⟨trivial, trivial⟩ (congrArg B ?_) rfl
        first
         | rfl
         | (exfalso; omega)
         | (simp [Right, g2, g4, g6, g8, g10, g12, g14]; done)
         | (rw [Bool.eq_iff_iff]; simp [Right, g2, g4, g6, g8, g10, g12, g14]; done)
         | (rw [Bool.eq_iff_iff]; simp [Right, g2, g4, g6, g8, g10, g12, g14]; omega)
         | grind [Right]
       ·have g14 := h14
        try simp at g14
        refine sem_skip (blkK_n (seqK_n (sem_seq (sem_region rfl (step_r rfl rfl (by decide) (step_r rfl rfl trivial (step_r rfl rfl (by decide) (step_r rfl rfl trivial (step_call rfl rfl rfl rfl (within_ok u.Health 0 u.MaxHealth) rfl rfl rfl (step_r rfl rfl trivial ?_))))))))))
        refine step_gs rfl (fun h16 => ?_) (fun h16 => ?_)
        ·have g16 := h16
         try simp at g16
         refine step_g1 rfl h16 (step_r rfl rfl (by decide) (step_g1 rfl h16 (step_r rfl rfl trivial (step_g1 rfl h16 (step_r rfl rfl (by decide) (step_g1 rfl h16 (step_r rfl rfl trivial (step_g1 rfl h16 (step_call rfl rfl rfl rfl (within_ok u.Power 0 u.MaxPower) rfl rfl rfl (step_pickT rfl h16 rfl rfl (step_r rfl rfl trivial ?_)))))))))))
         refine step_nil (seqK_n (sem_ret ?_))
         refine answersR (vs := [_]) rfl ⟨trivial, trivial⟩ (congrArg B ?_) rfl
         first
          | rfl
          | (exfalso; omega)
          | (simp [Right, g2, g4, g6, g8, g10, g12, g14, g16]; done)
          | (rw [Bool.eq_iff_iff]; simp [Right, g2, g4, g6, g8, g10, g12, g14, g16]; done)
          | (rw [Bool.eq_iff_iff]; simp [Right, g2, g4, g6, g8, g10, g12, g14, g16]; omega)
          | grind [Right]
        ·have g16 := h16
         try simp at g16
         refine step_g0 rfl h16 rfl (step_g0 rfl h16 rfl (step_g0 rfl h16 rfl (step_g0 rfl h16 rfl (step_g0 rfl h16 rfl (step_pickF rfl h16 rfl rfl (step_r rfl rfl trivial (step_nil (seqK_n (sem_ret ?_)))))))))
         refine answersR (vs := [_]) rfl ⟨trivial, trivial⟩ (congrArg B ?_) rfl
         first
          | rfl
          | (exfalso; omega)
          | (simp [Right, g2, g4, g6, g8, g10, g12, g14, g16]; done)
          | (rw [Bool.eq_iff_iff]; simp [Right, g2, g4, g6, g8, g10, g12, g14, g16]; done)
          | (rw [Bool.eq_iff_iff]; simp [Right, g2, g4, g6, g8, g10, g12, g14, g16]; omega)
          | grind [Right]
  ·have g4 := h4
   try simp at g4
   refine step_g0 rfl h4 rfl (step_g0 rfl h4 rfl (step_g0 rfl h4 rfl (step_pickF rfl h4 rfl rfl (step_r rfl rfl trivial (step_nil (seqK_n (sem_condF rfl (sem_seq (sem_region rfl (step_r rfl rfl (by decide) (step_r rfl rfl trivial ?_)))))))))))
   refine step_call rfl rfl rfl rfl (within_ok u.Group 0 8) rfl rfl rfl (step_r rfl rfl trivial (step_r rfl rfl trivial (step_nil (seqK_n ?_))))
   refine sem_cond rfl (fun h19 => ?_) (fun h19 => ?_)
   ·have g19 := h19
    try simp at g19
    refine sem_skip (seqK_n (sem_condh1 rfl h19 (sem_seq (sem_region rfl (step_r rfl rfl trivial (step_nil (seqK_n (sem_ret (blkK_r (seqK_r ?_))))))))))
    refine answersR (vs := [_]) rfl ⟨trivial, trivial⟩ (congrArg B ?_) rfl
    first
     | rfl
     | (exfalso; omega)
     | (simp [Right, g2, g4, g19]; done)
     | (rw [Bool.eq_iff_iff]; simp [Right, g2, g4, g19]; done)
     | (rw [Bool.eq_iff_iff]; simp [Right, g2, g4, g19]; omega)
     | grind [Right]
   ·have g19 := h19
    try simp at g19
    refine sem_region rfl (step_r rfl rfl (by decide) (step_r rfl rfl trivial (step_bin rfl rfl rfl rfl rfl trivial (step_r rfl rfl trivial (step_nil (seqK_n ?_))))))
    refine sem_cond rfl (fun h21 => ?_) (fun h21 => ?_)
    ·have g21 := h21
     try simp at g21
     refine sem_seq (sem_region rfl (step_r rfl rfl trivial (step_nil (seqK_n (sem_ret (blkK_r (seqK_r ?_)))))))
     refine answersR (vs := [_]) rfl ⟨trivial, trivial⟩ (congrArg B ?_) rfl
     first
      | rfl
      | (exfalso; omega)
      | (simp [Right, g2, g4, g19, g21]; done)
      | (rw [Bool.eq_iff_iff]; simp [Right, g2, g4, g19, g21]; done)
      | (rw [Bool.eq_iff_iff]; simp [Right, g2, g4, g19, g21]; omega)
      | grind [Right]
    ·have g21 := h21
     try simp at g21
     refine sem_seq (sem_seq (sem_region rfl (step_r rfl rfl (by decide) (step_r rfl rfl trivial (step_call rfl rfl rfl rfl (within_ok u.MaxHealth 1 1000000) rfl rfl rfl (step_r rfl rfl trivial (step_r rfl rfl trivial (step_nil (seqK_n ?_)))))))))
     refine sem_cond rfl (fun h23 => ?_) (fun h23 => ?_)
     ·have g23 := h23
      try simp at g23
      refine sem_skip (seqK_n (sem_condh1 rfl h23 (sem_seq (sem_region rfl (step_r rfl rfl trivial (step_nil (seqK_n (sem_ret (blkK_r (seqK_r ?_))))))))))
      refine answersR (vs := [_]) rfl ⟨trivial, trivial⟩ (congrArg B ?_) rfl
      first
       | rfl
       | (exfalso; omega)
       | (simp [Right, g2, g4, g19, g21, g23]; done)
       | (rw [Bool.eq_iff_iff]; simp [Right, g2, g4, g19, g21, g23]; done)
       | (rw [Bool.eq_iff_iff]; simp [Right, g2, g4, g19, g21, g23]; omega)
       | grind [Right]
     ·have g23 := h23
      try simp at g23
      refine sem_region rfl (step_r rfl rfl (by decide) (step_r rfl rfl trivial (step_call rfl rfl rfl rfl (within_ok u.MaxPower 0 1000000) rfl rfl rfl (step_r rfl rfl trivial (step_r rfl rfl trivial (step_nil (seqK_n ?_)))))))
      refine sem_cond rfl (fun h25 => ?_) (fun h25 => ?_)
      ·have g25 := h25
       try simp at g25
       refine sem_seq (sem_region rfl (step_r rfl rfl trivial (step_nil (seqK_n (sem_ret (blkK_r (seqK_r ?_)))))))
       refine answersR (vs := [_]) rfl ⟨trivial, trivial⟩ (congrArg B ?_) rfl
       first
        | rfl
        | (exfalso; omega)
        | (simp [Right, g2, g4, g19, g21, g23, g25]; done)
        | (rw [Bool.eq_iff_iff]; simp [Right, g2, g4, g19, g21, g23, g25]; done)
        | (rw [Bool.eq_iff_iff]; simp [Right, g2, g4, g19, g21, g23, g25]; omega)
        | grind [Right]
      ·have g25 := h25
       try simp at g25
       refine sem_skip (blkK_n (seqK_n (sem_seq (sem_region rfl (step_r rfl rfl (by decide) (step_r rfl rfl trivial (step_r rfl rfl (by decide) (step_r rfl rfl trivial (step_call rfl rfl rfl rfl (within_ok u.Health 0 u.MaxHealth) rfl rfl rfl (step_r rfl rfl trivial ?_))))))))))
       refine step_gs rfl (fun h27 => ?_) (fun h27 => ?_)
       ·have g27 := h27
        try simp at g27
        refine step_g1 rfl h27 (step_r rfl rfl (by decide) (step_g1 rfl h27 (step_r rfl rfl trivial (step_g1 rfl h27 (step_r rfl rfl (by decide) (step_g1 rfl h27 (step_r rfl rfl trivial (step_g1 rfl h27 (step_call rfl rfl rfl rfl (within_ok u.Power 0 u.MaxPower) rfl rfl rfl (step_pickT rfl h27 rfl rfl (step_r rfl rfl trivial ?_)))))))))))
        refine step_nil (seqK_n (sem_ret ?_))
        refine answersR (vs := [_]) rfl ⟨trivial, trivial⟩ (congrArg B ?_) rfl
        first
         | rfl
         | (exfalso; omega)
         | (simp [Right, g2, g4, g19, g21, g23, g25, g27]; done)
         | (rw [Bool.eq_iff_iff]; simp [Right, g2, g4, g19, g21, g23, g25, g27]; done)
         | (rw [Bool.eq_iff_iff]; simp [Right, g2, g4, g19, g21, g23, g25, g27]; omega)
         | grind [Right]
       ·have g27 := h27
        try simp at g27
        refine step_g0 rfl h27 rfl (step_g0 rfl h27 rfl (step_g0 rfl h27 rfl (step_g0 rfl h27 rfl (step_g0 rfl h27 rfl (step_pickF rfl h27 rfl rfl (step_r rfl rfl trivial (step_nil (seqK_n (sem_ret ?_)))))))))
        refine answersR (vs := [_]) rfl ⟨trivial, trivial⟩ (congrArg B ?_) rfl
        first
         | rfl
         | (exfalso; omega)
         | (simp [Right, g2, g4, g19, g21, g23, g25, g27]; done)
         | (rw [Bool.eq_iff_iff]; simp [Right, g2, g4, g19, g21, g23, g25, g27]; done)
         | (rw [Bool.eq_iff_iff]; simp [Right, g2, g4, g19, g21, g23, g25, g27]; omega)
         | grind [Right]

theorem dead_ok (u : GUnit) : Ok Try.prog 16 [aGUnit u] [] (B (decide (u.Health < 1))) [] [] := by
 refine ok_of_sem Try.func16 rfl ?_
 show Walks Try.prog _ _ ⟨[(0, aGUnit u)], [], 0, [], 6, 0⟩
 refine sem_seq (sem_region rfl (step_n (o := .box [_, _, _, _, _, _, _, _, _, _]) (nx' := 1) rfl rfl rfl trivial (step_r rfl rfl trivial (step_nil (seqK_n (sem_seq (sem_region rfl (step_r rfl rfl (by decide) (step_r rfl rfl trivial (step_bin rfl rfl rfl rfl rfl trivial (step_r rfl rfl trivial ?_)))))))))))
 refine step_nil (seqK_n (sem_ret ?_))
 exact answersR rfl ⟨trivial, trivial⟩ (rfl) rfl

theorem alive_ok (u : GUnit) : Ok Try.prog 64 [aGUnit u] [] (B (decide (Right u ∧ ¬ u.Health < 1))) [] [] := by
 refine ok_of_sem Try.func64 rfl ?_
 show Walks Try.prog _ _ ⟨[(0, aGUnit u)], [], 0, [], 10, 0⟩
 refine sem_seq (sem_region rfl (step_n (o := .box [_, _, _, _, _, _, _, _, _, _]) (nx' := 1) rfl rfl rfl trivial (step_r rfl rfl trivial (step_nil (seqK_n (sem_seq (sem_region rfl (step_r (v := (.agg [_, _, _, _, _, _, _, _, _, _])) rfl rfl (Nat.le_of_ble_eq_true rfl) (step_call rfl rfl rfl rfl (right_ok u) rfl rfl rfl (step_r rfl rfl trivial ?_))))))))))
 refine step_gs rfl (fun h2 => ?_) (fun h2 => ?_)
 ·have g2 := h2
  try simp at g2
  refine step_g1 rfl h2 (step_r (v := (.agg [_, _, _, _, _, _, _, _, _, _])) rfl rfl (Nat.le_of_ble_eq_true rfl) (step_g1 rfl h2 (step_call rfl rfl rfl rfl (dead_ok u) rfl rfl rfl (step_g1 rfl h2 (step_r rfl rfl trivial (step_pickT rfl h2 rfl rfl (step_r rfl rfl trivial (step_nil (seqK_n (sem_ret ?_))))))))))
  refine answersR (vs := [_]) rfl ⟨trivial, trivial⟩ (congrArg B ?_) rfl
  first
   | rfl
   | (exfalso; omega)
   | (simp [g2]; done)
   | (rw [Bool.eq_iff_iff]; simp [g2]; done)
   | (rw [Bool.eq_iff_iff]; simp [g2]; omega)
   | grind []
 ·have g2 := h2
  try simp at g2
  refine step_g0 rfl h2 rfl (step_g0 rfl h2 rfl (step_g0 rfl h2 rfl (step_pickF rfl h2 rfl rfl (step_r rfl rfl trivial (step_nil (seqK_n (sem_ret ?_)))))))
  refine answersR (vs := [_]) rfl ⟨trivial, trivial⟩ (congrArg B ?_) rfl
  first
   | rfl
   | (exfalso; omega)
   | (simp [g2]; done)
   | (rw [Bool.eq_iff_iff]; simp [g2]; done)
   | (rw [Bool.eq_iff_iff]; simp [g2]; omega)
   | grind []

theorem moreB_ok (a : Int) (b : Int) (d : Int) : Ok Try.prog 65 [I a, I b, I d] [] (I (clampM a 0 (IntKind.i64.wrap (d - b)))) [] [] := by
 refine ok_of_sem Try.func65 rfl ?_
 show Walks Try.prog _ _ ⟨[(0, I a), (1, I b), (2, I d)], [], 0, [], 12, 0⟩
 refine sem_seq (sem_region rfl (step_r rfl rfl trivial (step_nil (seqK_n (sem_seq (sem_region rfl (step_r rfl rfl trivial (step_r rfl rfl trivial (step_r rfl rfl trivial (step_bin rfl rfl rfl rfl rfl trivial (step_call rfl rfl rfl rfl (clamp_ok a 0 (IntKind.i64.wrap (d - b))) rfl rfl rfl ?_)))))))))))
 refine step_r rfl rfl trivial (step_nil (seqK_n (sem_ret ?_)))
 exact answersR rfl ⟨trivial, trivial⟩ (rfl) rfl

theorem hurt_ok (u : GUnit) (n : Int) : Ok Try.prog 46 [aGUnit u, I n] [] (outUI (hurtM u n)) [] [] := by
 refine ok_of_sem Try.func46 rfl ?_
 show Walks Try.prog _ _ ⟨[(0, aGUnit u), (1, I n)], [], 0, [], 24, 0⟩
 refine sem_seq (sem_region rfl (step_n (o := .box [_, _, _, _, _, _, _, _, _, _]) (nx' := 1) rfl rfl rfl trivial (step_n (o := .box [_, _, _, _, _, _, _, _, _, _]) (nx' := 2) rfl rfl rfl trivial (step_r rfl rfl trivial (step_nil (seqK_n (sem_seq (sem_seq (sem_region rfl (step_r (v := (.agg [_, _, _, _, _, _, _, _, _, _])) rfl rfl (Nat.le_of_ble_eq_true rfl) (step_call rfl rfl rfl rfl (right_ok u) rfl rfl rfl ?_)))))))))))
 refine step_r rfl rfl trivial (step_nil (seqK_n ?_))
 refine sem_cond rfl (fun h1 => ?_) (fun h1 => ?_)
 ·have g1 := h1
  try simp at g1
  refine sem_seq (sem_region rfl (step_r (v := (.agg [_, _, _, _, _, _, _, _, _, _])) rfl rfl (Nat.le_of_ble_eq_true rfl) ?_))
  refine step_storeB (H' := [(1, .box [_, _, _, _, _, _, _, _, _, _]), (0, _)]) rfl rfl rfl rfl rfl rfl (.inl rfl) rfl ?_
  refine step_r rfl rfl trivial (step_nil (seqK_n (sem_ret (seqK_r ?_))))
  have e : hurtM u n = (u, 0) := if_neg (by simpa using h1)
  rw [e]
  exact answersR rfl ⟨Nat.le_of_ble_eq_true rfl, trivial, trivial⟩ rfl rfl
 ·have g1 := h1
  try simp at g1
  refine sem_skip (seqK_n (sem_seq (sem_region rfl (step_r rfl rfl trivial (step_r rfl rfl (by decide) (step_r rfl rfl trivial (step_call rfl rfl rfl rfl (clamp_ok n 0 u.Health) rfl rfl rfl (step_r rfl rfl trivial (step_nil (seqK_n (sem_seq ?_)))))))))))
  refine sem_region rfl (step_r rfl rfl (by decide) (step_r rfl rfl trivial (step_r rfl rfl trivial (step_bin rfl rfl rfl rfl rfl trivial (step_r rfl rfl (by decide) ?_)))))
  refine step_storeB (H' := [(1, _), (0, .box [_, _, _, _, _, _, _, _, _, _])]) rfl rfl rfl rfl rfl rfl (.inl rfl) rfl ?_
  refine step_nil (seqK_n (sem_seq (sem_seq (sem_region rfl (step_r (v := (.agg [_, _, _, _, _, _, _, _, _, _])) rfl rfl (Nat.le_of_ble_eq_true rfl) (step_call rfl rfl rfl rfl (dead_ok { u with Health := IntKind.i64.wrap (u.Health - clampM n 0 u.Health) }) rfl rfl rfl (step_nil (seqK_n ?_))))))))
  refine sem_cond rfl (fun h4 => ?_) (fun h4 => ?_)
  ·have g4 := h4
   try simp at g4
   have hd := h4
   refine sem_region rfl (step_r rfl rfl (by decide) ?_)
   refine step_storeB (H' := [(1, _), (0, .box [_, _, _, _, _, _, _, _, _, _])]) rfl rfl rfl rfl rfl rfl (.inl rfl) rfl ?_
   refine step_nil (seqK_n (sem_seq (sem_region rfl (step_r (v := (.agg [_, _, _, _, _, _, _, _, _, _])) rfl rfl (Nat.le_of_ble_eq_true rfl) (step_r rfl rfl trivial ?_)))))
   refine step_storeB (H' := [(1, .box [_, _, _, _, _, _, _, _, _, _]), (0, _)]) rfl rfl rfl rfl rfl rfl (.inl rfl) rfl ?_
   refine step_r rfl rfl trivial (step_nil (seqK_n (sem_ret ?_)))
   have e : hurtM u n = ({ u with Health := IntKind.i64.wrap (u.Health - clampM n 0 u.Health), Casting := 0 }, clampM n 0 u.Health) := by
     have hr : Right u := by simpa using h1
     unfold hurtM; rw [if_pos hr]; simp only; rw [if_pos (of_decide_eq_true hd)]
   rw [e]
   exact answersR rfl ⟨Nat.le_of_ble_eq_true rfl, trivial, trivial⟩ rfl rfl
  ·have g4 := h4
   try simp at g4
   have hd := h4
   refine sem_skip (seqK_n (sem_seq (sem_region rfl (step_r (v := (.agg [_, _, _, _, _, _, _, _, _, _])) rfl rfl (Nat.le_of_ble_eq_true rfl) (step_r rfl rfl trivial ?_)))))
   refine step_storeB (H' := [(1, .box [_, _, _, _, _, _, _, _, _, _]), (0, _)]) rfl rfl rfl rfl rfl rfl (.inl rfl) rfl ?_
   refine step_r rfl rfl trivial (step_nil (seqK_n (sem_ret ?_)))
   have e : hurtM u n = ({ u with Health := IntKind.i64.wrap (u.Health - clampM n 0 u.Health), Casting := u.Casting }, clampM n 0 u.Health) := by
     have hr : Right u := by simpa using h1
     unfold hurtM; rw [if_pos hr]; simp only; rw [if_neg (of_decide_eq_false hd)]
   rw [e]
   exact answersR rfl ⟨Nat.le_of_ble_eq_true rfl, trivial, trivial⟩ rfl rfl

theorem heal_ok (u : GUnit) (n : Int) : Ok Try.prog 58 [aGUnit u, I n] [] (outUI (healM u n)) [] [] := by
 refine ok_of_sem Try.func58 rfl ?_
 show Walks Try.prog _ _ ⟨[(0, aGUnit u), (1, I n)], [], 0, [], 23, 0⟩
 refine sem_seq (sem_region rfl (step_n (o := .box [_, _, _, _, _, _, _, _, _, _]) (nx' := 1) rfl rfl rfl trivial (step_n (o := .box [_, _, _, _, _, _, _, _, _, _]) (nx' := 2) rfl rfl rfl trivial (step_r rfl rfl trivial (step_nil (seqK_n (sem_seq (sem_seq (sem_region rfl (step_r (v := (.agg [_, _, _, _, _, _, _, _, _, _])) rfl rfl (Nat.le_of_ble_eq_true rfl) (step_call rfl rfl rfl rfl (alive_ok u) rfl rfl rfl ?_)))))))))))
 refine step_r rfl rfl trivial (step_nil (seqK_n ?_))
 refine sem_cond rfl (fun h1 => ?_) (fun h1 => ?_)
 ·have g1 := h1
  try simp at g1
  refine sem_seq (sem_region rfl (step_r (v := (.agg [_, _, _, _, _, _, _, _, _, _])) rfl rfl (Nat.le_of_ble_eq_true rfl) ?_))
  refine step_storeB (H' := [(1, .box [_, _, _, _, _, _, _, _, _, _]), (0, _)]) rfl rfl rfl rfl rfl rfl (.inl rfl) rfl ?_
  refine step_r rfl rfl trivial (step_nil (seqK_n (sem_ret (seqK_r ?_))))
  have e : healM u n = (u, 0) := by
    simp only [decide_eq_true_eq, decide_eq_false_iff_not, Bool.not_eq_true', Bool.not_eq_false', beq_iff_eq, bne_iff_ne, beq_eq_false_iff_ne, bne_eq_false_iff_eq, ne_eq, Decidable.not_not, Bool.not_eq_true, Bool.not_eq_false, ge_iff_le, gt_iff_lt, Bool.not_not, Bool.and_eq_true, Bool.or_eq_true, Bool.and_eq_false_iff, Bool.or_eq_false_iff, Int.not_lt, Int.not_le, Nat.not_lt, Nat.not_le, cond_true, cond_false] at *
    exact if_neg (fun hh => by first | exact absurd (And.intro hh.1 hh.2) (by assumption) | exact absurd (And.intro hh.1 hh.2.1) (by assumption) | omega | simp_all)
  rw [e]
  exact answersR rfl ⟨Nat.le_of_ble_eq_true rfl, trivial, trivial⟩ rfl rfl
 ·have g1 := h1
  try simp at g1
  refine sem_skip (seqK_n (sem_seq (sem_region rfl (step_r rfl rfl trivial (step_r rfl rfl (by decide) (step_r rfl rfl trivial (step_r rfl rfl (by decide) (step_r rfl rfl trivial (step_call rfl rfl rfl rfl (moreB_ok n u.Health u.MaxHealth) rfl rfl rfl (step_r rfl rfl trivial (step_nil ?_)))))))))))
  refine seqK_n (sem_seq (sem_region rfl (step_r rfl rfl (by decide) (step_r rfl rfl trivial (step_r rfl rfl trivial (step_bin rfl rfl rfl rfl rfl trivial (step_r rfl rfl (by decide) ?_)))))))
  refine step_storeB (H' := [(1, _), (0, .box [_, _, _, _, _, _, _, _, _, _])]) rfl rfl rfl rfl rfl rfl (.inl rfl) rfl ?_
  refine step_nil (seqK_n (sem_seq (sem_region rfl (step_r (v := (.agg [_, _, _, _, _, _, _, _, _, _])) rfl rfl (Nat.le_of_ble_eq_true rfl) (step_r rfl rfl trivial ?_)))))
  refine step_storeB (H' := [(1, .box [_, _, _, _, _, _, _, _, _, _]), (0, _)]) rfl rfl rfl rfl rfl rfl (.inl rfl) rfl ?_
  refine step_r rfl rfl trivial (step_nil (seqK_n (sem_ret ?_)))
  have e : healM u n = ({ u with Health := IntKind.i64.wrap (u.Health + clampM n 0 (IntKind.i64.wrap (u.MaxHealth - u.Health))) }, clampM n 0 (IntKind.i64.wrap (u.MaxHealth - u.Health))) := by
    simp only [decide_eq_true_eq, decide_eq_false_iff_not, Bool.not_eq_true', Bool.not_eq_false', beq_iff_eq, bne_iff_ne, beq_eq_false_iff_ne, bne_eq_false_iff_eq, ne_eq, Decidable.not_not, Bool.not_eq_true, Bool.not_eq_false, ge_iff_le, gt_iff_lt, Bool.not_not, Bool.and_eq_true, Bool.or_eq_true, Bool.and_eq_false_iff, Bool.or_eq_false_iff, Int.not_lt, Int.not_le, Nat.not_lt, Nat.not_le, cond_true, cond_false] at *
    exact if_pos (by first | simp [*] | (simp [*]; omega))
  rw [e]
  exact answersR rfl ⟨Nat.le_of_ble_eq_true rfl, trivial, trivial⟩ rfl rfl

theorem gain_ok (u : GUnit) (n : Int) : Ok Try.prog 50 [aGUnit u, I n] [] (outUI (gainM u n)) [] [] := by
 refine ok_of_sem Try.func50 rfl ?_
 show Walks Try.prog _ _ ⟨[(0, aGUnit u), (1, I n)], [], 0, [], 23, 0⟩
 refine sem_seq (sem_region rfl (step_n (o := .box [_, _, _, _, _, _, _, _, _, _]) (nx' := 1) rfl rfl rfl trivial (step_n (o := .box [_, _, _, _, _, _, _, _, _, _]) (nx' := 2) rfl rfl rfl trivial (step_r rfl rfl trivial (step_nil (seqK_n (sem_seq (sem_seq (sem_region rfl (step_r (v := (.agg [_, _, _, _, _, _, _, _, _, _])) rfl rfl (Nat.le_of_ble_eq_true rfl) (step_call rfl rfl rfl rfl (alive_ok u) rfl rfl rfl ?_)))))))))))
 refine step_r rfl rfl trivial (step_nil (seqK_n ?_))
 refine sem_cond rfl (fun h1 => ?_) (fun h1 => ?_)
 ·have g1 := h1
  try simp at g1
  refine sem_seq (sem_region rfl (step_r (v := (.agg [_, _, _, _, _, _, _, _, _, _])) rfl rfl (Nat.le_of_ble_eq_true rfl) ?_))
  refine step_storeB (H' := [(1, .box [_, _, _, _, _, _, _, _, _, _]), (0, _)]) rfl rfl rfl rfl rfl rfl (.inl rfl) rfl ?_
  refine step_r rfl rfl trivial (step_nil (seqK_n (sem_ret (seqK_r ?_))))
  have e : gainM u n = (u, 0) := by
    simp only [decide_eq_true_eq, decide_eq_false_iff_not, Bool.not_eq_true', Bool.not_eq_false', beq_iff_eq, bne_iff_ne, beq_eq_false_iff_ne, bne_eq_false_iff_eq, ne_eq, Decidable.not_not, Bool.not_eq_true, Bool.not_eq_false, ge_iff_le, gt_iff_lt, Bool.not_not, Bool.and_eq_true, Bool.or_eq_true, Bool.and_eq_false_iff, Bool.or_eq_false_iff, Int.not_lt, Int.not_le, Nat.not_lt, Nat.not_le, cond_true, cond_false] at *
    exact if_neg (fun hh => by first | exact absurd (And.intro hh.1 hh.2) (by assumption) | exact absurd (And.intro hh.1 hh.2.1) (by assumption) | omega | simp_all)
  rw [e]
  exact answersR rfl ⟨Nat.le_of_ble_eq_true rfl, trivial, trivial⟩ rfl rfl
 ·have g1 := h1
  try simp at g1
  refine sem_skip (seqK_n (sem_seq (sem_region rfl (step_r rfl rfl trivial (step_r rfl rfl (by decide) (step_r rfl rfl trivial (step_r rfl rfl (by decide) (step_r rfl rfl trivial (step_call rfl rfl rfl rfl (moreB_ok n u.Power u.MaxPower) rfl rfl rfl (step_r rfl rfl trivial (step_nil ?_)))))))))))
  refine seqK_n (sem_seq (sem_region rfl (step_r rfl rfl (by decide) (step_r rfl rfl trivial (step_r rfl rfl trivial (step_bin rfl rfl rfl rfl rfl trivial (step_r rfl rfl (by decide) ?_)))))))
  refine step_storeB (H' := [(1, _), (0, .box [_, _, _, _, _, _, _, _, _, _])]) rfl rfl rfl rfl rfl rfl (.inl rfl) rfl ?_
  refine step_nil (seqK_n (sem_seq (sem_region rfl (step_r (v := (.agg [_, _, _, _, _, _, _, _, _, _])) rfl rfl (Nat.le_of_ble_eq_true rfl) (step_r rfl rfl trivial ?_)))))
  refine step_storeB (H' := [(1, .box [_, _, _, _, _, _, _, _, _, _]), (0, _)]) rfl rfl rfl rfl rfl rfl (.inl rfl) rfl ?_
  refine step_r rfl rfl trivial (step_nil (seqK_n (sem_ret ?_)))
  have e : gainM u n = ({ u with Power := IntKind.i64.wrap (u.Power + clampM n 0 (IntKind.i64.wrap (u.MaxPower - u.Power))) }, clampM n 0 (IntKind.i64.wrap (u.MaxPower - u.Power))) := by
    simp only [decide_eq_true_eq, decide_eq_false_iff_not, Bool.not_eq_true', Bool.not_eq_false', beq_iff_eq, bne_iff_ne, beq_eq_false_iff_ne, bne_eq_false_iff_eq, ne_eq, Decidable.not_not, Bool.not_eq_true, Bool.not_eq_false, ge_iff_le, gt_iff_lt, Bool.not_not, Bool.and_eq_true, Bool.or_eq_true, Bool.and_eq_false_iff, Bool.or_eq_false_iff, Int.not_lt, Int.not_le, Nat.not_lt, Nat.not_le, cond_true, cond_false] at *
    exact if_pos (by first | simp [*] | (simp [*]; omega))
  rw [e]
  exact answersR rfl ⟨Nat.le_of_ble_eq_true rfl, trivial, trivial⟩ rfl rfl
end Go.Proofs.Ytmijbjpdjggppaa

import Derived.Test.YtkncpoaddamlbaaSl
namespace Go.Proofs.Ytkncpoaddamlbaa
open Go Go.RowKit Go.Proofs.YtkncpoaddamlbaaVm
attribute [local irreducible] opsWp AnswersE OpsS
set_option maxHeartbeats 400000
set_option maxRecDepth 100000
set_option linter.all false
structure GPos where
  (X : Int)
  (Y : Int)
  deriving DecidableEq, Inhabited
def encGPos (x : GPos) : List PV := [i64 x.X, i64 x.Y]
abbrev aGPos (x : GPos) : AV := .agg [I x.X, I x.Y]
def wfGPos (x : GPos) : Prop := (InR x.X) ∧ (InR x.Y)
theorem encGPos_solid {l : List GPos} : ∀ p ∈ l.flatMap encGPos, solidP p = true := flat_solid (fun x p h => by simp only [encGPos, List.mem_cons, List.mem_nil_iff, or_false] at h; rcases h with rfl | rfl <;> rfl)

structure GUnit where
  (Id : Int)
  (Kind : Int)
  (Group : Int)
  (Health : Int)
  (MaxHealth : Int)
  (Power : Int)
  (MaxPower : Int)
  (At : GPos)
  (Casting : Int)
  deriving DecidableEq, Inhabited
def encGUnit (x : GUnit) : List PV := [i64 x.Id, i64 x.Kind, i64 x.Group, i64 x.Health, i64 x.MaxHealth, i64 x.Power, i64 x.MaxPower, i64 x.At.X, i64 x.At.Y, i64 x.Casting]
abbrev aGUnit (x : GUnit) : AV := .agg [I x.Id, I x.Kind, I x.Group, I x.Health, I x.MaxHealth, I x.Power, I x.MaxPower, I x.At.X, I x.At.Y, I x.Casting]
def wfGUnit (x : GUnit) : Prop := (InR x.Id) ∧ (InR x.Kind) ∧ (InR x.Group) ∧ (InR x.Health) ∧ (InR x.MaxHealth) ∧ (InR x.Power) ∧ (InR x.MaxPower) ∧ (wfGPos x.At) ∧ (InR x.Casting)
theorem encGUnit_solid {l : List GUnit} : ∀ p ∈ l.flatMap encGUnit, solidP p = true := flat_solid (fun x p h => by simp only [encGUnit, List.mem_cons, List.mem_nil_iff, or_false] at h; rcases h with rfl | rfl | rfl | rfl | rfl | rfl | rfl | rfl | rfl | rfl <;> rfl)

def Right (u : GUnit) : Prop := 1 ≤ u.Id ∧ (u.Kind = 1 ∨ u.Kind = 2) ∧ 0 ≤ u.Group ∧ u.Group ≤ 8 ∧ 0 ≤ u.Casting ∧ 1 ≤ u.MaxHealth ∧ u.MaxHealth ≤ 1000000 ∧ 0 ≤ u.MaxPower ∧ u.MaxPower ≤ 1000000 ∧ 0 ≤ u.Health ∧ u.Health ≤ u.MaxHealth ∧ 0 ≤ u.Power ∧ u.Power ≤ u.MaxPower
instance (u : GUnit) : Decidable (Right u) := by unfold Right; infer_instance
def hurtM (u : GUnit) (n : Int) : GUnit × Int := if Right u then
    let k := clampM n 0 u.Health
    let h := IntKind.i64.wrap (u.Health - k)
    ({ u with Health := h, Casting := if h < 1 then 0 else u.Casting }, k) else (u, 0)
def healM (u : GUnit) (n : Int) : GUnit × Int := if Right u ∧ ¬ u.Health < 1 then
    let k := clampM n 0 (IntKind.i64.wrap (u.MaxHealth - u.Health))
    ({ u with Health := IntKind.i64.wrap (u.Health + k) }, k) else (u, 0)
def gainM (u : GUnit) (n : Int) : GUnit × Int := if Right u ∧ ¬ u.Health < 1 then
    let k := clampM n 0 (IntKind.i64.wrap (u.MaxPower - u.Power))
    ({ u with Power := IntKind.i64.wrap (u.Power + k) }, k) else (u, 0)
def spendM (u : GUnit) (n : Int) : GUnit × Bool := if Right u ∧ ¬ u.Health < 1 ∧ 0 ≤ n ∧ n ≤ u.Power then
    ({ u with Power := IntKind.i64.wrap (u.Power - n) }, true) else (u, false)
def raiseM (u : GUnit) : GUnit × Bool := if Right u ∧ u.Health < 1 then
    ({ u with Health := max (partM u.MaxHealth 1 2) 1 }, true) else (u, false)
abbrev outUI (r : GUnit × Int) : AV := .tup [aGUnit r.1, I r.2]
abbrev outUB (r : GUnit × Bool) : AV := .tup [aGUnit r.1, B r.2]


theorem dead_ok (u : GUnit) : Ok Try.prog 20 [aGUnit u] [] (B (decide (u.Health < 1))) [] [] := by
 refine ok_of_sem Try.func20 rfl ?_
 show Walks Try.prog _ _ ⟨[(0, aGUnit u)], [], 0, [], 6, 0⟩
 refine sem_seq ?_
 refine sem_region rfl ?_
 refine step_n (o := .box [_, _, _, _, _, _, _, _, _, _]) (nx' := 1) rfl rfl rfl trivial ?_
 refine step_r rfl rfl trivial ?_
 refine step_nil ?_
 refine seqK_n ?_
 refine sem_seq ?_
 refine sem_region rfl ?_
 refine step_r rfl rfl (by decide) ?_
 refine step_r rfl rfl trivial ?_
 refine step_bin rfl rfl rfl rfl rfl trivial ?_
 refine step_r rfl rfl trivial ?_
 refine step_nil ?_
 refine seqK_n ?_
 refine sem_ret ?_
 exact answersR rfl ⟨trivial, trivial⟩ (rfl) rfl

theorem below_ok (u : GUnit) (p : Int) : Ok Try.prog 26 [aGUnit u, I p] [] (B (decide (u.Health ≤ partM u.MaxHealth p 100))) [] [] := by
 refine ok_of_sem Try.func26 rfl ?_
 show Walks Try.prog _ _ ⟨[(0, aGUnit u), (1, I p)], [], 0, [], 12, 0⟩
 refine sem_seq ?_
 refine sem_region rfl ?_
 refine step_n (o := .box [_, _, _, _, _, _, _, _, _, _]) (nx' := 1) rfl rfl rfl trivial ?_
 refine step_r rfl rfl trivial ?_
 refine step_nil ?_
 refine seqK_n ?_
 refine sem_seq ?_
 refine sem_drawn rfl (by decide +kernel) rfl ?_
 refine step_r rfl rfl (by decide) ?_
 refine step_r rfl rfl trivial ?_
 refine step_r rfl rfl (by decide) ?_
 refine step_r rfl rfl trivial ?_
 refine step_r rfl rfl trivial ?_
 refine step_call rfl rfl rfl rfl (part_ok u.MaxHealth p 100) rfl rfl rfl ?_
 refine step_bin rfl rfl rfl rfl rfl trivial ?_
 refine step_r rfl rfl trivial ?_
 refine step_nil ?_
 refine seqK_n ?_
 refine sem_ret ?_
 exact answersR rfl ⟨trivial, trivial⟩ (rfl) rfl

theorem belowR_ok (u : GUnit) (p : Int) : Ok Try.prog 27 [aGUnit u, I p] [] (B (decide (u.Health ≤ partR u.MaxHealth p 100))) [] [] := by
 refine ok_of_sem Try.func27 rfl ?_
 show Walks Try.prog _ _ ⟨[(0, aGUnit u), (1, I p)], [], 0, [], 12, 0⟩
 refine sem_seq ?_
 refine sem_region rfl ?_
 refine step_n (o := .box [_, _, _, _, _, _, _, _, _, _]) (nx' := 1) rfl rfl rfl trivial ?_
 refine step_r rfl rfl trivial ?_
 refine step_nil ?_
 refine seqK_n ?_
 refine sem_seq ?_
 refine sem_drawn rfl (by decide +kernel) rfl ?_
 refine step_r rfl rfl (by decide) ?_
 refine step_r rfl rfl trivial ?_
 refine step_r rfl rfl (by decide) ?_
 refine step_r rfl rfl trivial ?_
 refine step_r rfl rfl trivial ?_
 refine step_call rfl rfl rfl rfl (partR_ok u.MaxHealth p 100) rfl rfl rfl ?_
 refine step_bin rfl rfl rfl rfl rfl trivial ?_
 refine step_r rfl rfl trivial ?_
 refine step_nil ?_
 refine seqK_n ?_
 refine sem_ret ?_
 exact answersR rfl ⟨trivial, trivial⟩ (rfl) rfl

theorem belowR_okM (u : GUnit) (p : Int) : Ok Try.prog 27 [aGUnit u, I p] [] (B (decide (u.Health ≤ partM u.MaxHealth p 100))) [] [] := by rw [part_same]; exact belowR_ok u p
end Go.Proofs.Ytkncpoaddamlbaa

import Derived.Test.YtbfmonajbfljmaaDoorVmZB
import Derived.Test.YtbfmonajbfljmaaDoorProg
namespace Go.Proofs.YtbfmonajbfljmaaDoor
open Go Go.RowKit Go.Proofs.YtbfmonajbfljmaaDoorVm
attribute [local irreducible] opsWp AnswersE OpsS
set_option maxHeartbeats 400000
set_option maxRecDepth 100000
set_option linter.all false
def addM (a b : Int) : Int := if a > 0 ∧ b > 0 ∧ IntKind.i64.wrap (a + b) ≤ 0 then 9223372036854775807 else if a < 0 ∧ b < 0 ∧ IntKind.i64.wrap (a + b) ≥ 0 then -9223372036854775808 else IntKind.i64.wrap (a + b)
def clampM (a b d : Int) : Int := max (min a (max b d)) b
def sideM (a : Int) : Int := clampM a (-2147483647) 2147483647
def partM (a b d : Int) : Int := if d < 1 then 0 else IntKind.i64.wrap ((IntKind.i64.wrap (sideM a * sideM b)).tdiv d)
def addR (a b : Int) : Int := if a > 0 ∧ b > IntKind.i64.wrap (9223372036854775807 - a) then 9223372036854775807 else if a < 0 ∧ b < IntKind.i64.wrap (-9223372036854775808 - a) then -9223372036854775808 else IntKind.i64.wrap (a + b)
def clampR (a b d : Int) : Int := if b > d ∨ a < b then b else if a > d then d else a
def sideR (a : Int) : Int := clampR a (-2147483647) 2147483647
def partR (a b d : Int) : Int := if d < 1 then 0 else IntKind.i64.wrap ((IntKind.i64.wrap (sideR a * sideR b)).tdiv d)
theorem addM_eq {a b : Int} (ha : InR a) (hb : InR b) : addM a b = max (min (a + b) 9223372036854775807) (-9223372036854775808) := by
  unfold InR at ha hb
  simp only [addM, IntKind.wrap_i64]
  split
  · omega
  · split <;> omega
theorem addR_eq {a b : Int} (ha : InR a) (hb : InR b) : addR a b = max (min (a + b) 9223372036854775807) (-9223372036854775808) := by
  unfold InR at ha hb
  simp only [addR, IntKind.wrap_i64]
  split
  · omega
  · split <;> omega
theorem add_same {a b : Int} (ha : InR a) (hb : InR b) : addM a b = addR a b := by rw [addM_eq ha hb, addR_eq ha hb]
theorem addM_in {a b : Int} (ha : InR a) (hb : InR b) : InR (addM a b) := by rw [addM_eq ha hb]; unfold InR; omega
theorem clamp_same (a b d : Int) : clampM a b d = clampR a b d := by
  unfold clampM clampR
  split
  · omega
  · split <;> omega
theorem part_same (a b d : Int) : partM a b d = partR a b d := by
  unfold partM partR sideM sideR; simp only [clamp_same]
theorem same_no {α : Type} {a b : List α} {k : Nat} {x y : α} (hx : a[k]? = some x) (hy : b[k]? = some y) (h : x ≠ y) : ¬ a = b := by
  intro e; subst e; rw [hx] at hy; exact h (Option.some.inj hy)
theorem same_all {α : Type} {a b : List α} {k : Nat} (h : a.take k = b.take k) (hk : k = a.length) (hl : a.length = b.length) : a = b := by
  have := h; rw [hk, List.take_length, hl, List.take_length] at this; exact this

end Go.Proofs.YtbfmonajbfljmaaDoor

import Derived.Test.YtppnccjeggnllaaGreatVmZB
import Derived.Test.YtppnccjeggnllaaGreatProg
namespace Go.Proofs.YtppnccjeggnllaaGreat
open Go Go.RowKit Go.Proofs.YtppnccjeggnllaaGreatVm
attribute [local irreducible] zY zaM OpsS
set_option maxHeartbeats 400000
set_option maxRecDepth 100000
set_option linter.all false
theorem zhw {α : Type} {a b : List α} {k : Nat} {x y : α} (hx : a[k]? = some x) (hy : b[k]? = some y) (h : x ≠ y) : ¬ a = b := by
 intro e; subst e; rw [hx] at hy; exact h (Option.some.inj hy)
theorem zfP {α : Type} {a b : List α} {k : Nat} (h : a.take k = b.take k) (hk : k = a.length) (hl : a.length = b.length) : a = b := by
 have := h; rw [hk, List.take_length, hl, List.take_length] at this; exact this

end Go.Proofs.YtppnccjeggnllaaGreat

import Derived.Test.YtcbdecknbfabaaaRef09u
namespace Go.Proofs.Ytcbdecknbfabaaa
open Go Go.RowKit Go.Proofs.YtcbdecknbfabaaaVm
attribute [local irreducible] opsWp AnswersE OpsS
set_option maxHeartbeats 400000
set_option maxRecDepth 100000
set_option linter.all false
theorem getUR_go (id : Int) : ∀ (l : List GAura) (k : Nat), getUR_L0 id l k = match l.findIdx? (fun x => isU x id) with | some i => .inl (l.getD i default, true) | none => .inr ()
  | [], k => by simp [getUR_L0]
  | x :: l, k => by
    rw [getUR_L0, getUR_go id l (k + 1), List.findIdx?_cons]
    by_cases h : x.Id = id
    · simp [h, isU, idU]
    · have h2 : isU x id = false := by simpa [isU, idU] using h
      rw [if_neg h, h2]
      cases l.findIdx? (fun x => isU x id) <;> simp
theorem getUR_eq (c : GContent) (id : Int) : getUR c id = getU c id := by
  unfold getUR getU findU fidx
  rw [getUR_go]
  cases h : c.Auras.findIdx? (fun x => isU x id) with
  | none => simp
  | some i => simp only [h]; rw [if_neg (by omega)]; simp

end Go.Proofs.Ytcbdecknbfabaaa

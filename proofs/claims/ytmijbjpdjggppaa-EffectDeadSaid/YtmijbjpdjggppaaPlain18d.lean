import Derived.Test.YtmijbjpdjggppaaLaw18d
namespace Go.Proofs.Ytmijbjpdjggppaa
open Go Go.RowKit Go.Proofs.YtmijbjpdjggppaaVm
attribute [local irreducible] opsWp AnswersE OpsS
set_option maxHeartbeats 400000
set_option maxRecDepth 100000
set_option linter.all false
theorem small18_true : small18 = true := by decide +kernel
theorem equalCools_go (s : List GCool) : ∀ (l : List GCool) (k : Nat), l = s.drop k → equalCools_L0 s l k = .inr ()
  | [], k, _ => by rw [equalCools_L0]
  | x :: l, k, h => by
    have hk : k < s.length := by
      rcases Nat.lt_or_ge k s.length with h' | h'
      · exact h'
      · rw [List.drop_of_length_le h'] at h; cases h
    rw [List.drop_eq_getElem_cons hk] at h
    injection h with h1 h2
    have e : s.getD k default = x := by rw [List.getD_eq_getElem?_getD, List.getElem?_eq_getElem hk, Option.getD_some, h1]
    rw [equalCools_L0, e, if_pos (by simp [sameCool])]
    exact equalCools_go s l (k + 1) h2
theorem sameX_self (a : GActor) : sameX a a = true := by
  have h : equalCools a.Cools a.Cools = true := by
    unfold equalCools
    rw [if_pos rfl, equalCools_go a.Cools a.Cools 0 (by simp)]
  unfold sameX
  simp [h]
theorem ofX_dead (c : GContent) {x : GActor} (h : x.Unit.Health < 1) : (ofX c x).2 = false := by
  unfold ofX
  split
  · simp [h]
  · rfl
theorem doX_dead (c : GContent) (from_ : GActor) {to : GActor} (e : GEffect) (now : Int) (h : to.Unit.Health < 1) : doX c from_ to e now = (to, ⟨e.Kind, 0, 0, 0, 0⟩) := by
  unfold doX doX_J22
  rw [ofX_dead c h, ofX_is]
  rfl
theorem tickE_dead (c : GContent) {to : GActor} (now : Int) (h : to.Unit.Health < 1) : tickE c to now = (to, []) := by
  unfold tickE
  rw [ofX_dead c h, ofX_is]
  rfl
theorem strikeX_dead (c : GContent) (from_ : GActor) {to : GActor} (n : Int) (h : to.Unit.Health < 1) : strikeX c from_ to n = (to, ⟨1, 0, 0, 0, 0⟩) := by
  unfold strikeX
  rw [ofX_dead c h, ofX_is]
  rfl
theorem dead18_true (c : GContent) (from_ to : GActor) (e : GEffect) (now : Int) : dead18 c from_ to e now = true := by
  unfold dead18
  rw [small18_true, doX_dead c from_ e now (by show (0 : Int) < 1; decide), tickE_dead c now (by show (0 : Int) < 1; decide), strikeX_dead c from_ e.Amount (by show (0 : Int) < 1; decide)]
  simp [sameX_self]
theorem dead18_yes (c : GContent) (from_ to : GActor) (e : GEffect) (now : Int) : Ok Try.prog 3 [aGContent c, aGActor from_, aGActor to, aGEffect e, I now] [] (B true) [] [] := by
  have h := dead18_ok c from_ to e now
  rwa [dead18_true c from_ to e now] at h

end Go.Proofs.Ytmijbjpdjggppaa

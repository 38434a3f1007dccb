import Derived.Test.YtmijbjpdjggppaaGreatGood15
namespace Go.Proofs.YtmijbjpdjggppaaGreat
open Go Go.RowKit Go.Proofs.YtmijbjpdjggppaaGreatVm
attribute [local irreducible] opsWp AnswersE OpsS
set_option maxHeartbeats 400000
set_option maxRecDepth 100000
set_option linter.all false
/-- numbers of content that fit -/
structure Fits (c : GContent) : Prop where
  au : ∀ x ∈ c.Auras, InR x.Ticks ∧ InR x.Every ∧ InR x.Stacks ∧ InR x.Amount
theorem getU_cases (c : GContent) (id : Int) : ((getU c id).2 = true ∧ (getU c id).1 ∈ c.Auras ∧ (getU c id).1.Id = id) ∨ getU c id = (⟨0, 0, 0, 0, 0, 0, false⟩, false) := by
  unfold getU findU
  rcases fidx_cases (fun x_ => isU x_ id) c.Auras with ⟨h, _⟩ | ⟨k, x, h, h2, h3, _⟩
  · rw [h, if_pos (by omega)]; exact .inr rfl
  · rw [h, if_neg (by omega)]
    have : c.Auras.getD ((k : Int).toNat) default = x := by rw [Int.toNat_natCast, List.getD_eq_getElem?_getD, h2]; rfl
    rw [this]
    exact .inl ⟨rfl, List.mem_of_getElem? h2, by simpa [isU, idU] using h3⟩
theorem getU_fits {c : GContent} (h : Fits c) (id : Int) : InR (getU c id).1.Ticks ∧ InR (getU c id).1.Every ∧ InR (getU c id).1.Stacks ∧ InR (getU c id).1.Amount := by
  rcases getU_cases c id with ⟨_, h1, _⟩ | h1
  · exact h.au _ h1
  · rw [h1]; unfold InR; decide

end Go.Proofs.YtmijbjpdjggppaaGreat

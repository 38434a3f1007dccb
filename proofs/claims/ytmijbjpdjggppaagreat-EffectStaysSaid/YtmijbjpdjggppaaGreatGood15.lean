import Derived.Test.YtmijbjpdjggppaaGreatGood09
namespace Go.Proofs.YtmijbjpdjggppaaGreat
open Go Go.RowKit Go.Proofs.YtmijbjpdjggppaaGreatVm
attribute [local irreducible] opsWp AnswersE OpsS
set_option maxHeartbeats 400000
set_option maxRecDepth 100000
set_option linter.all false
theorem aura_facts {a : GAura} (h : aura9 a = true) : (1 ≤ a.Ticks ∧ a.Ticks ≤ 1000000) ∧ (1 ≤ a.Stacks ∧ a.Stacks ≤ 100) ∧ (a.Kind = 5 → 0 ≤ a.Amount ∧ a.Amount ≤ 1000000) := by
  unfold aura9 aura9_J9 aura9_J12 aura9_J18 aura9_J21 at h
  have key : ∀ lo hi ev, (if ev = true then if within9 a.Ticks 1 1000000 = true then if within9 a.Stacks 1 100 = true then within9 a.Amount lo hi else false else false else false) = true → (1 ≤ a.Ticks ∧ a.Ticks ≤ 1000000) ∧ (1 ≤ a.Stacks ∧ a.Stacks ≤ 100) ∧ (lo ≤ a.Amount ∧ a.Amount ≤ hi) := by
    intro lo hi ev h
    split at h
    case isFalse => cases h
    split at h
    case isFalse => cases h
    rename_i h1
    split at h
    case isFalse => cases h
    rename_i h2
    exact ⟨within_iff.1 h1, within_iff.1 h2, within_iff.1 h⟩
  by_cases k5 : a.Kind = 5
  · simp only [k5] at h
    simp at h
    have := key 0 1000000 (a.Every == 0) (by simpa using h)
    exact ⟨this.1, this.2.1, fun _ => this.2.2⟩
  · have k : a.Kind = 1 ∨ a.Kind = 2 ∨ a.Kind = 3 ∨ a.Kind = 4 ∨ a.Kind = 6 ∨ (a.Kind ≠ 1 ∧ a.Kind ≠ 2 ∧ a.Kind ≠ 3 ∧ a.Kind ≠ 4 ∧ a.Kind ≠ 6) := by omega
    rcases k with k | k | k | k | k | ⟨k1, k2, k3, k4, k6⟩
    · simp only [k] at h; simp at h
      have := key 0 1000000 (within9 a.Every 1 1000000) (by simpa using h)
      exact ⟨this.1, this.2.1, fun e => absurd e k5⟩
    · simp only [k] at h; simp at h
      have := key 0 1000000 (within9 a.Every 1 1000000) (by simpa using h)
      exact ⟨this.1, this.2.1, fun e => absurd e k5⟩
    · simp only [k] at h; simp at h
      have := key (-100) 1000 (a.Every == 0) (by simpa using h)
      exact ⟨this.1, this.2.1, fun e => absurd e k5⟩
    · simp only [k] at h; simp at h
      have := key (-100) 1000 (a.Every == 0) (by simpa using h)
      exact ⟨this.1, this.2.1, fun e => absurd e k5⟩
    · simp only [k] at h; simp at h
      have := key 0 1000000 (a.Every == 0) (by simpa using h)
      exact ⟨this.1, this.2.1, fun e => absurd e k5⟩
    · simp [k1, k2, k3, k4, k5, k6] at h
theorem right15_both {c : GContent} {l : List GActive} (h : right15 c l = true) : l.length ≤ 16 ∧ right9 c = true := ⟨right15_len h, right15_right h⟩
theorem stacks9 {c : GContent} {a : GAura} (h : right9 c = true) (ha : a ∈ c.Auras) : 1 ≤ a.Stacks ∧ a.Stacks ≤ 100 :=
  (aura_facts (Good.mem ((right_iff c).1 h).au a ha).2).2.1

end Go.Proofs.YtmijbjpdjggppaaGreat

import Derived.Test.YtcbdecknbfabaaaGood09
namespace Go.Proofs.Ytcbdecknbfabaaa
open Go Go.RowKit Go.Proofs.YtcbdecknbfabaaaVm
attribute [local irreducible] opsWp AnswersE OpsS
set_option maxHeartbeats 400000
set_option maxRecDepth 100000
set_option linter.all false
theorem getUR_go (id : Int) : ∀ (l : List GAura) (k : Nat), getUR_L0 id l k = match l.findIdx? (fun x => isU x id) with | some i => .inl (l.getD i default, true) | none => .inr ()
  | [], k => by simp [getUR_L0]
  | x :: l, k => by
    rw [getUR_L0, getUR_go id l (k + 1), List.findIdx?_cons]
    by_cases h : x.Id = id
    · simp [h, isU, idU]
    · have h2 : isU x id = false := by simpa [isU, idU] using h
      rw [if_neg h, h2]
      cases l.findIdx? (fun x => isU x id) <;> simp
theorem getUR_eq (c : GContent) (id : Int) : getUR c id = getU c id := by
  unfold getUR getU findU fidx
  rw [getUR_go]
  cases h : c.Auras.findIdx? (fun x => isU x id) with
  | none => simp
  | some i => simp only [h]; rw [if_neg (by omega)]; simp
theorem getAR_go (id : Int) : ∀ (l : List GAbility) (k : Nat), getAR_L0 id l k = match l.findIdx? (fun x => isA x id) with | some i => .inl (l.getD i default, true) | none => .inr ()
  | [], k => by simp [getAR_L0]
  | x :: l, k => by
    rw [getAR_L0, getAR_go id l (k + 1), List.findIdx?_cons]
    by_cases h : x.Id = id
    · simp [h, isA, idA, copyAR]
    · have h2 : isA x id = false := by simpa [isA, idA] using h
      rw [if_neg h, h2]
      cases l.findIdx? (fun x => isA x id) <;> simp
theorem getAR_eq (c : GContent) (id : Int) : getAR c id = getA c id := by
  unfold getAR getA findA fidx copyA
  rw [getAR_go]
  cases h : c.Abilities.findIdx? (fun x => isA x id) with
  | none => simp
  | some i => simp only [h]; rw [if_neg (by omega)]; simp
theorem amountR_iff {n least : Int} : amountR n least = true ↔ least ≤ n ∧ n ≤ 1000000 := by
  unfold amountR
  split <;> simp <;> omega
theorem bool_eq {a b : Bool} (h : a = true ↔ b = true) : a = b := Bool.eq_iff_iff.2 h
theorem auraR_eq (a : GAura) : auraR a = aura9 a := by
  apply bool_eq
  unfold auraR aura9 auraR_J5 auraR_J13 auraR_J45 aura9_J9 aura9_J12 aura9_J18 aura9_J21
  by_cases k1 : a.Kind = 1
  · simp only [k1]; simp; by_cases h1 : amountR a.Ticks 1 = true <;> by_cases h2 : within9 a.Every 1 1000000 = true <;> simp_all [amountR_iff, within_iff] <;> grind
  by_cases k2 : a.Kind = 2
  · simp only [k2]; simp; by_cases h1 : amountR a.Ticks 1 = true <;> by_cases h2 : within9 a.Every 1 1000000 = true <;> simp_all [amountR_iff, within_iff] <;> grind
  by_cases k3 : a.Kind = 3
  · simp only [k3]; simp; by_cases h1 : amountR a.Ticks 1 = true <;> by_cases h2 : a.Every = 0 <;> simp_all [amountR_iff, within_iff] <;> grind
  by_cases k4 : a.Kind = 4
  · simp only [k4]; simp; by_cases h1 : amountR a.Ticks 1 = true <;> by_cases h2 : a.Every = 0 <;> simp_all [amountR_iff, within_iff] <;> grind
  by_cases k5 : a.Kind = 5
  · simp only [k5]; simp; by_cases h1 : amountR a.Ticks 1 = true <;> by_cases h2 : a.Every = 0 <;> simp_all [amountR_iff, within_iff] <;> grind
  by_cases k6 : a.Kind = 6
  · simp only [k6]; simp; by_cases h1 : amountR a.Ticks 1 = true <;> by_cases h2 : a.Every = 0 <;> simp_all [amountR_iff, within_iff] <;> grind
  · have hk : a.Kind < 1 ∨ a.Kind > 6 := by omega
    simp only [if_neg k1, if_neg k3, if_neg k5]
    have e2 : (a.Kind == 2) = false := by simpa using k2
    have e4 : (a.Kind == 4) = false := by simpa using k4
    have e6 : (a.Kind == 6) = false := by simpa using k6
    rw [e2, e4, e6]
    rcases hk with h | h
    · simp [h]
    · have : ¬ a.Kind < 1 := by omega
      simp [h, this]
theorem firstR_iff {α : Type} (id : α → Int) (right : α → Bool) (l : List α) : ∀ (n k : Nat) (last : Int), k + n = min l.length 64 → ((k = 0 ∧ last = 0) ∨ (0 < k ∧ (l.map id).getD (k - 1) default = last ∧ 1 ≤ last)) →
    ((firstR_L0 (l.map fun x => !right x) (l.map id) n k = .inr () ∧ l.length ≤ 64 ∧ Good id right (l.drop k) k last) ∨ ((∃ m : Nat, firstR_L0 (l.map fun x => !right x) (l.map id) n k = .inl (m : Int)) ∧ ¬ Good id right (l.drop k) k last) ∨ (firstR_L0 (l.map fun x => !right x) (l.map id) n k = .inr () ∧ l.length > 64 ∧ ¬ Good id right (l.drop k) k last))
  | 0, k, last, hn, hl => by
    rw [firstR_L0]
    by_cases h : l.length ≤ 64
    · left
      refine ⟨rfl, h, ?_⟩
      rw [List.drop_of_length_le (by omega)]; trivial
    · right; right
      refine ⟨rfl, by omega, ?_⟩
      have hk : k = 64 := by omega
      rw [List.drop_eq_getElem_cons (by omega)]
      intro hg; exact hg.1 hk
  | n + 1, k, last, hn, hl => by
    have hk : k < l.length := by omega
    have eb : (l.map fun x => !right x).getD k default = !right l[k] := by rw [List.getD_eq_getElem?_getD, List.getElem?_map, List.getElem?_eq_getElem hk]; rfl
    have ei : (l.map id).getD k default = id l[k] := by rw [List.getD_eq_getElem?_getD, List.getElem?_map, List.getElem?_eq_getElem hk]; rfl
    rw [firstR_L0, eb, ei, List.drop_eq_getElem_cons hk]
    by_cases h1 : right l[k] = true
    · rw [if_neg (by simp [h1])]
      by_cases h2 : id l[k] < 1
      · rw [if_pos h2]
        right; left
        exact ⟨⟨k, rfl⟩, fun hg => by have := hg.2.1; rcases hl with ⟨_, h⟩ | ⟨_, _, h⟩ <;> omega⟩
      · rw [if_neg h2]
        have rec_ := firstR_iff id right l n (k + 1) (id l[k]) (by omega) (.inr ⟨by omega, by rw [Nat.add_sub_cancel, ei], by omega⟩)
        have key : last < id l[k] → ((firstR_L0 (l.map fun x => !right x) (l.map id) n (k + 1) = .inr () ∧ l.length ≤ 64 ∧ Good id right (l[k] :: l.drop (k + 1)) k last) ∨ ((∃ m : Nat, firstR_L0 (l.map fun x => !right x) (l.map id) n (k + 1) = .inl (m : Int)) ∧ ¬ Good id right (l[k] :: l.drop (k + 1)) k last) ∨ (firstR_L0 (l.map fun x => !right x) (l.map id) n (k + 1) = .inr () ∧ l.length > 64 ∧ ¬ Good id right (l[k] :: l.drop (k + 1)) k last)) := fun hlt => by
          rcases rec_ with ⟨a, b, c⟩ | ⟨a, b⟩ | ⟨a, b, c⟩
          · exact .inl ⟨a, b, by omega, hlt, h1, c⟩
          · exact .inr (.inl ⟨a, fun hg => b hg.2.2.2⟩)
          · exact .inr (.inr ⟨a, b, fun hg => c hg.2.2.2⟩)
        rcases hl with ⟨h3, h4⟩ | ⟨h3, h4, h5⟩
        · rw [if_neg (by omega)]; exact key (by omega)
        · rw [if_pos (by omega)]
          have ew : (IntKind.i64.wrap ((k : Int) - 1)).toNat = k - 1 := by simp only [IntKind.wrap_i64]; omega
          rw [ew, h4]
          by_cases h6 : id l[k] ≤ last
          · rw [if_pos h6]
            right; left
            exact ⟨⟨k, rfl⟩, fun hg => by have := hg.2.1; omega⟩
          · rw [if_neg h6]; exact key (by omega)
    · rw [if_pos (by simp [h1])]
      right; left
      exact ⟨⟨k, rfl⟩, fun hg => h1 hg.2.2.1⟩
theorem firstR_is {α : Type} (id : α → Int) (right : α → Bool) (l : List α) : (firstR (l.map fun x => !right x) (l.map id) < 0 ∧ Good id right l 0 0) ∨ (firstR (l.map fun x => !right x) (l.map id) ≥ 0 ∧ ¬ Good id right l 0 0) := by
  have h := firstR_iff id right l (min l.length 64) 0 0 (by omega) (.inl ⟨rfl, rfl⟩)
  unfold firstR
  rw [List.length_map, Nat.sub_zero]
  rw [List.drop_zero] at h
  rcases h with ⟨a, b, c⟩ | ⟨⟨m, a⟩, b⟩ | ⟨a, b, c⟩
  · rw [a]; dsimp only; rw [if_neg (by omega)]; exact .inl ⟨by omega, c⟩
  · rw [a]; dsimp only; exact .inr ⟨by omega, b⟩
  · rw [a]; dsimp only; rw [if_pos (by omega)]; exact .inr ⟨by omega, c⟩
theorem abilityR_go (c : GContent) : ∀ (l : List GEffect) (k : Nat), (abilityR_L0 c l k = .inr () ∧ ∀ e ∈ l, effect9 c e = true) ∨ (abilityR_L0 c l k = .inl false ∧ ¬ ∀ e ∈ l, effect9 c e = true)
  | [], k => .inl ⟨rfl, by simp⟩
  | x :: l, k => by
    rw [abilityR_L0, getUR_eq]
    have ih := abilityR_go c l (k + 1)
    have hx : effect9 c x = true ↔ (1 ≤ x.Kind ∧ x.Kind ≤ 7) ∧ (0 ≤ x.Amount ∧ x.Amount ≤ 1000000) ∧ (x.Kind = 4 → (getU c x.Aura).2 = true ∧ x.Amount = 0) ∧ (x.Kind ≠ 4 → x.Aura = 0) := by
      unfold effect9
      by_cases h1 : within9 x.Kind 1 7 = true
      · rw [if_pos h1]
        by_cases h2 : amounts9 [x.Amount] = true
        · rw [if_pos h2]
          have h3 := amounts_iff.1 h2 x.Amount (by simp)
          have h4 := within_iff.1 h1
          by_cases h5 : x.Kind = 4
          · rw [if_pos h5]; split <;> simp_all
          · rw [if_neg h5]; simp_all
        · rw [if_neg h2]
          have : ¬ (0 ≤ x.Amount ∧ x.Amount ≤ 1000000) := fun h => h2 (amounts_iff.2 (by simpa using h))
          simp only [Bool.false_eq_true, false_iff]; exact fun h => this h.2.1
      · rw [if_neg h1]
        have : ¬ (1 ≤ x.Kind ∧ x.Kind ≤ 7) := fun h => h1 (within_iff.2 h)
        simp only [Bool.false_eq_true, false_iff]; exact fun h => this h.1
    have bad : effect9 c x ≠ true → ¬ ∀ e ∈ x :: l, effect9 c e = true := fun h h2 => h (h2 x (by simp))
    have good : effect9 c x = true → ((abilityR_L0 c l (k + 1) = .inr () ∧ ∀ e ∈ x :: l, effect9 c e = true) ∨ (abilityR_L0 c l (k + 1) = .inl false ∧ ¬ ∀ e ∈ x :: l, effect9 c e = true)) := fun h => by
      rcases ih with ⟨a, b⟩ | ⟨a, b⟩
      · exact .inl ⟨a, fun e he => by rcases List.mem_cons.1 he with rfl | he; exact h; exact b e he⟩
      · exact .inr ⟨a, fun h2 => b fun e he => h2 e (List.mem_cons_of_mem _ he)⟩
    by_cases h1 : x.Kind < 1
    · rw [if_pos h1]; exact .inr ⟨rfl, bad fun h => by have := hx.1 h; omega⟩
    rw [if_neg h1]
    by_cases h2 : x.Kind > 7
    · rw [if_pos h2]; exact .inr ⟨rfl, bad fun h => by have := hx.1 h; omega⟩
    rw [if_neg h2]
    by_cases h3 : amountR x.Amount 0 = true
    · rw [if_pos h3]
      have h4 := amountR_iff.1 h3
      unfold abilityR_J79
      by_cases h5 : x.Kind = 4
      · rw [if_pos h5]
        dsimp only
        rw [if_pos h5]
        by_cases h6 : (getU c x.Aura).2 = true
        · rw [if_pos h6]
          by_cases h7 : x.Amount = 0
          · rw [if_pos h7]; exact good (hx.2 ⟨by omega, h4, fun _ => ⟨h6, h7⟩, fun h => absurd h5 h⟩)
          · rw [if_neg h7]; exact .inr ⟨rfl, bad fun h => h7 ((hx.1 h).2.2.1 h5).2⟩
        · rw [if_neg h6]; exact .inr ⟨rfl, bad fun h => h6 ((hx.1 h).2.2.1 h5).1⟩
      · rw [if_neg h5]
        by_cases h6 : x.Aura = 0
        · rw [if_pos h6]
          dsimp only
          rw [if_neg h5]; exact good (hx.2 ⟨by omega, h4, fun h => absurd h h5, fun _ => h6⟩)
        · rw [if_neg h6]; exact .inr ⟨rfl, bad fun h => h6 ((hx.1 h).2.2.2 h5)⟩
    · rw [if_neg h3]; exact .inr ⟨rfl, bad fun h => h3 (amountR_iff.2 (hx.1 h).2.1)⟩
theorem abilityR_eq (c : GContent) (a : GAbility) : abilityR c a = ability9 c a := by
  apply bool_eq
  have h9 : ability9 c a = true ↔ ((0 ≤ a.Cast ∧ a.Cast ≤ 1000000) ∧ (0 ≤ a.Cool ∧ a.Cool ≤ 1000000) ∧ (0 ≤ a.Range ∧ a.Range ≤ 1000000) ∧ (0 ≤ a.Cost ∧ a.Cost ≤ 1000000)) ∧ (1 ≤ a.Charges ∧ a.Charges ≤ 100) ∧ (1 ≤ (a.Effects.length : Int) ∧ (a.Effects.length : Int) ≤ 16) ∧ ∀ e ∈ a.Effects, effect9 c e = true := by
    unfold ability9
    have e1 : amounts9 [a.Cast, a.Cool, a.Range, a.Cost] = true ↔ ((0 ≤ a.Cast ∧ a.Cast ≤ 1000000) ∧ (0 ≤ a.Cool ∧ a.Cool ≤ 1000000) ∧ (0 ≤ a.Range ∧ a.Range ≤ 1000000) ∧ (0 ≤ a.Cost ∧ a.Cost ≤ 1000000)) := by rw [amounts_iff]; simp
    have e2 : (!(a.Effects.any (fun x_ => badE x_ c))) = true ↔ ∀ e ∈ a.Effects, effect9 c e = true := by simp [badE]
    rw [← e1, ← e2, ← within_iff, ← within_iff]
    split
    · split
      · split
        · simp_all
        · simp_all
      · simp_all
    · simp_all
  rw [h9]
  unfold abilityR
  have g := abilityR_go c a.Effects 0
  by_cases h1 : amountR a.Cast 0 = true
  · rw [if_pos h1]
    by_cases h2 : amountR a.Cool 0 = true
    · rw [if_pos h2]
      by_cases h3 : amountR a.Range 0 = true
      · rw [if_pos h3]
        by_cases h4 : amountR a.Cost 0 = true
        · rw [if_pos h4]
          rw [amountR_iff] at h1 h2 h3 h4
          by_cases h5 : a.Charges < 1
          · rw [if_pos h5]; exact ⟨(fun h => by cases h), fun h => by omega⟩
          rw [if_neg h5]
          by_cases h6 : a.Charges > 100
          · rw [if_pos h6]; exact ⟨(fun h => by cases h), fun h => by omega⟩
          rw [if_neg h6]
          by_cases h7 : (a.Effects.length : Int) < 1
          · rw [if_pos h7]; exact ⟨(fun h => by cases h), fun h => by omega⟩
          rw [if_neg h7]
          by_cases h8 : (a.Effects.length : Int) > 16
          · rw [if_pos h8]; exact ⟨(fun h => by cases h), fun h => by omega⟩
          rw [if_neg h8]
          rcases g with ⟨e, g⟩ | ⟨e, g⟩
          · rw [e]; exact ⟨fun _ => ⟨⟨h1, h2, h3, h4⟩, by omega, by omega, g⟩, fun _ => rfl⟩
          · rw [e]; exact ⟨(fun h => by cases h), fun h => absurd h.2.2.2 g⟩
        · rw [if_neg h4, ]; exact ⟨(fun h => by cases h), fun h => absurd (amountR_iff.2 h.1.2.2.2) h4⟩
      · rw [if_neg h3]; exact ⟨(fun h => by cases h), fun h => absurd (amountR_iff.2 h.1.2.2.1) h3⟩
    · rw [if_neg h2]; exact ⟨(fun h => by cases h), fun h => absurd (amountR_iff.2 h.1.2.1) h2⟩
  · rw [if_neg h1]; exact ⟨(fun h => by cases h), fun h => absurd (amountR_iff.2 h.1.1) h1⟩
theorem amounts1 {n : Int} : amounts9 [n] = true ↔ 0 ≤ n ∧ n ≤ 1000000 := by rw [amounts_iff]; simp
theorem amounts2 {n m : Int} : amounts9 [n, m] = true ↔ (0 ≤ n ∧ n ≤ 1000000) ∧ (0 ≤ m ∧ m ≤ 1000000) := by rw [amounts_iff]; simp
theorem line9_iff (c : GContent) (l : GLine) : line9 c l = true ↔ (1 ≤ l.Phase ∧ l.Phase ≤ 100) ∧ (1 ≤ l.When ∧ l.When ≤ 3) ∧ (1 ≤ l.Arg ∧ l.Arg ≤ if l.When = 1 then 100 else 1000000) ∧ (0 ≤ l.Value ∧ l.Value ≤ 1000000) ∧ (1 ≤ l.Do ∧ l.Do ≤ 4) ∧ (l.Do = 1 → 1 ≤ l.Value ∧ l.Value ≤ 100) ∧ (l.Do = 2 → (getA c l.Value).2 = true) := by
  unfold line9 line9_J8
  dsimp only
  by_cases h1 : within9 l.Phase 1 100 = true
  · rw [if_pos h1]
    by_cases h2 : within9 l.When 1 3 = true
    · rw [if_pos h2]
      by_cases h3 : within9 l.Arg 1 (if l.When = 1 then 100 else 1000000) = true
      · rw [if_pos h3]
        by_cases h4 : amounts9 [l.Value] = true
        · rw [if_pos h4]
          rw [within_iff] at h1 h2 h3
          rw [amounts1] at h4
          by_cases h5 : l.Do = 1
          · rw [if_pos h5, within_iff]
            exact ⟨fun h => ⟨h1, h2, h3, h4, by omega, fun _ => h, fun h => by omega⟩, fun h => h.2.2.2.2.2.1 h5⟩
          rw [if_neg h5]
          by_cases h6 : l.Do = 2
          · rw [if_pos h6]
            exact ⟨fun h => ⟨h1, h2, h3, h4, by omega, fun h => by omega, fun _ => h⟩, fun h => h.2.2.2.2.2.2 h6⟩
          rw [if_neg h6]
          by_cases h7 : l.Do = 3
          · rw [if_pos h7]
            exact ⟨fun h => ⟨h1, h2, h3, h4, by omega, fun h => by omega, fun h => by omega⟩, fun _ => rfl⟩
          rw [if_neg h7, beq_iff_eq]
          exact ⟨fun h => ⟨h1, h2, h3, h4, by omega, fun h => by omega, fun h => by omega⟩, fun h => by have := h.2.2.2.2.1; omega⟩
        · rw [if_neg h4]; exact ⟨(fun h => by cases h), fun h => absurd (amounts1.2 h.2.2.2.1) h4⟩
      · rw [if_neg h3]; exact ⟨(fun h => by cases h), fun h => absurd (within_iff.2 h.2.2.1) h3⟩
    · rw [if_neg h2]; exact ⟨(fun h => by cases h), fun h => absurd (within_iff.2 h.2.1) h2⟩
  · rw [if_neg h1]; exact ⟨(fun h => by cases h), fun h => absurd (within_iff.2 h.1) h1⟩
theorem lineR_J7_is (l : GLine) : (lineR_J7 l = .inr () ∧ (1 ≤ l.Phase ∧ l.Phase ≤ 100) ∧ (1 ≤ l.When ∧ l.When ≤ 3) ∧ (1 ≤ l.Arg ∧ l.Arg ≤ if l.When = 1 then 100 else 1000000) ∧ (0 ≤ l.Value ∧ l.Value ≤ 1000000) ∧ (1 ≤ l.Do ∧ l.Do ≤ 4)) ∨ (lineR_J7 l = .inl false ∧ ¬ ((1 ≤ l.Phase ∧ l.Phase ≤ 100) ∧ (1 ≤ l.When ∧ l.When ≤ 3) ∧ (1 ≤ l.Arg ∧ l.Arg ≤ if l.When = 1 then 100 else 1000000) ∧ (0 ≤ l.Value ∧ l.Value ≤ 1000000) ∧ (1 ≤ l.Do ∧ l.Do ≤ 4))) := by
  unfold lineR_J7
  by_cases h1 : l.Phase < 1
  · rw [if_pos h1]; exact .inr ⟨rfl, fun h => by omega⟩
  rw [if_neg h1]
  by_cases h2 : l.Phase > 100
  · rw [if_pos h2]; exact .inr ⟨rfl, fun h => by omega⟩
  rw [if_neg h2]
  by_cases h3 : l.When < 1
  · rw [if_pos h3]; exact .inr ⟨rfl, fun h => by omega⟩
  rw [if_neg h3]
  by_cases h4 : l.When > 3
  · rw [if_pos h4]; exact .inr ⟨rfl, fun h => by omega⟩
  rw [if_neg h4]
  by_cases h5 : l.Do < 1
  · rw [if_pos h5]; exact .inr ⟨rfl, fun h => by omega⟩
  rw [if_neg h5]
  by_cases h6 : l.Do > 4
  · rw [if_pos h6]; exact .inr ⟨rfl, fun h => by omega⟩
  rw [if_neg h6]
  by_cases h7 : amountR l.Arg 1 = true
  · rw [if_pos h7]
    rw [amountR_iff] at h7
    by_cases h8 : l.When = 1
    · simp only [if_pos h8]
      by_cases h9 : l.Arg > 100
      · rw [if_pos h9]; exact .inr ⟨rfl, fun h => by omega⟩
      rw [if_neg h9]
      by_cases h10 : amountR l.Value 0 = true
      · rw [if_pos h10]; rw [amountR_iff] at h10; exact .inl ⟨rfl, by omega, by omega, by omega, h10, by omega⟩
      · rw [if_neg h10]; exact .inr ⟨rfl, fun h => h10 (amountR_iff.2 h.2.2.2.1)⟩
    · simp only [if_neg h8]
      by_cases h10 : amountR l.Value 0 = true
      · rw [if_pos h10]; rw [amountR_iff] at h10; exact .inl ⟨rfl, by omega, by omega, by omega, h10, by omega⟩
      · rw [if_neg h10]; exact .inr ⟨rfl, fun h => h10 (amountR_iff.2 h.2.2.2.1)⟩
  · rw [if_neg h7]
    refine .inr ⟨rfl, fun h => h7 (amountR_iff.2 ⟨h.2.2.1.1, ?_⟩)⟩
    have := h.2.2.1.2
    split at this <;> omega
theorem lineR_eq (c : GContent) (l : GLine) : lineR c l = line9 c l := by
  apply bool_eq
  rw [line9_iff]
  unfold lineR lineR_J60
  rcases lineR_J7_is l with ⟨e, h1, h2, h3, h4, h5⟩ | ⟨e, h⟩
  · rw [e]
    dsimp only
    by_cases d1 : l.Do = 1
    · rw [if_pos d1]
      by_cases v : l.Value ≥ 1
      · rw [if_pos v, decide_eq_true_eq]
        exact ⟨fun h => ⟨h1, h2, h3, h4, h5, fun _ => by omega, fun h => by omega⟩, fun h => (h.2.2.2.2.2.1 d1).2⟩
      · rw [if_neg v]; exact ⟨(fun h => by cases h), fun h => by have := h.2.2.2.2.2.1 d1; omega⟩
    · rw [if_neg d1]
      by_cases d2 : l.Do = 2
      · rw [if_pos d2, getAR_eq]
        exact ⟨fun h => ⟨h1, h2, h3, h4, h5, fun h => by omega, fun _ => h⟩, fun h => h.2.2.2.2.2.2 d2⟩
      · rw [if_neg d2]
        exact ⟨fun h => ⟨h1, h2, h3, h4, h5, fun h => by omega, fun h => by omega⟩, fun _ => rfl⟩
  · rw [e]
    dsimp only
    exact ⟨(fun h => by cases h), fun h2 => absurd ⟨h2.1, h2.2.1, h2.2.2.1, h2.2.2.2.1, h2.2.2.2.2.1⟩ h⟩
theorem foeR_go0 (c : GContent) : ∀ (l : List GLine) (k : Nat), (foeR_L0 c l k = .inr () ∧ ∀ x ∈ l, line9 c x = true) ∨ (foeR_L0 c l k = .inl false ∧ ¬ ∀ x ∈ l, line9 c x = true)
  | [], k => .inl ⟨rfl, by simp⟩
  | x :: l, k => by
    rw [foeR_L0, lineR_eq]
    by_cases h : line9 c x = true
    · rw [if_pos h]
      rcases foeR_go0 c l (k + 1) with ⟨a, b⟩ | ⟨a, b⟩
      · exact .inl ⟨a, fun e he => by rcases List.mem_cons.1 he with rfl | he; exact h; exact b e he⟩
      · exact .inr ⟨a, fun h2 => b fun e he => h2 e (List.mem_cons_of_mem _ he)⟩
    · rw [if_neg h]; exact .inr ⟨rfl, fun h2 => h (h2 x (by simp))⟩
theorem prize_iff (x : GPrize) : prize9 x = true ↔ amountR x.Item 1 = true ∧ amountR x.Weight 1 = true := by
  unfold prize9
  have e1 : within9 x.Item 1 1000000 = true ↔ amountR x.Item 1 = true := by rw [within_iff, amountR_iff]
  have e2 : within9 x.Weight 1 1000000 = true ↔ amountR x.Weight 1 = true := by rw [within_iff, amountR_iff]
  by_cases h : within9 x.Item 1 1000000 = true
  · rw [if_pos h, e2]; exact ⟨fun h2 => ⟨e1.1 h, h2⟩, fun h2 => h2.2⟩
  · rw [if_neg h]; exact ⟨(fun h => by cases h), fun h2 => absurd (e1.2 h2.1) h⟩
theorem foeR_go1 : ∀ (l : List GPrize) (k : Nat), (foeR_L1 l k = .inr () ∧ ∀ x ∈ l, prize9 x = true) ∨ (foeR_L1 l k = .inl false ∧ ¬ ∀ x ∈ l, prize9 x = true)
  | [], k => .inl ⟨rfl, by simp⟩
  | x :: l, k => by
    rw [foeR_L1]
    have hp := prize_iff x
    by_cases h1 : amountR x.Item 1 = true
    · rw [if_pos h1]
      by_cases h2 : amountR x.Weight 1 = true
      · rw [if_pos h2]
        rcases foeR_go1 l (k + 1) with ⟨a, b⟩ | ⟨a, b⟩
        · exact .inl ⟨a, fun e he => by rcases List.mem_cons.1 he with rfl | he; exact hp.2 ⟨h1, h2⟩; exact b e he⟩
        · exact .inr ⟨a, fun h2 => b fun e he => h2 e (List.mem_cons_of_mem _ he)⟩
      · rw [if_neg h2]; exact .inr ⟨rfl, fun h => h2 (hp.1 (h x (by simp))).2⟩
    · rw [if_neg h1]; exact .inr ⟨rfl, fun h => h1 (hp.1 (h x (by simp))).1⟩
def FoeOk (c : GContent) (f : GFoe) : Prop := ((1 ≤ f.Health ∧ f.Health ≤ 1000000) ∧ (1 ≤ f.Every ∧ f.Every ≤ 1000000) ∧ (0 ≤ f.Hit ∧ f.Hit ≤ 1000000) ∧ (0 ≤ f.Reach ∧ f.Reach ≤ 1000000)) ∧ ((0 ≤ f.Drops ∧ f.Drops ≤ 16) ∧ (f.Script.length : Int) ≤ 16 ∧ (f.Hoard.length : Int) ≤ 16 ∧ (f.Drops > 0 → ¬ (f.Hoard.length : Int) = 0)) ∧ (∀ x ∈ f.Script, line9 c x = true) ∧ ∀ x ∈ f.Hoard, prize9 x = true
theorem foe9_J7_is (f : GFoe) : foe9_J7 f = false ↔ ((1 ≤ f.Health ∧ f.Health ≤ 1000000) ∧ (1 ≤ f.Every ∧ f.Every ≤ 1000000) ∧ (0 ≤ f.Hit ∧ f.Hit ≤ 1000000) ∧ (0 ≤ f.Reach ∧ f.Reach ≤ 1000000)) := by
  unfold foe9_J7
  by_cases h1 : within9 f.Health 1 1000000 = true
  · rw [if_pos h1]
    by_cases h2 : within9 f.Every 1 1000000 = true
    · rw [if_pos h2]
      rw [within_iff] at h1 h2
      simp only [Bool.not_eq_false', amounts2]
      exact ⟨fun h => ⟨h1, h2, h.1, h.2⟩, fun h => h.2.2⟩
    · rw [if_neg h2]
      simp only [h2]
      exact ⟨(fun h => by simp at h), fun h => absurd (within_iff.2 h.2.1) h2⟩
  · rw [if_neg h1]
    simp only [h1]
    exact ⟨(fun h => by simp at h), fun h => absurd (within_iff.2 h.1) h1⟩
theorem foe9_J23_is (f : GFoe) : foe9_J23 f = false ↔ ((0 ≤ f.Drops ∧ f.Drops ≤ 16) ∧ (f.Script.length : Int) ≤ 16 ∧ (f.Hoard.length : Int) ≤ 16 ∧ (f.Drops > 0 → ¬ (f.Hoard.length : Int) = 0)) := by
  unfold foe9_J23
  by_cases h1 : within9 f.Drops 0 16 = true
  · rw [if_pos h1]
    rw [within_iff] at h1
    by_cases h2 : (f.Script.length : Int) > 16
    · rw [if_pos h2]; exact ⟨fun h => by have := of_decide_eq_false h; omega, fun h => by omega⟩
    rw [if_neg h2]
    by_cases h3 : (f.Hoard.length : Int) > 16
    · rw [if_pos h3]; exact ⟨fun h => by have := of_decide_eq_false h; omega, fun h => by omega⟩
    rw [if_neg h3]
    by_cases h4 : f.Drops > 0
    · rw [if_pos h4, beq_eq_false_iff_ne]; exact ⟨fun h => ⟨h1, by omega, by omega, fun _ => h⟩, fun h => h.2.2.2 h4⟩
    · rw [if_neg h4]; exact ⟨fun _ => ⟨h1, by omega, by omega, fun h => absurd h h4⟩, fun _ => rfl⟩
  · rw [if_neg h1]
    simp only [h1]
    exact ⟨(fun h => by simp at h), fun h => absurd (within_iff.2 h.1) h1⟩
theorem foe9_iff (c : GContent) (f : GFoe) : foe9 c f = true ↔ FoeOk c f := by
  unfold foe9 FoeOk
  dsimp only
  rw [← foe9_J7_is, ← foe9_J23_is]
  cases foe9_J7 f with
  | true => simp
  | false =>
    cases foe9_J23 f with
    | true => simp
    | false =>
      rw [if_neg (by decide), if_neg (by decide)]
      by_cases h : f.Script.any (fun x_ => badL x_ c) = true
      · rw [if_pos h]
        refine ⟨(fun h => by cases h), fun h2 => ?_⟩
        obtain ⟨x, hx, hb⟩ := List.any_eq_true.1 h
        have := h2.2.2.1 x hx
        simp [badL, this] at hb
      · rw [if_neg h]
        have hs : ∀ x ∈ f.Script, line9 c x = true := fun x hx => by
          apply Classical.byContradiction; intro hn
          exact h (List.any_eq_true.2 ⟨x, hx, by simp [badL, hn]⟩)
        constructor
        · intro h2
          refine ⟨rfl, rfl, hs, fun x hx => ?_⟩
          simp only [Bool.not_eq_true', List.any_eq_false] at h2
          have := h2 x hx
          simpa [badP] using this
        · intro h2
          simp only [Bool.not_eq_true', List.any_eq_false]
          intro x hx
          simp [badP, h2.2.2.2 x hx]
theorem foeR_iff (c : GContent) (f : GFoe) : foeR c f = true ↔ FoeOk c f := by
  have hJ : (foeR_J8 f = .inr () ∧ (((1 ≤ f.Health ∧ f.Health ≤ 1000000) ∧ (1 ≤ f.Every ∧ f.Every ≤ 1000000) ∧ (0 ≤ f.Hit ∧ f.Hit ≤ 1000000) ∧ (0 ≤ f.Reach ∧ f.Reach ≤ 1000000)) ∧ ((0 ≤ f.Drops ∧ f.Drops ≤ 16) ∧ (f.Script.length : Int) ≤ 16 ∧ (f.Hoard.length : Int) ≤ 16 ∧ (f.Drops > 0 → ¬ (f.Hoard.length : Int) = 0)))) ∨ (foeR_J8 f = .inl false ∧ ¬ (((1 ≤ f.Health ∧ f.Health ≤ 1000000) ∧ (1 ≤ f.Every ∧ f.Every ≤ 1000000) ∧ (0 ≤ f.Hit ∧ f.Hit ≤ 1000000) ∧ (0 ≤ f.Reach ∧ f.Reach ≤ 1000000)) ∧ ((0 ≤ f.Drops ∧ f.Drops ≤ 16) ∧ (f.Script.length : Int) ≤ 16 ∧ (f.Hoard.length : Int) ≤ 16 ∧ (f.Drops > 0 → ¬ (f.Hoard.length : Int) = 0)))) := by
    unfold foeR_J8
    by_cases h1 : amountR f.Health 1 = true
    case neg => rw [if_neg h1]; exact .inr ⟨rfl, fun h => h1 (amountR_iff.2 h.1.1)⟩
    rw [if_pos h1]
    by_cases h2 : amountR f.Hit 0 = true
    case neg => rw [if_neg h2]; exact .inr ⟨rfl, fun h => h2 (amountR_iff.2 h.1.2.2.1)⟩
    rw [if_pos h2]
    by_cases h3 : amountR f.Reach 0 = true
    case neg => rw [if_neg h3]; exact .inr ⟨rfl, fun h => h3 (amountR_iff.2 h.1.2.2.2)⟩
    rw [if_pos h3]
    by_cases h4 : amountR f.Every 1 = true
    case neg => rw [if_neg h4]; exact .inr ⟨rfl, fun h => h4 (amountR_iff.2 h.1.2.1)⟩
    rw [if_pos h4]
    rw [amountR_iff] at h1 h2 h3 h4
    by_cases h5 : f.Drops < 0
    case pos => rw [if_pos h5]; exact .inr ⟨rfl, fun h => by omega⟩
    rw [if_neg h5]
    by_cases h6 : f.Drops > 16
    case pos => rw [if_pos h6]; exact .inr ⟨rfl, fun h => by omega⟩
    rw [if_neg h6]
    by_cases h7 : (f.Script.length : Int) > 16
    case pos => rw [if_pos h7]; exact .inr ⟨rfl, fun h => by omega⟩
    rw [if_neg h7]
    by_cases h8 : (f.Hoard.length : Int) > 16
    case pos => rw [if_pos h8]; exact .inr ⟨rfl, fun h => by omega⟩
    rw [if_neg h8]
    by_cases h9 : f.Drops > 0
    · rw [if_pos h9]
      by_cases h10 : (f.Hoard.length : Int) = 0
      · rw [if_pos h10]; exact .inr ⟨rfl, fun h => h.2.2.2.2 h9 h10⟩
      · rw [if_neg h10]; exact .inl ⟨rfl, ⟨h1, h4, h2, h3⟩, by omega, by omega, by omega, fun _ => h10⟩
    · rw [if_neg h9]; exact .inl ⟨rfl, ⟨h1, h4, h2, h3⟩, by omega, by omega, by omega, fun h => absurd h h9⟩
  unfold foeR FoeOk
  rcases hJ with ⟨e, h1, h2⟩ | ⟨e, h⟩
  · rw [e]
    dsimp only
    rcases foeR_go0 c f.Script 0 with ⟨e0, h3⟩ | ⟨e0, h3⟩
    · rw [e0]
      dsimp only
      rcases foeR_go1 f.Hoard 0 with ⟨e1, h4⟩ | ⟨e1, h4⟩
      · rw [e1]; exact ⟨fun _ => ⟨h1, h2, h3, h4⟩, fun _ => rfl⟩
      · rw [e1]; exact ⟨(fun h => by cases h), fun h => absurd h.2.2.2 h4⟩
    · rw [e0]; exact ⟨(fun h => by cases h), fun h => absurd h.2.2.1 h3⟩
  · rw [e]; exact ⟨(fun h => by cases h), fun h2 => absurd ⟨h2.1, h2.2.1⟩ h⟩
theorem foeR_eq (c : GContent) (f : GFoe) : foeR c f = foe9 c f := bool_eq (by rw [foe9_iff, foeR_iff])
theorem checkR_go0 (c : GContent) : ∀ (l : List GAbility) (k : Nat) (b : List Bool) (i : List Int), checkR_L0 c l k b i = (b ++ l.map (fun x => !okA x c), i ++ l.map fun x => idA x)
  | [], k, b, i => by rw [checkR_L0]; simp
  | x :: l, k, b, i => by rw [checkR_L0, checkR_go0 c l, abilityR_eq]; simp [okA, idA]
theorem checkR_go1 : ∀ (l : List GAura) (k : Nat) (b : List Bool) (i : List Int), checkR_L1 l k b i = (b ++ l.map (fun x => !aura9 x), i ++ l.map fun x => idU x)
  | [], k, b, i => by rw [checkR_L1]; simp
  | x :: l, k, b, i => by rw [checkR_L1, checkR_go1 l, auraR_eq]; simp [idU]
theorem checkR_go2 (c : GContent) : ∀ (l : List GFoe) (k : Nat) (b : List Bool) (i : List Int), checkR_L2 c l k b i = (b ++ l.map (fun x => !okF x c), i ++ l.map fun x => idF x)
  | [], k, b, i => by rw [checkR_L2]; simp
  | x :: l, k, b, i => by rw [checkR_L2, checkR_go2 c l, foeR_eq]; simp [okF, idF]
theorem gridWallR_eq (g : GGrid) (p : GPos) : gridWallR g p = gridWall g p := by unfold gridWallR gridWall; rw [gridInR_eq]; rfl
theorem rightR9_eq (c : GContent) : rightR9 c = right9 c := by
  apply bool_eq
  rw [right_iff]
  have ha := firstR_is (fun x_ => idA x_) (fun x_ => okA x_ c) c.Abilities
  have hu := firstR_is (fun x_ => idU x_) (fun x_ => aura9 x_) c.Auras
  have hf := firstR_is (fun x_ => idF x_) (fun x_ => okF x_ c) c.Foes
  unfold rightR9 checkR
  rw [checkR_go0, checkR_go1, checkR_go2]
  simp only [List.nil_append, gridWallR_eq]
  rcases ha with ⟨e1, g1⟩ | ⟨e1, g1⟩
  · rw [if_neg (by omega)]
    rcases hu with ⟨e2, g2⟩ | ⟨e2, g2⟩
    · rw [if_neg (by omega)]
      rcases hf with ⟨e3, g3⟩ | ⟨e3, g3⟩
      · rw [if_neg (by omega)]
        by_cases hd : gridWall c.Map c.Door = true
        · rw [if_pos hd]; exact ⟨(fun h => by cases h), fun h => by rw [h.door] at hd; cases hd⟩
        · rw [if_neg hd]
          by_cases hl : gridWall c.Map c.Lair = true
          · rw [if_pos hl]; exact ⟨(fun h => by cases h), fun h => by rw [h.lair] at hl; cases hl⟩
          · rw [if_neg hl]; exact ⟨fun _ => ⟨g1, g2, g3, by simpa using hd, by simpa using hl⟩, fun _ => rfl⟩
      · rw [if_pos e3]; exact ⟨(fun h => by cases h), fun h => absurd h.fo g3⟩
    · rw [if_pos e2]; exact ⟨(fun h => by cases h), fun h => absurd h.au g2⟩
  · rw [if_pos e1]; exact ⟨(fun h => by cases h), fun h => absurd h.ab g1⟩
end Go.Proofs.Ytcbdecknbfabaaa

import Derived.Test.YtjefbekleaelfaaLaw09
namespace Go.Proofs.Ytjefbekleaelfaa
open Go Go.RowKit Go.Proofs.YtjefbekleaelfaaVm
attribute [local irreducible] opsWp AnswersE OpsS
set_option maxHeartbeats 400000
set_option maxRecDepth 100000
set_option linter.all false
/-- a part that is right: rising numbers, each right, 64 at most -/
def Good {α : Type} (id : α → Int) (right : α → Bool) : List α → Nat → Int → Prop
  | [], _, _ => True
  | x :: l, k, last => k ≠ 64 ∧ last < id x ∧ right x = true ∧ Good id right l (k + 1) (id x)
section
variable {α : Type} {id : α → Int} {right : α → Bool}
theorem Good.take : ∀ {l : List α} {k : Nat} {last : Int} (n : Nat), Good id right l k last → Good id right (l.take n) k last
  | [], _, _, n, h => by simp [Good]
  | x :: l, k, last, 0, h => trivial
  | x :: l, k, last, n + 1, h => ⟨h.1, h.2.1, h.2.2.1, Good.take n h.2.2.2⟩
theorem Good.mem : ∀ {l : List α} {k : Nat} {last : Int}, Good id right l k last → ∀ x ∈ l, last < id x ∧ right x = true
  | [], _, _, h, x, hx => by cases hx
  | y :: l, k, last, h, x, hx => by
    rcases List.mem_cons.1 hx with rfl | hx
    · exact ⟨h.2.1, h.2.2.1⟩
    · have := Good.mem h.2.2.2 x hx; exact ⟨Int.lt_trans h.2.1 this.1, this.2⟩
theorem Good.len : ∀ {l : List α} {k : Nat} {last : Int}, k ≤ 64 → Good id right l k last → k + l.length ≤ 64
  | [], _, _, hk, h => by simpa using hk
  | y :: l, k, last, hk, h => by have := Good.len (k := k + 1) (by have := h.1; omega) h.2.2.2; simp only [List.length_cons]; omega
theorem Good.one : ∀ {l : List α} {k : Nat} {last : Int}, Good id right l k last → ∀ x ∈ l, ∀ y ∈ l, id x = id y → x = y
  | [], _, _, h, x, hx, _, _ => by cases hx
  | z :: l, k, last, h, x, hx, y, hy => by
    intro e
    rcases List.mem_cons.1 hx with h8 | h8
    · rcases List.mem_cons.1 hy with h9 | h9
      · rw [h8, h9]
      · have := (Good.mem h.2.2.2 y h9).1; rw [h8] at e; omega
    · rcases List.mem_cons.1 hy with h9 | h9
      · have := (Good.mem h.2.2.2 x h8).1; rw [h9] at e; omega
      · exact Good.one h.2.2.2 x h8 y h9 e
end
theorem firstA_iff (id : GAbility → Int) (right : GAbility → Bool) : ∀ (l : List GAbility) (k : Nat) (last : Int), (firstA_L0 id right l k last (-1) = -1 ∧ Good id right l k last) ∨ (firstA_L0 id right l k last (-1) ≥ 0 ∧ ¬ Good id right l k last)
  | [], k, last => .inl ⟨rfl, trivial⟩
  | x :: l, k, last => by
    rw [firstA_L0]
    by_cases h1 : (k : Int) = 64
    · rw [if_pos h1]; exact .inr ⟨by omega, fun h => h.1 (by omega)⟩
    · rw [if_neg h1]
      by_cases h2 : id x ≤ last
      · rw [if_pos h2]; exact .inr ⟨by omega, fun h => by have := h.2.1; omega⟩
      · rw [if_neg h2]
        by_cases h3 : right x = true
        · rw [if_pos h3]
          rcases firstA_iff id right l (k + 1) (id x) with ⟨a, b⟩ | ⟨a, b⟩
          · exact .inl ⟨a, by omega, by omega, h3, b⟩
          · exact .inr ⟨a, fun h => b h.2.2.2⟩
        · rw [if_neg h3]; exact .inr ⟨by omega, fun h => h3 h.2.2.1⟩
theorem firstU_iff (id : GAura → Int) (right : GAura → Bool) : ∀ (l : List GAura) (k : Nat) (last : Int), (firstU_L0 id right l k last (-1) = -1 ∧ Good id right l k last) ∨ (firstU_L0 id right l k last (-1) ≥ 0 ∧ ¬ Good id right l k last)
  | [], k, last => .inl ⟨rfl, trivial⟩
  | x :: l, k, last => by
    rw [firstU_L0]
    by_cases h1 : (k : Int) = 64
    · rw [if_pos h1]; exact .inr ⟨by omega, fun h => h.1 (by omega)⟩
    · rw [if_neg h1]
      by_cases h2 : id x ≤ last
      · rw [if_pos h2]; exact .inr ⟨by omega, fun h => by have := h.2.1; omega⟩
      · rw [if_neg h2]
        by_cases h3 : right x = true
        · rw [if_pos h3]
          rcases firstU_iff id right l (k + 1) (id x) with ⟨a, b⟩ | ⟨a, b⟩
          · exact .inl ⟨a, by omega, by omega, h3, b⟩
          · exact .inr ⟨a, fun h => b h.2.2.2⟩
        · rw [if_neg h3]; exact .inr ⟨by omega, fun h => h3 h.2.2.1⟩
theorem firstF_iff (id : GFoe → Int) (right : GFoe → Bool) : ∀ (l : List GFoe) (k : Nat) (last : Int), (firstF_L0 id right l k last (-1) = -1 ∧ Good id right l k last) ∨ (firstF_L0 id right l k last (-1) ≥ 0 ∧ ¬ Good id right l k last)
  | [], k, last => .inl ⟨rfl, trivial⟩
  | x :: l, k, last => by
    rw [firstF_L0]
    by_cases h1 : (k : Int) = 64
    · rw [if_pos h1]; exact .inr ⟨by omega, fun h => h.1 (by omega)⟩
    · rw [if_neg h1]
      by_cases h2 : id x ≤ last
      · rw [if_pos h2]; exact .inr ⟨by omega, fun h => by have := h.2.1; omega⟩
      · rw [if_neg h2]
        by_cases h3 : right x = true
        · rw [if_pos h3]
          rcases firstF_iff id right l (k + 1) (id x) with ⟨a, b⟩ | ⟨a, b⟩
          · exact .inl ⟨a, by omega, by omega, h3, b⟩
          · exact .inr ⟨a, fun h => b h.2.2.2⟩
        · rw [if_neg h3]; exact .inr ⟨by omega, fun h => h3 h.2.2.1⟩
/-- right content -/
structure Rc (c : GContent) : Prop where
  ab : Good (fun x_ => idA x_) (fun x_ => okA x_ c) c.Abilities 0 0
  au : Good (fun x_ => idU x_) (fun x_ => aura9 x_) c.Auras 0 0
  fo : Good (fun x_ => idF x_) (fun x_ => okF x_ c) c.Foes 0 0
  door : gridWall c.Map c.Door = false
  lair : gridWall c.Map c.Lair = false
theorem right_iff (c : GContent) : right9 c = true ↔ Rc c := by
  have ha := firstA_iff (fun x_ => idA x_) (fun x_ => okA x_ c) c.Abilities 0 0
  have hu := firstU_iff (fun x_ => idU x_) (fun x_ => aura9 x_) c.Auras 0 0
  have hf := firstF_iff (fun x_ => idF x_) (fun x_ => okF x_ c) c.Foes 0 0
  unfold right9 check9 firstA firstU firstF
  dsimp only
  rcases ha with ⟨e1, g1⟩ | ⟨e1, g1⟩
  · rw [e1, if_neg (by omega)]
    rcases hu with ⟨e2, g2⟩ | ⟨e2, g2⟩
    · rw [e2, if_neg (by omega)]
      rcases hf with ⟨e3, g3⟩ | ⟨e3, g3⟩
      · rw [e3, if_neg (by omega)]
        by_cases hd : gridWall c.Map c.Door = true
        · rw [if_pos hd]; exact ⟨(fun h => by cases h), fun h => by rw [h.door] at hd; cases hd⟩
        · rw [if_neg hd]
          by_cases hl : gridWall c.Map c.Lair = true
          · rw [if_pos hl]; exact ⟨(fun h => by cases h), fun h => by rw [h.lair] at hl; cases hl⟩
          · rw [if_neg hl]; exact ⟨fun _ => ⟨g1, g2, g3, by simpa using hd, by simpa using hl⟩, fun _ => rfl⟩
      · rw [if_pos e3]; exact ⟨(fun h => by cases h), fun h => absurd h.fo g3⟩
    · rw [if_pos e2]; exact ⟨(fun h => by cases h), fun h => absurd h.au g2⟩
  · rw [if_pos e1]; exact ⟨(fun h => by cases h), fun h => absurd h.ab g1⟩
theorem getA_at {c : GContent} (h : Rc c) {x : GAbility} (hx : x ∈ c.Abilities) : getA c x.Id = (x, true) := by
  unfold getA findA copyA
  rcases fidx_cases (fun x_ => isA x_ x.Id) c.Abilities with ⟨h1, h2⟩ | ⟨k, y, h1, h2, h3, _⟩
  · have := h2 x hx; simp [isA, idA] at this
  · rw [h1, if_neg (by omega), Int.toNat_natCast, List.getD_eq_getElem?_getD, h2, Option.getD_some]
    have h4 : y.Id = x.Id := by simpa [isA, idA] using h3
    rw [Good.one h.ab y (List.mem_of_getElem? h2) x hx h4]
theorem getF_at {c : GContent} (h : Rc c) {x : GFoe} (hx : x ∈ c.Foes) : getF c x.Id = (x, true) := by
  unfold getF findF copyF
  rcases fidx_cases (fun x_ => isF x_ x.Id) c.Foes with ⟨h1, h2⟩ | ⟨k, y, h1, h2, h3, _⟩
  · have := h2 x hx; simp [isF, idF] at this
  · rw [h1, if_neg (by omega), Int.toNat_natCast, List.getD_eq_getElem?_getD, h2, Option.getD_some]
    have h4 : y.Id = x.Id := by simpa [isF, idF] using h3
    rw [Good.one h.fo y (List.mem_of_getElem? h2) x hx h4]
theorem getF_none {c : GContent} (h : Rc c) : (getF c 0).2 = false := by
  unfold getF findF
  rcases fidx_cases (fun x_ => isF x_ 0) c.Foes with ⟨h1, h2⟩ | ⟨k, y, h1, h2, h3, _⟩
  · rw [h1, if_pos (by omega)]
  · have h4 : y.Id = 0 := by simpa [isF, idF] using h3
    have h5 := (Good.mem h.fo y (List.mem_of_getElem? h2)).1
    simp only [idF] at h5; omega
theorem sameAR_self (a : GAbility) : sameAR a a = true := by
  have : ∀ n k, sameAR_L0 a a n k = .inr () := by
    intro n
    induction n with
    | zero => intro k; rw [sameAR_L0]
    | succ n ih => intro k; rw [sameAR_L0, if_pos (by simp), ih]
  unfold sameAR
  simp [this]
theorem sameFR_self (a : GFoe) : sameFR a a = true := by
  have h1 : ∀ n k, sameFR_L0 a a n k = .inr () := by
    intro n
    induction n with
    | zero => intro k; rw [sameFR_L0]
    | succ n ih => intro k; rw [sameFR_L0, if_pos (by simp), ih]
  have h2 : ∀ n k, sameFR_L1 a a n k = .inr () := by
    intro n
    induction n with
    | zero => intro k; rw [sameFR_L1]
    | succ n ih => intro k; rw [sameFR_L1, if_pos (by simp), ih]
  unfold sameFR
  simp [h1, h2]
theorem within_iff {n lo hi : Int} : within9 n lo hi = true ↔ lo ≤ n ∧ n ≤ hi := by
  unfold within9
  split <;> simp <;> omega
theorem amounts_iff {l : List Int} : amounts9 l = true ↔ ∀ n ∈ l, 0 ≤ n ∧ n ≤ 1000000 := by
  unfold amounts9 amount9
  simp only [Bool.not_eq_true', List.any_eq_false, Bool.not_eq_true', Bool.not_eq_false, within_iff]
theorem ability_facts {c : GContent} {a : GAbility} (h : okA a c = true) : (0 ≤ a.Cast ∧ a.Cast ≤ 1000000) ∧ 1 ≤ a.Charges ∧ 1 ≤ a.Effects.length ∧ ∀ e ∈ a.Effects, effect9 c e = true := by
  unfold okA ability9 at h
  split at h
  case isFalse => cases h
  rename_i h1
  split at h
  case isFalse => cases h
  rename_i h2
  split at h
  case isFalse => cases h
  rename_i h3
  rw [amounts_iff] at h1
  rw [within_iff] at h2 h3
  refine ⟨h1 _ (by simp), h2.1, by omega, fun e he => ?_⟩
  simp only [Bool.not_eq_true', List.any_eq_false] at h
  have := h e he
  simpa [badE] using this
theorem effect_facts {c : GContent} {e : GEffect} (h : effect9 c e = true) (hk : e.Kind = 4) : (getU c e.Aura).2 = true := by
  unfold effect9 at h
  split at h
  case isFalse => cases h
  split at h
  case isFalse => cases h
  split at h
  case isFalse => cases h
  assumption
theorem foe_facts {c : GContent} {f : GFoe} (h : okF f c = true) : 1 ≤ f.Health ∧ 1 ≤ f.Every := by
  unfold okF foe9 at h
  dsimp only at h
  split at h
  · cases h
  · rename_i h1
    unfold foe9_J7 at h1
    split at h1
    · rename_i h2
      split at h1
      · rename_i h3
        rw [within_iff] at h2 h3
        exact ⟨h2.1, h3.1⟩
      · rename_i h3; simp [h3] at h1
    · rename_i h2; simp [h2] at h1
theorem stays09_go1 (c : GContent) : ∀ (l : List GEffect) (k : Nat), (∀ e ∈ l, effect9 c e = true) → stays09_L1 c l k = .inr ()
  | [], k, _ => rfl
  | x :: l, k, h => by
    rw [stays09_L1, stays09_go1 c l (k + 1) fun e he => h e (List.mem_cons_of_mem _ he)]
    split
    · rename_i hk
      rw [if_pos (effect_facts (h x (by simp)) hk)]
    · rfl
theorem stays09_go0 {c : GContent} (hr : Rc c) : ∀ (l : List GAbility) (k : Nat), (∀ a ∈ l, a ∈ c.Abilities) → stays09_L0 c l k = .inr ()
  | [], k, _ => rfl
  | x :: l, k, h => by
    have hx := h x (by simp)
    have hf := ability_facts (Good.mem hr.ab x hx).2
    rw [stays09_L0, getA_at hr hx]
    dsimp only
    rw [if_pos rfl, if_pos (sameAR_self x), if_neg (by omega), if_neg (by omega), if_neg (by omega), if_neg (by omega), stays09_go1 c _ 0 hf.2.2.2]
    exact stays09_go0 hr l (k + 1) fun a ha => h a (List.mem_cons_of_mem _ ha)
theorem stays09_go2 {c : GContent} (hr : Rc c) : ∀ (l : List GFoe) (k : Nat), (∀ a ∈ l, a ∈ c.Foes) → stays09_L2 c l k = .inr ()
  | [], k, _ => rfl
  | x :: l, k, h => by
    have hx := h x (by simp)
    have hf := foe_facts (Good.mem hr.fo x hx).2
    rw [stays09_L2, getF_at hr hx]
    dsimp only
    rw [if_pos rfl, if_pos (sameFR_self x), if_neg (by omega), if_neg (by omega)]
    exact stays09_go2 hr l (k + 1) fun a ha => h a (List.mem_cons_of_mem _ ha)
theorem rc_cut {c : GContent} (h : Rc c) (n : Nat) : Rc ⟨c.Abilities, c.Auras, c.Foes.take n, c.Map, c.Door, c.Lair⟩ := ⟨h.ab, h.au, h.fo.take n, h.door, h.lair⟩
theorem small09_true : small09 = true := by decide +kernel
theorem stays09_true (c : GContent) : stays09 c = true := by
  unfold stays09
  rw [small09_true]
  split
  · split
    · rename_i h1 h2
      have hr := (right_iff c).1 h2
      rw [stays09_go0 hr _ 0 fun _ h => h]
      dsimp only
      rw [stays09_go2 hr _ 0 fun _ h => h]
      dsimp only
      have hd : gridIn c.Map c.Door = true := by
        have := hr.door
        unfold gridWall at this
        split at this
        · assumption
        · cases this
      have hJ : Rc (stays09_J178 c) := by
        unfold stays09_J178
        split
        · exact rc_cut hr _
        · exact hr
      have l1 := Good.len (by omega) hr.ab
      have l2 := Good.len (by omega) hr.au
      have l3 := Good.len (by omega) hr.fo
      rw [if_pos hd, if_neg (by rw [hr.lair]; decide), if_neg (by omega), if_neg (by omega), if_neg (by omega), if_pos rfl, if_pos ((right_iff _).2 hJ), getF_none hJ]
      rfl
    · rfl
  · rfl
theorem stays09_yes (c : GContent) : Ok Try.prog 4 [aGContent c] [] (B true) [] [] := by
  have h := stays09_ok c
  rwa [stays09_true] at h

end Go.Proofs.Ytjefbekleaelfaa

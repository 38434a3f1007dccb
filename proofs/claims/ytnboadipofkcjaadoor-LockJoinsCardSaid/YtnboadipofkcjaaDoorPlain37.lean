import Derived.Test.YtnboadipofkcjaaDoorLaw37
namespace Go.Proofs.YtnboadipofkcjaaDoor
open Go Go.RowKit Go.Proofs.YtnboadipofkcjaaDoorVm
attribute [local irreducible] opsWp AnswersE OpsS
set_option maxHeartbeats 400000
set_option maxRecDepth 100000
set_option linter.all false
/-! the order of locks -/
theorem bl_irr : ∀ a : List UInt8, Op.bytesLess a a = false
  | [] => rfl
  | x :: a => by simp [Op.bytesLess, bl_irr a]
theorem bl_trans : ∀ {a b c : List UInt8}, Op.bytesLess a b = true → Op.bytesLess b c = true → Op.bytesLess a c = true
  | _, [], _, h, _ => by simp [Op.bytesLess] at h
  | _, _ :: _, [], _, h => by simp [Op.bytesLess] at h
  | [], _ :: _, _ :: _, _, _ => rfl
  | x :: a, y :: b, z :: c, h1, h2 => by
    simp only [Op.bytesLess, Bool.or_eq_true, decide_eq_true_eq, Bool.and_eq_true, beq_iff_eq, UInt8.lt_iff_toNat_lt] at *
    rcases h1 with h1 | ⟨rfl, h1⟩
    · rcases h2 with h2 | ⟨rfl, h2⟩
      · left; omega
      · left; exact h1
    · rcases h2 with h2 | ⟨rfl, h2⟩
      · left; exact h2
      · right; exact ⟨rfl, bl_trans h1 h2⟩
theorem bl_tri : ∀ (a b : List UInt8), Op.bytesLess a b = true ∨ a = b ∨ Op.bytesLess b a = true
  | [], [] => .inr (.inl rfl)
  | [], _ :: _ => .inl rfl
  | _ :: _, [] => .inr (.inr rfl)
  | x :: a, y :: b => by
    simp only [Op.bytesLess, Bool.or_eq_true, decide_eq_true_eq, Bool.and_eq_true, beq_iff_eq, UInt8.lt_iff_toNat_lt]
    rcases Nat.lt_trichotomy x.toNat y.toNat with h | h | h
    · exact .inl (.inl h)
    · have e : x = y := UInt8.toNat_inj.1 h
      subst e
      rcases bl_tri a b with h1 | rfl | h1
      · exact .inl (.inr ⟨rfl, h1⟩)
      · exact .inr (.inl rfl)
      · exact .inr (.inr (.inr ⟨rfl, h1⟩))
    · exact .inr (.inr (.inl h))
abbrev Lt (a b : GLock) : Prop := aheadR a b = true
abbrev keyOf (a : GLock) : List UInt8 × Int := (a.Name, a.Foe)
theorem lt_iff {a b : GLock} : Lt a b ↔ Op.bytesLess a.Name b.Name = true ∨ (a.Name = b.Name ∧ a.Foe < b.Foe) := by
  unfold Lt aheadR
  split
  · rename_i h; exact ⟨fun _ => .inl h, fun _ => rfl⟩
  · rename_i h
    split
    · rename_i h2
      rw [decide_eq_true_eq]
      exact ⟨fun h3 => .inr ⟨h2, h3⟩, fun h3 => h3.elim (fun h4 => absurd h4 h) (·.2)⟩
    · rename_i h2
      exact ⟨fun h3 => (by cases h3), fun h3 => h3.elim (fun h4 => absurd h4 h) (fun h4 => absurd h4.1 h2)⟩
theorem lt_trans {a b c : GLock} (h1 : Lt a b) (h2 : Lt b c) : Lt a c := by
  rw [lt_iff] at *
  rcases h1 with h1 | ⟨h1, h3⟩
  · rcases h2 with h2 | ⟨h2, h4⟩
    · exact .inl (bl_trans h1 h2)
    · exact .inl (h2 ▸ h1)
  · rcases h2 with h2 | ⟨h2, h4⟩
    · exact .inl (h1 ▸ h2)
    · exact .inr ⟨h1.trans h2, by omega⟩
theorem lt_key {a b : GLock} (h : keyOf a = keyOf b) : ¬ Lt a b := by
  rw [lt_iff]
  simp only [keyOf, Prod.mk.injEq] at h
  rintro (h1 | ⟨_, h1⟩)
  · rw [h.1, bl_irr] at h1; cases h1
  · omega
theorem lt_tri (a b : GLock) : Lt a b ∨ keyOf a = keyOf b ∨ Lt b a := by
  simp only [lt_iff, keyOf, Prod.mk.injEq]
  rcases bl_tri a.Name b.Name with h | h | h
  · exact .inl (.inl h)
  · rcases Int.lt_trichotomy a.Foe b.Foe with h2 | h2 | h2
    · exact .inl (.inr ⟨h, h2⟩)
    · exact .inr (.inl ⟨h, h2⟩)
    · exact .inr (.inr (.inr ⟨h.symm, h2⟩))
  · exact .inr (.inr (.inl h))
theorem lt_asymm {a b : GLock} (h : Lt a b) : ¬ Lt b a := fun h2 => lt_key rfl (lt_trans h h2)
theorem lt_congr {a b c : GLock} (h : keyOf a = keyOf b) : (Lt a c ↔ Lt b c) ∧ (Lt c a ↔ Lt c b) := by
  simp only [keyOf, Prod.mk.injEq] at h
  simp only [lt_iff, h.1, h.2, and_self]
theorem cmpS_is (a b : List UInt8) : cmpS a b = if Op.bytesLess a b = true then -1 else if a = b then 0 else 1 := by
  have hn : ∀ x : List UInt8, nanS x = false := fun x => by unfold nanS; simp
  unfold cmpS
  rw [if_neg (by rw [hn]; simp), if_neg (by rw [hn]; simp)]
  split
  · rfl
  · rename_i h
    by_cases hab : a = b
    · rw [if_pos (by simp [hab]), if_pos hab]
    · rw [if_neg (by simp [hab, h]), if_neg hab]
theorem cmpI_is (a b : Int) : cmpI a b = if a < b then -1 else if a = b then 0 else 1 := by
  have hn : ∀ x : Int, nanI x = false := fun x => by unfold nanI; simp
  unfold cmpI
  rw [if_neg (by rw [hn]; simp), if_neg (by rw [hn]; simp)]
  split
  · rfl
  · rename_i h
    by_cases hab : a = b
    · rw [if_neg (by omega), if_pos hab]
    · rw [if_pos (by omega), if_neg hab]
theorem order_is (a b : GLock) : (orderL a b < 0 ↔ Lt a b) ∧ (orderL a b = 0 ↔ keyOf a = keyOf b) ∧ (orderL a b ≥ 0 ↔ ¬ Lt a b) := by
  have key : orderL a b = if Lt a b then -1 else if keyOf a = keyOf b then 0 else 1 := by
    unfold orderL orI
    rw [cmpS_is, cmpI_is]
    simp only [orI_L0, keyOf, Prod.mk.injEq, lt_iff]
    by_cases h1 : Op.bytesLess a.Name b.Name = true
    · simp [h1]
    · by_cases h2 : a.Name = b.Name
      · by_cases h3 : a.Foe < b.Foe
        · simp [h1, h2, h3, bl_irr]
        · by_cases h4 : a.Foe = b.Foe
          · simp [h2, h4, bl_irr]
          · simp [h2, h3, h4, bl_irr]
      · simp [h1, h2]
  rw [key]
  by_cases h1 : Lt a b
  · rw [if_pos h1]
    exact ⟨⟨fun _ => h1, fun _ => by omega⟩, ⟨fun h => by omega, fun h => absurd h1 (lt_key h)⟩, ⟨fun h => by omega, fun h => absurd h1 h⟩⟩
  · rw [if_neg h1]
    by_cases h2 : keyOf a = keyOf b
    · rw [if_pos h2]
      exact ⟨⟨fun h => by omega, fun h => absurd h h1⟩, ⟨fun _ => h2, fun _ => rfl⟩, ⟨fun _ => h1, fun _ => by omega⟩⟩
    · rw [if_neg h2]
      exact ⟨⟨fun h => by omega, fun h => absurd h h1⟩, ⟨fun h => by omega, fun h => absurd h h2⟩, ⟨fun _ => h1, fun _ => by omega⟩⟩
/-! rows that are right -/
def okAt (l : List GLock) (j : Nat) : Prop := nameC (l.getD j default).Name = true ∧ 1 ≤ (l.getD j default).Foe ∧ (0 < j → Lt (l.getD (j - 1) default) (l.getD j default))
theorem getD_at {α : Type} {l : List α} {d : α} {k : Nat} {x : α} (h : l[k]? = some x) : l.getD k d = x := by
  rw [List.getD_eq_getElem?_getD, h]; rfl
theorem rightL_L0_iff (l : List GLock) (hl : l.length ≤ 16777000) : ∀ (r : List GLock) (k : Nat), r = l.drop k → (rightL_L0 l r k = .inr () ↔ ∀ j, k ≤ j → j < l.length → okAt l j) ∧ (rightL_L0 l r k ≠ .inr () → rightL_L0 l r k = .inl false)
  | [], k, h => by
    have hk : l.length ≤ k := by
      have := congrArg List.length h; simp at this; omega
    rw [rightL_L0]
    exact ⟨⟨fun _ j h1 h2 => by omega, fun _ => rfl⟩, fun h => absurd rfl h⟩
  | x :: r, k, h => by
    have hk : k < l.length := by
      have := congrArg List.length h; simp at this; omega
    have hx : l[k]? = some x := by
      have : (l.drop k)[0]? = some x := by rw [← h]; rfl
      rwa [List.getElem?_drop, Nat.add_zero] at this
    have hr : r = l.drop (k + 1) := by
      rw [List.drop_eq_getElem_cons hk] at h
      exact (List.cons.inj h).2
    have ih := rightL_L0_iff l hl r (k + 1) hr
    have gx : l.getD k default = x := getD_at hx
    have hw : (IntKind.i64.wrap ((k : Int) - 1)).toNat = k - 1 := by rw [IntKind.wrap_i64]; omega
    rw [rightL_L0, hw]
    have bad : ¬ okAt l k → ∀ {s : Sum Bool Unit}, s = .inl false → (s = .inr () ↔ ∀ j, k ≤ j → j < l.length → okAt l j) ∧ (s ≠ .inr () → s = .inl false) := fun hb s hs => by
      subst hs
      exact ⟨⟨(fun h => by cases h), fun h => absurd (h k (Nat.le_refl _) hk) hb⟩, fun _ => rfl⟩
    have good : okAt l k → ∀ {s : Sum Bool Unit}, s = rightL_L0 l r (k + 1) → (s = .inr () ↔ ∀ j, k ≤ j → j < l.length → okAt l j) ∧ (s ≠ .inr () → s = .inl false) := fun hb s hs => by
      subst hs
      refine ⟨ih.1.trans ⟨fun h j h1 h2 => ?_, fun h j h1 h2 => h j (by omega) h2⟩, ih.2⟩
      by_cases hj : j = k
      · exact hj ▸ hb
      · exact h j (by omega) h2
    split
    · rename_i h1
      split
      · rename_i h2
        exact bad (fun h => by have := h.2.1; rw [gx] at this; omega) rfl
      · rename_i h2
        split
        · rename_i h3
          split
          · rename_i h4
            exact bad (fun h => by
              have := h.2.2 (by omega)
              rw [gx] at this
              exact ((order_is _ _).2.2.1 h4) this) rfl
          · rename_i h4
            refine good ⟨by rw [gx]; exact h1, by rw [gx]; omega, fun _ => ?_⟩ rfl
            rw [gx]
            exact Decidable.not_not.1 fun h5 => h4 ((order_is _ _).2.2.2 h5)
        · rename_i h3
          exact good ⟨by rw [gx]; exact h1, by rw [gx]; omega, fun h => by omega⟩ rfl
    · rename_i h1
      exact bad (fun h => h1 (by have := h.1; rwa [gx] at this)) rfl
theorem rightL_iff {l : List GLock} (hl : l.length ≤ 16777000) : rightL l = true ↔ (∀ j, j < l.length → okAt l j) ∧ l.length ≤ 200 := by
  have h := rightL_L0_iff l hl l 0 rfl
  unfold rightL
  split
  · rename_i r hr
    have h2 := h.2 (by rw [hr]; intro h; cases h)
    rw [hr] at h2
    cases h2
    refine ⟨(fun h => by cases h), fun h3 => ?_⟩
    have := h.1.2 (fun j _ => h3.1 j)
    rw [hr] at this; cases this
  · rename_i hr
    rw [decide_eq_true_eq]
    exact ⟨fun h3 => ⟨fun j => h.1.1 hr j (Nat.zero_le _), by omega⟩, fun h3 => by have := h3.2; omega⟩
theorem rightLR_L0_iff (l : List GLock) (hl : l.length ≤ 16777000) : ∀ (n k : Nat), k + n = l.length → (rightR_L0 l n k = .inr () ↔ ∀ j, k ≤ j → j < l.length → okAt l j) ∧ (rightR_L0 l n k ≠ .inr () → rightR_L0 l n k = .inl false)
  | 0, k, h => by
    rw [rightR_L0]
    exact ⟨⟨fun _ j h1 h2 => by omega, fun _ => rfl⟩, fun h => absurd rfl h⟩
  | n + 1, k, h => by
    have hk : k < l.length := by omega
    have ih := rightLR_L0_iff l hl n (k + 1) (by omega)
    have hw : (IntKind.i64.wrap ((k : Int) - 1)).toNat = k - 1 := by rw [IntKind.wrap_i64]; omega
    rw [rightR_L0, hw]
    have bad : ¬ okAt l k → ∀ {s : Sum Bool Unit}, s = .inl false → (s = .inr () ↔ ∀ j, k ≤ j → j < l.length → okAt l j) ∧ (s ≠ .inr () → s = .inl false) := fun hb s hs => by
      subst hs
      exact ⟨⟨(fun h => by cases h), fun h => absurd (h k (Nat.le_refl _) hk) hb⟩, fun _ => rfl⟩
    have good : okAt l k → ∀ {s : Sum Bool Unit}, s = rightR_L0 l n (k + 1) → (s = .inr () ↔ ∀ j, k ≤ j → j < l.length → okAt l j) ∧ (s ≠ .inr () → s = .inl false) := fun hb s hs => by
      subst hs
      refine ⟨ih.1.trans ⟨fun h j h1 h2 => ?_, fun h j h1 h2 => h j (by omega) h2⟩, ih.2⟩
      by_cases hj : j = k
      · exact hj ▸ hb
      · exact h j (by omega) h2
    split
    · rename_i h1
      rw [← name_same] at h1
      split
      · rename_i h2
        exact bad (fun h => by have := h.2.1; omega) rfl
      · rename_i h2
        split
        · rename_i h3
          split
          · rename_i h4
            exact good ⟨h1, by omega, fun _ => h4⟩ rfl
          · rename_i h4
            exact bad (fun h => h4 (h.2.2 (by omega))) rfl
        · rename_i h3
          exact good ⟨h1, by omega, fun h => by omega⟩ rfl
    · rename_i h1
      rw [← name_same] at h1
      exact bad (fun h => h1 h.1) rfl
theorem rightLR_iff {l : List GLock} (hl : l.length ≤ 16777000) : rightR l = true ↔ (∀ j, j < l.length → okAt l j) ∧ l.length ≤ 200 := by
  have h := rightLR_L0_iff l hl (l.length - 0) 0 (by omega)
  unfold rightR
  split
  · rename_i r hr
    have h2 := h.2 (by rw [hr]; intro h; cases h)
    rw [hr] at h2
    cases h2
    refine ⟨(fun h => by cases h), fun h3 => ?_⟩
    have := h.1.2 (fun j _ => h3.1 j)
    rw [hr] at this; cases this
  · rename_i hr
    rw [decide_eq_true_eq]
    exact ⟨fun h3 => ⟨fun j => h.1.1 hr j (Nat.zero_le _), by omega⟩, fun h3 => by have := h3.2; omega⟩
theorem right_same {l : List GLock} (hl : l.length ≤ 16777000) : rightL l = rightR l := Bool.eq_iff_iff.2 ((rightL_iff hl).trans (rightLR_iff hl).symm)
/-- a right row: its order, its names, its foes -/
structure Rt (l : List GLock) : Prop where
  srt : l.Pairwise Lt
  nam : ∀ z ∈ l, nameC z.Name = true ∧ 1 ≤ z.Foe
theorem pair_of_adj {α : Type} {R : α → α → Prop} (ht : ∀ {a b c}, R a b → R b c → R a c) (d : α) : ∀ (l : List α), (∀ j, j < l.length → 0 < j → R (l.getD (j - 1) d) (l.getD j d)) → l.Pairwise R
  | [], _ => .nil
  | [x], _ => by simp
  | x :: y :: l, h => by
    have ih := pair_of_adj (R := R) ht d (y :: l) (fun j h1 h2 => by
      obtain ⟨i, rfl⟩ : ∃ i, j = i + 1 := ⟨j - 1, by omega⟩
      exact h (i + 1 + 1) (by simpa using h1) (by omega))
    have hxy : R x y := by have := h 1 (by simp) (by omega); simpa using this
    refine List.pairwise_cons.2 ⟨fun z hz => ?_, ih⟩
    rcases List.mem_cons.1 hz with rfl | hz
    · exact hxy
    · exact ht hxy ((List.pairwise_cons.1 ih).1 z hz)
theorem adj_of_pair {α : Type} {R : α → α → Prop} {d : α} {l : List α} (h : l.Pairwise R) {i j : Nat} (hij : i < j) (hj : j < l.length) : R (l.getD i d) (l.getD j d) := by
  have := List.pairwise_iff_getElem.1 h i j (by omega) hj hij
  rw [List.getD_eq_getElem?_getD, List.getD_eq_getElem?_getD, List.getElem?_eq_getElem (by omega), List.getElem?_eq_getElem hj]
  exact this
theorem rt_iff {l : List GLock} (hl : l.length ≤ 16777000) : rightL l = true ↔ Rt l ∧ l.length ≤ 200 := by
  rw [rightL_iff hl]
  refine ⟨fun ⟨h, h2⟩ => ⟨⟨pair_of_adj (R := Lt) (fun h1 h2 => lt_trans h1 h2) default l (fun j h1 h3 => (h j h1).2.2 h3), fun z hz => ?_⟩, h2⟩, fun ⟨h, h2⟩ => ⟨fun j hj => ?_, h2⟩⟩
  · obtain ⟨j, hj, rfl⟩ := List.getElem_of_mem hz
    have := h j hj
    unfold okAt at this
    rw [List.getD_eq_getElem?_getD, List.getElem?_eq_getElem hj] at this
    exact ⟨this.1, this.2.1⟩
  · have hm := h.nam _ (getD_mem (d := default) hj)
    exact ⟨hm.1, hm.2, fun h0 => adj_of_pair h.srt (by omega) hj⟩
/-! where a lock stands -/
structure At (l : List GLock) (x : GLock) (k : Int) : Prop where
  lo : 0 ≤ k
  hi : k ≤ l.length
  bef : ∀ j, j < k.toNat → Lt (l.getD j default) x
  beh : k.toNat < l.length → ¬ Lt (l.getD k.toNat default) x
theorem at_one {l : List GLock} {x : GLock} {k m : Int} (h1 : At l x k) (h2 : At l x m) : k = m := by
  rcases Int.lt_trichotomy k m with h | h | h
  · have := h2.hi; have := h1.lo; have := h2.lo
    exact absurd (h2.bef k.toNat (by omega)) (h1.beh (by omega))
  · exact h
  · have := h2.hi; have := h1.hi; have := h2.lo; have := h1.lo
    exact absurd (h1.bef m.toNat (by omega)) (h2.beh (by omega))
theorem addLR_at (l : List GLock) (name : List UInt8) (foe u : Int) (hl : l.length ≤ 16777000) : ∀ (n : Nat) (k : Int), 0 ≤ k → k ≤ l.length → (l.length - k.toNat) < n → (∀ j, j < k.toNat → Lt (l.getD j default) ⟨name, foe, u⟩) → At l ⟨name, foe, u⟩ (addLR_L0 l name foe u n k)
  | 0, k, _, _, h, _ => by omega
  | n + 1, k, h0, h1, h2, h3 => by
    rw [addLR_L0]
    split
    · split
      · rename_i h5
        have hw : IntKind.i64.wrap (k + 1) = k + 1 := by rw [IntKind.wrap_i64]; omega
        rw [hw]
        refine addLR_at l name foe u hl n _ (by omega) (by omega) (by omega) (fun j hj => ?_)
        by_cases e : j = k.toNat
        · subst e; exact h5
        · exact h3 j (by omega)
      · rename_i h5
        exact ⟨h0, h1, h3, fun _ => h5⟩
    · exact ⟨h0, h1, h3, fun h => by omega⟩
theorem bsL_at (l : List GLock) (t : GLock) (hl : l.length ≤ 16777000) (hs : l.Pairwise Lt) : ∀ (n : Nat) (i j : Int), 0 ≤ i → i ≤ j → j ≤ l.length → (j - i).toNat < n → (∀ m, m < i.toNat → Lt (l.getD m default) t) → (∀ m, j.toNat ≤ m → m < l.length → ¬ Lt (l.getD m default) t) → At l t (bsL_L0 l t n i j)
  | 0, i, j, _, _, _, h, _, _ => by omega
  | n + 1, i, j, h0, h1, h2, h3, h4, h5 => by
    rw [bsL_L0]
    split
    · rename_i hij
      split
      · rename_i h6
        have h6 := (order_is _ _).1.1 h6
        have hw : IntKind.i64.wrap ((i + j) / 2 + 1) = (i + j) / 2 + 1 := by rw [IntKind.wrap_i64]; omega
        rw [hw]
        refine bsL_at l t hl hs n _ _ (by omega) (by omega) h2 (by omega) (fun m hm => ?_) h5
        by_cases e : m = ((i + j) / 2).toNat
        · subst e; exact h6
        · exact lt_trans (adj_of_pair hs (by omega) (by omega)) h6
      · rename_i h6
        have h6 : ¬ Lt (l.getD ((i + j) / 2).toNat default) t := fun h => h6 ((order_is _ _).1.2 h)
        refine bsL_at l t hl hs n _ _ h0 (by omega) (by omega) (by omega) h4 (fun m hm hml h => ?_)
        by_cases e : m = ((i + j) / 2).toNat
        · subst e; exact h6 h
        · exact h6 (lt_trans (adj_of_pair hs (by omega) (by omega)) h)
    · exact ⟨h0, by omega, h4, fun h => h5 _ (by omega) h⟩
theorem bsL_is {l : List GLock} {t : GLock} (hl : l.length ≤ 16777000) (hs : l.Pairwise Lt) : At l t (bsL l t).1 ∧ ((bsL l t).2 = true ↔ (bsL l t).1.toNat < l.length ∧ keyOf (l.getD (bsL l t).1.toNat default) = keyOf t) := by
  have h := bsL_at l t hl hs (l.length + 1) 0 l.length (by omega) (by omega) (by omega) (by omega) (fun m hm => by omega) (fun m h1 h2 => by omega)
  unfold bsL
  dsimp only
  have := h.lo; have := h.hi
  split
  · refine ⟨h, ?_⟩
    rw [beq_iff_eq, (order_is _ _).2.1]
    exact ⟨fun h => ⟨by omega, h⟩, (·.2)⟩
  · exact ⟨h, (fun h => by cases h), fun h => by omega⟩
theorem addLR_same {l : List GLock} {name : List UInt8} {foe u : Int} (hl : l.length ≤ 16777000) : addL l name foe u = addLR l name foe u := by
  unfold addL addLR
  rw [right_same hl, name_same]
  split
  case isFalse => rfl
  rename_i h1
  split
  case isFalse => rfl
  split
  · rfl
  rw [← right_same hl] at h1
  have hr := (rt_iff hl).1 h1
  obtain ⟨hb, hb2⟩ := bsL_is (t := ⟨name, foe, u⟩) hl hr.1.srt
  have ha := addLR_at l name foe u hl (l.length + 1) 0 (by omega) (by omega) (by omega) (fun j hj => by omega)
  have he := at_one hb ha
  dsimp only
  rw [← he]
  generalize (bsL l ⟨name, foe, u⟩).1 = k at *
  have hlo := hb.lo; have hhi := hb.hi
  unfold addLR_J49
  by_cases hk : k.toNat < l.length
  · have hk2 : k < (l.length : Int) := by omega
    rw [if_pos hk2]
    by_cases hkey : keyOf (l.getD k.toNat default) = keyOf (⟨name, foe, u⟩ : GLock)
    · rw [if_pos (hb2.2 ⟨hk, hkey⟩), if_neg (lt_key hkey.symm)]
      simp only [copyR]
    · rw [if_neg (fun h => hkey (hb2.1 h).2)]
      have : Lt ⟨name, foe, u⟩ (l.getD k.toNat default) := by
        rcases lt_tri ⟨name, foe, u⟩ (l.getD k.toNat default) with h | h | h
        · exact h
        · exact absurd h.symm hkey
        · exact absurd h (hb.beh hk)
      rw [if_pos this]
      simp only [copyR, List.append_assoc]
  · have hk2 : ¬ k < (l.length : Int) := by omega
    rw [if_neg (fun h => hk (hb2.1 h).1), if_neg hk2]
    simp only [copyR, List.append_assoc]
theorem join_go (b : List GLock) : ∀ (n k : Nat) (r out : List GLock), k + n = b.length → r = b.drop k → out.length + n ≤ 16777000 → joinL_L0 r k out = joinLR_L0 b n k out
  | 0, k, r, out, h, hr, _ => by
    have : r = [] := by rw [hr]; exact List.drop_of_length_le (by omega)
    subst this
    rw [joinL_L0, joinLR_L0]
  | n + 1, k, r, out, h, hr, ho => by
    have hk : k < b.length := by omega
    have hb := List.getElem?_eq_getElem hk
    have e : r = b[k] :: b.drop (k + 1) := by rw [hr, List.drop_eq_getElem_cons hk]
    rw [e, joinL_L0, joinLR_L0, getD_at hb, addLR_same (by omega)]
    split
    · have := addLR_len out b[k].Name b[k].Foe b[k].Until (by omega)
      exact join_go b n (k + 1) _ _ (by omega) rfl (by omega)
    · rfl
theorem join_same {a b : List GLock} (ha : a.length ≤ 70000) (hb : b.length ≤ 70000) : joinL a b = joinLR a b := by
  unfold joinL joinLR
  rw [right_same (by omega), right_same (by omega), join_go b (b.length - 0) 0 b a (by omega) rfl (by omega)]
  rfl
theorem until_go (l : List GLock) (name : List UInt8) (foe now : Int) : ∀ (n k : Nat), k + n = l.length → untilLR_L0 l name foe now n k = match (l.drop k).find? (fun x => lockIs x name foe) with | none => .inr () | some x => .inl (if x.Until > now then (x.Until, true) else (0, false))
  | 0, k, h => by rw [untilLR_L0, List.drop_of_length_le (by omega)]; rfl
  | n + 1, k, h => by
    have hk : k < l.length := by omega
    have hb := List.getElem?_eq_getElem hk
    rw [untilLR_L0, getD_at hb, until_go l name foe now n (k + 1) (by omega), List.drop_eq_getElem_cons hk, List.find?_cons]
    unfold lockIs
    by_cases h1 : l[k].Name = name
    · by_cases h2 : l[k].Foe = foe
      · simp only [h1, h2, if_true, beq_self_eq_true]
        split <;> rfl
      · have h3 : (l[k].Foe == foe) = false := by simpa using h2
        simp [h1, h2, h3]
    · simp [h1]
/-- until when one is locked -/
def look (l : List GLock) (name : List UInt8) (foe : Int) : Option Int := (l.find? (fun x => lockIs x name foe)).map (·.Until)
theorem untilLR_is (l : List GLock) (name : List UInt8) (foe now : Int) : untilLR l name foe now = match look l name foe with | none => (0, false) | some u => if u > now then (u, true) else (0, false) := by
  unfold untilLR look
  rw [until_go _ _ _ _ _ _ (by omega), List.drop_zero]
  cases l.find? (fun x => lockIs x name foe) <;> rfl
theorem untilL_is (l : List GLock) (name : List UInt8) (foe now : Int) : untilL l name foe now = match look l name foe with | none => (0, false) | some u => if u > now then (u, true) else (0, false) := by
  unfold untilL look
  rcases fidx_cases (fun x_ => lockIs x_ name foe) l with ⟨h, h2⟩ | ⟨k, x, h, h2, h3, h4⟩
  · have : l.find? (fun x => lockIs x name foe) = none := List.find?_eq_none.2 (fun x hx => by have := h2 x hx; simp at this ⊢; exact this)
    rw [h, this, if_pos (by omega)]; rfl
  · have hk := (List.getElem?_eq_some_iff.1 h2).1
    have hf : l.find? (fun x => lockIs x name foe) = some x := List.find?_eq_some_iff_append.2 ⟨h3, l.take k, l.drop (k + 1), by
      have e := (List.getElem?_eq_some_iff.1 h2).2
      rw [← e, ← List.drop_eq_getElem_cons hk, List.take_append_drop], fun y hy => by rw [h4 y hy]; rfl⟩
    rw [hf, h, if_neg (by omega)]
    have e : ((k : Int)).toNat = k := Int.toNat_natCast k
    rw [e, getD_at h2]
    simp only [Option.map_some]
    by_cases hu : x.Until ≤ now
    · rw [if_pos hu, if_neg (by omega)]
    · rw [if_neg hu, if_pos (by omega)]
theorem until_same (l : List GLock) (name : List UInt8) (foe now : Int) : untilL l name foe now = untilLR l name foe now := (untilL_is _ _ _ _).trans (untilLR_is _ _ _ _).symm
theorem of_go (l : List GLock) (name : List UInt8) (now : Int) : ∀ (n k : Nat) (r : List GLock) (out : List Int), k + n = l.length → r = l.drop k → ofL_L0 name now r k out = ofLR_L0 l name now n k out
  | 0, k, r, out, h, hr => by
    have : r = [] := by rw [hr]; exact List.drop_of_length_le (by omega)
    subst this
    rw [ofL_L0, ofLR_L0]
  | n + 1, k, r, out, h, hr => by
    have hk : k < l.length := by omega
    have hb := List.getElem?_eq_getElem hk
    have e : r = l[k] :: l.drop (k + 1) := by rw [hr, List.drop_eq_getElem_cons hk]
    rw [e, ofL_L0, ofLR_L0, getD_at hb, of_go l name now n (k + 1) _ _ (by omega) rfl, of_go l name now n (k + 1) _ _ (by omega) rfl]
theorem of_same (l : List GLock) (name : List UInt8) (now : Int) : ofL l name now = ofLR l name now := of_go l name now (l.length - 0) 0 l [] (by omega) rfl
theorem clean_go (l : List GLock) (now : Int) : ∀ (n k : Nat) (out : List GLock), k + n = l.length → cleanLR_L0 l now n k out = out ++ (l.drop k).filter (fun x => !overL x now)
  | 0, k, out, h => by rw [cleanLR_L0, List.drop_of_length_le (by omega)]; simp
  | n + 1, k, out, h => by
    have hk : k < l.length := by omega
    have hb := List.getElem?_eq_getElem hk
    rw [cleanLR_L0, getD_at hb, clean_go l now n (k + 1) _ (by omega), clean_go l now n (k + 1) _ (by omega), List.drop_eq_getElem_cons hk, List.filter_cons]
    by_cases h1 : l[k].Until > now
    · rw [if_pos h1, if_pos (by unfold overL; simp; omega), List.append_assoc]; rfl
    · rw [if_neg h1, if_neg (by unfold overL; simp; omega)]
theorem clean_same (l : List GLock) (now : Int) : cleanL l now = cleanLR l now := by
  show _ = cleanLR_L0 l now (l.length - 0) 0 []
  rw [clean_go _ _ _ _ _ (by omega)]; rfl
theorem free_go (l : List GLock) (names : List (List UInt8)) (foe now : Int) : ∀ (n k : Nat) (out : List (List UInt8)), k + n = names.length → freeLR_L0 l names foe now n k out = out ++ (names.drop k).filter (fun x => !lockedL x l foe now)
  | 0, k, out, h => by rw [freeLR_L0, List.drop_of_length_le (by omega)]; simp
  | n + 1, k, out, h => by
    have hk : k < names.length := by omega
    have hb := List.getElem?_eq_getElem hk
    rw [freeLR_L0, getD_at hb, free_go l names foe now n (k + 1) _ (by omega), free_go l names foe now n (k + 1) _ (by omega), List.drop_eq_getElem_cons hk, List.filter_cons]
    by_cases h1 : (untilLR l names[k] foe now).2 = true
    · rw [if_pos h1, if_neg (by unfold lockedL; rw [until_same, h1]; simp)]
    · rw [if_neg h1, if_pos (by unfold lockedL; rw [until_same]; simpa using h1), List.append_assoc]; rfl
theorem free_same (l : List GLock) (names : List (List UInt8)) (foe now : Int) : freeL l names foe now = freeLR l names foe now := by
  show _ = freeLR_L0 l names foe now (names.length - 0) 0 []
  rw [free_go _ _ _ _ _ _ _ (by omega)]; rfl
theorem same_go (a b : List GLock) : ∀ (n k : Nat), (∀ j, k ≤ j → j < k + n → a.getD j default = b.getD j default) → sameLR_L0 a b n k = .inr ()
  | 0, k, _ => by rw [sameLR_L0]
  | n + 1, k, h => by
    rw [sameLR_L0, h k (Nat.le_refl _) (by omega), if_pos (by simp), same_go a b n (k + 1) (fun j h1 h2 => h j (by omega) (by omega))]
theorem sameLR_refl (a : List GLock) : sameLR a a = true := by
  unfold sameLR
  rw [if_pos rfl, same_go a a _ _ (fun _ _ _ => rfl)]
theorem sameT_go (a b : List (List UInt8)) : ∀ (n k : Nat), (∀ j, k ≤ j → j < k + n → a.getD j default = b.getD j default) → sameTR_L0 a b n k = .inr ()
  | 0, k, _ => by rw [sameTR_L0]
  | n + 1, k, h => by
    rw [sameTR_L0, h k (Nat.le_refl _) (by omega), if_pos rfl, sameT_go a b n (k + 1) (fun j h1 h2 => h j (by omega) (by omega))]
theorem sameTR_refl (a : List (List UInt8)) : sameTR a a = true := by
  unfold sameTR
  rw [if_pos rfl, sameT_go a a _ _ (fun _ _ _ => rfl)]
theorem sameI_go (a b : List Int) : ∀ (n k : Nat), (∀ j, k ≤ j → j < k + n → a.getD j default = b.getD j default) → sameIR_L0 a b n k = .inr ()
  | 0, k, _ => by rw [sameIR_L0]
  | n + 1, k, h => by
    have := h k (Nat.le_refl _) (by omega)
    rw [sameIR_L0]
    rw [if_pos (by first | exact this | simpa using this), sameI_go a b n (k + 1) (fun j h1 h2 => h j (by omega) (by omega))]
theorem sameIR_refl (a : List Int) : sameIR a a = true := by
  unfold sameIR
  rw [if_pos rfl, sameI_go a a _ _ (fun _ _ _ => rfl)]
theorem small37_true : small37 = true := by decide +kernel
theorem tmod_small (a : Int) {p : Int} (hp : 0 < p) : (if a.tmod p < 0 then a.tmod p + p else a.tmod p) = a % p := by
  have h1 := Int.emod_nonneg a (by omega : p ≠ 0)
  have h2 := Int.emod_lt_of_pos a hp
  have h3 := Int.tmod_eq_emod (a := a) (b := p)
  split <;> split at h3 <;> omega
theorem turnL_is {now period offset : Int} (h1 : -1125899906842624 ≤ now) (h2 : now ≤ 1125899906842624) (h3 : -1125899906842624 ≤ offset) (h4 : offset ≤ 1125899906842624) (h5 : 1 ≤ period) (h6 : period ≤ 1125899906842624) : turnL now period offset = now + period - (now - offset) % period := by
  have hw : IntKind.i64.wrap (now - offset) = now - offset := by rw [IntKind.wrap_i64]; omega
  have hj : turnL_J27 now period offset = (now - offset) % period := by
    unfold turnL_J27
    rw [hw, ← tmod_small (now - offset) (by omega : 0 < period)]
    have hb := Int.tmod_lt_of_pos (now - offset) (by omega : 0 < period)
    split
    · rename_i hneg
      have e := tmod_small (now - offset) (by omega : 0 < period)
      have h7 := Int.emod_nonneg (now - offset) (by omega : period ≠ 0)
      rw [if_pos hneg] at e
      rw [← e] at h7
      rw [IntKind.wrap_i64]
      generalize (now - offset).tmod period = z at *
      omega
    · rfl
  have a1 := Int.emod_nonneg (now - offset) (by omega : period ≠ 0)
  have a2 := Int.emod_lt_of_pos (now - offset) (by omega : 0 < period)
  unfold turnL
  rw [if_pos (withinL_iff.2 ⟨h1, h2⟩), if_pos (withinL_iff.2 ⟨h3, h4⟩), if_pos (withinL_iff.2 ⟨h5, h6⟩)]
  dsimp only
  rw [hj]
  simp only [IntKind.wrap_i64]; omega
theorem turn_same (now period offset : Int) : turnL now period offset = turnR now period offset := by
  have hj : ∀ h : 1 ≤ period, turnR_J36 now period offset = turnL_J27 now period offset := fun _ => rfl
  by_cases h1 : -1125899906842624 ≤ now ∧ now ≤ 1125899906842624
  · by_cases h2 : -1125899906842624 ≤ offset ∧ offset ≤ 1125899906842624
    · by_cases h3 : 1 ≤ period ∧ period ≤ 1125899906842624
      · have e := turnL_is h1.1 h1.2 h2.1 h2.2 h3.1 h3.2
        unfold turnL at e
        rw [if_pos (withinL_iff.2 h1), if_pos (withinL_iff.2 h2), if_pos (withinL_iff.2 h3)] at e
        unfold turnL turnR
        rw [if_pos (withinL_iff.2 h1), if_pos (withinL_iff.2 h2), if_pos (withinL_iff.2 h3), if_neg (by omega), if_neg (by omega), if_neg (by omega), if_neg (by omega), if_neg (by omega), if_neg (by omega)]
        dsimp only
        rw [hj h3.1]
        generalize turnL_J27 now period offset = z
        simp only [IntKind.wrap_i64]; omega
      · unfold turnL turnR
        rw [if_pos (withinL_iff.2 h1), if_pos (withinL_iff.2 h2), if_neg (fun h => h3 (withinL_iff.1 h)), if_neg (by omega), if_neg (by omega), if_neg (by omega), if_neg (by omega)]
        by_cases h4 : period < 1
        · rw [if_pos h4]
        · rw [if_neg h4, if_pos (by omega)]
    · unfold turnL turnR
      rw [if_pos (withinL_iff.2 h1), if_neg (fun h => h2 (withinL_iff.1 h)), if_neg (by omega), if_neg (by omega)]
      by_cases h4 : offset < -1125899906842624
      · rw [if_pos h4]
      · rw [if_neg h4, if_pos (by omega)]
  · unfold turnL turnR
    rw [if_neg (fun h => h1 (withinL_iff.1 h))]
    by_cases h4 : now < -1125899906842624
    · rw [if_pos h4]
    · rw [if_neg h4, if_pos (by omega)]
theorem joins37_t (a b : List GLock) (now period offset : Int) : joins37 a b now period offset = true := by
  unfold joins37
  dsimp only
  split
  · rename_i h
    unfold joins37_J18 at h
    split at h
    · rename_i h1
      have ha := (few37_is h1).1; have hb := (few37_is h).1
      rw [if_pos small37_true, join_same (by omega) (by omega), sameLR_refl, if_pos rfl, if_pos rfl, turn_same]; simp
    · cases h
  · exact small37_true
theorem tells37_L0_f (names : List (List UInt8)) : ∀ (n k : Nat), tells37_L0 names n k false = false
  | 0, k => by rw [tells37_L0]
  | n + 1, k => by rw [tells37_L0, if_neg (by simp), tells37_L0_f names n (k + 1)]
theorem tells37_t (l : List GLock) (x : GLock) (now : Int) (names : List (List UInt8)) : tells37 l x now names = true := by
  unfold tells37
  dsimp only
  split
  case isFalse => exact small37_true
  rename_i h
  split
  · exact small37_true
  have hok : tells37_J26 l x = true := by
    cases h0 : tells37_J26 l x with
    | true => rfl
    | false => rw [h0, tells37_L0_f] at h; cases h
  have hf : few37 l = true := by
    unfold tells37_J26 at hok
    split at hok
    · assumption
    · cases hok
  have hl := (few37_is hf).1
  have hj : tells37_J108 l x now = true := by
    unfold tells37_J108
    rw [addLR_same (by omega), sameLR_refl, if_pos rfl, if_pos rfl, until_same, if_pos rfl, if_pos rfl, clean_same, sameLR_refl]
  rw [if_pos small37_true, hj, if_pos rfl, right_same (by omega), if_pos rfl, of_same, sameIR_refl, if_pos rfl, free_same, sameTR_refl, if_pos rfl, sameLR_refl]
/-! what is told of a right row -/
theorem lockIs_iff {x : GLock} {n : List UInt8} {f : Int} : lockIs x n f = true ↔ keyOf x = (n, f) := by
  unfold lockIs
  simp only [keyOf, Prod.mk.injEq]
  split
  · rename_i h; rw [beq_iff_eq]; exact ⟨fun h2 => ⟨h, h2⟩, (·.2)⟩
  · rename_i h; exact ⟨(fun h => by cases h), fun h2 => absurd h2.1 h⟩
theorem uniq {l : List GLock} (h : l.Pairwise Lt) : ∀ {x y : GLock}, x ∈ l → y ∈ l → keyOf x = keyOf y → x = y := by
  induction l with
  | nil => intro x y hx; cases hx
  | cons z l ih =>
    intro x y hx hy hk
    obtain ⟨h1, h2⟩ := List.pairwise_cons.1 h
    rcases List.mem_cons.1 hx with rfl | hx'
    · rcases List.mem_cons.1 hy with rfl | hy'
      · rfl
      · exact absurd (h1 _ hy') (lt_key hk)
    · rcases List.mem_cons.1 hy with rfl | hy'
      · exact absurd (h1 _ hx') (lt_key hk.symm)
      · exact ih h2 hx' hy' hk
theorem look_some {l : List GLock} {n : List UInt8} {f u : Int} (h : look l n f = some u) : ∃ x ∈ l, keyOf x = (n, f) ∧ x.Until = u := by
  unfold look at h
  obtain ⟨x, h1, h2⟩ := Option.map_eq_some_iff.1 h
  have h3 : (fun x => lockIs x n f) x = true := List.find?_some (p := fun x => lockIs x n f) h1
  exact ⟨x, List.mem_of_find?_eq_some h1, lockIs_iff.1 h3, h2⟩
theorem look_mem {l : List GLock} (h : l.Pairwise Lt) {x : GLock} (hx : x ∈ l) {n : List UInt8} {f : Int} (hk : keyOf x = (n, f)) : look l n f = some x.Until := by
  unfold look
  cases hf : l.find? (fun x => lockIs x n f) with
  | none => exact absurd (lockIs_iff.2 hk) (by have := List.find?_eq_none.1 hf x hx; simpa using this)
  | some y =>
    have h1 := List.mem_of_find?_eq_some hf
    have h3 : (fun x => lockIs x n f) y = true := List.find?_some (p := fun x => lockIs x n f) hf
    have h2 := lockIs_iff.1 h3
    rw [uniq h hx h1 (hk.trans h2.symm)]; rfl
theorem look_none {l : List GLock} {n : List UInt8} {f : Int} (h : ∀ x ∈ l, keyOf x ≠ (n, f)) : look l n f = none := by
  cases hl : look l n f with
  | none => rfl
  | some u =>
    obtain ⟨x, h1, h2, _⟩ := look_some hl
    exact absurd h2 (h x h1)
theorem look_ext {l : List GLock} (h : l.Pairwise Lt) {n : List UInt8} {f : Int} {o : Option Int} (h1 : ∀ x ∈ l, keyOf x = (n, f) → o = some x.Until) (h2 : ∀ u, o = some u → ∃ x ∈ l, keyOf x = (n, f)) : look l n f = o := by
  cases hl : look l n f with
  | none =>
    cases o with
    | none => rfl
    | some u =>
      obtain ⟨x, h3, h4⟩ := h2 u rfl
      rw [look_mem h h3 h4] at hl; cases hl
  | some u =>
    obtain ⟨x, h3, h4, h5⟩ := look_some hl
    rw [h1 x h3 h4, h5]
theorem row_ext : ∀ {r s : List GLock}, r.Pairwise Lt → s.Pairwise Lt → (∀ n f, look r n f = look s n f) → r = s
  | [], [], _, _, _ => rfl
  | [], y :: s, _, h2, h => by
    have := h y.Name y.Foe
    rw [look_mem h2 List.mem_cons_self rfl] at this; cases this
  | x :: r, [], h1, _, h => by
    have := h x.Name x.Foe
    rw [look_mem h1 List.mem_cons_self rfl] at this; cases this
  | x :: r, y :: s, h1, h2, h => by
    have hx := h x.Name x.Foe
    rw [look_mem h1 List.mem_cons_self rfl] at hx
    obtain ⟨x', hx1, hx2, hx3⟩ := look_some hx.symm
    have hy := h y.Name y.Foe
    rw [look_mem h2 List.mem_cons_self rfl] at hy
    obtain ⟨y', hy1, hy2, hy3⟩ := look_some hy
    obtain ⟨p1, p2⟩ := List.pairwise_cons.1 h1
    obtain ⟨q1, q2⟩ := List.pairwise_cons.1 h2
    have hk : keyOf x = keyOf y := by
      rcases List.mem_cons.1 hx1 with rfl | hx1
      · exact hx2.symm
      · have a1 : Lt y x := (lt_congr (c := y) hx2).2.1 (q1 _ hx1)
        rcases List.mem_cons.1 hy1 with rfl | hy1
        · exact hy2
        · exact absurd ((lt_congr (c := x) hy2).2.1 (p1 _ hy1)) (lt_asymm a1)
    have hxy : x = y := by
      have e1 := look_mem h2 (x := y) List.mem_cons_self (n := x.Name) (f := x.Foe) hk.symm
      rw [← hx] at e1
      have e2 := Option.some.inj e1
      simp only [keyOf, Prod.mk.injEq] at hk
      cases x; cases y
      simp_all
    subst hxy
    have rest : ∀ (t : List GLock), (∀ z ∈ t, Lt x z) → ∀ n f, look t n f = if (n, f) = keyOf x then none else look (x :: t) n f := fun t ht n f => by
      split
      · rename_i e
        exact look_none fun z hz hk2 => lt_key (e ▸ hk2 : keyOf z = keyOf x).symm (ht z hz)
      · rename_i e
        unfold look
        rw [List.find?_cons]
        have : lockIs x n f = false := by
          cases hb : lockIs x n f with
          | false => rfl
          | true => exact absurd (lockIs_iff.1 hb).symm e
        rw [this]
    rw [row_ext p2 q2 (fun n f => by rw [rest r p1, rest s q1, h n f])]
/-! a lock that is added -/
def newU (l : List GLock) (name : List UInt8) (foe u : Int) : Int := match look l name foe with | some v => max v u | none => u
structure Added (l : List GLock) (name : List UInt8) (foe u : Int) (m : List GLock) : Prop where
  rt : Rt m
  len : m.length ≤ 200
  lo : l.length ≤ m.length
  hi : m.length ≤ l.length + 1
  mem : ∀ x, x ∈ m ↔ (x ∈ l ∧ keyOf x ≠ (name, foe)) ∨ x = ⟨name, foe, newU l name foe u⟩
theorem added {l : List GLock} {name : List UInt8} {foe u : Int} (hl : l.length ≤ 16777000) (h : (addL l name foe u).2 = 0) : Added l name foe u (addL l name foe u).1 ∧ Rt l ∧ l.length ≤ 200 := by
  unfold addL at h ⊢
  split at h
  case isFalse => cases h
  rename_i hr
  rw [if_pos hr]
  split at h
  case isFalse => cases h
  rename_i hn
  rw [if_pos hn]
  split at h
  · cases h
  rename_i hfoe
  rw [if_neg hfoe]
  obtain ⟨hrt, hlen⟩ := (rt_iff hl).1 hr
  refine ⟨?_, hrt, hlen⟩
  obtain ⟨ha, hb⟩ := bsL_is (t := ⟨name, foe, u⟩) hl hrt.srt
  generalize (bsL l ⟨name, foe, u⟩).1 = k at *
  have hlo := ha.lo; have hhi := ha.hi
  split at h
  · rename_i hh
    rw [if_pos hh]
    obtain ⟨hk, hkey⟩ := hb.1 hh
    obtain ⟨kn, rfl⟩ : ∃ kn : Nat, k = kn := ⟨k.toNat, by omega⟩
    simp only [Int.toNat_natCast] at *
    have hg : l.getD kn default = l[kn] := getD_at (List.getElem?_eq_getElem hk)
    rw [hg] at hkey ⊢
    have hlook : look l name foe = some l[kn].Until := look_mem hrt.srt (List.getElem_mem hk) hkey
    have hU : newU l name foe u = max l[kn].Until u := by unfold newU; rw [hlook]
    have hy : ({ l[kn] with Until := max l[kn].Until u } : GLock) = ⟨name, foe, newU l name foe u⟩ := by
      simp only [keyOf, Prod.mk.injEq] at hkey
      rw [hU, ← hkey.1, ← hkey.2]
    have hkk : ∀ i (hi : i < (l.set kn { l[kn] with Until := max l[kn].Until u }).length), keyOf ((l.set kn { l[kn] with Until := max l[kn].Until u })[i]) = keyOf (l[i]'(by simpa using hi)) := fun i hi => by
      rw [List.getElem_set]
      split
      · rename_i e; subst e; rfl
      · rfl
    refine ⟨⟨?_, ?_⟩, by rw [List.length_set]; exact hlen, by rw [List.length_set]; exact Nat.le_refl _, by rw [List.length_set]; omega, fun x => ?_⟩
    · refine List.pairwise_iff_getElem.2 fun i j hi hj hij => ?_
      have h0 := List.pairwise_iff_getElem.1 hrt.srt i j (by simpa using hi) (by simpa using hj) hij
      exact (lt_congr (hkk i hi)).1.2 ((lt_congr (hkk j hj)).2.2 h0)
    · intro z hz
      rcases List.mem_or_eq_of_mem_set hz with hz | rfl
      · exact hrt.nam z hz
      · exact hrt.nam l[kn] (List.getElem_mem hk)
    · rw [hy]
      constructor
      · intro hx
        obtain ⟨i, hi, rfl⟩ := List.getElem_of_mem hx
        rw [List.getElem_set]
        split
        · exact .inr rfl
        · rename_i hne
          have hi' : i < l.length := by simpa using hi
          refine .inl ⟨List.getElem_mem hi', fun e => ?_⟩
          have h3 := (e.trans hkey.symm : keyOf l[i] = keyOf l[kn])
          rcases Nat.lt_or_gt_of_ne hne with h4 | h4
          · exact lt_key h3.symm (List.pairwise_iff_getElem.1 hrt.srt kn i hk hi' h4)
          · exact lt_key h3 (List.pairwise_iff_getElem.1 hrt.srt i kn hi' hk h4)
      · rintro (⟨hx, hne⟩ | rfl)
        · obtain ⟨i, hi, rfl⟩ := List.getElem_of_mem hx
          have : i ≠ kn := fun e => by subst e; exact hne hkey
          refine List.mem_iff_getElem.2 ⟨i, by simpa using hi, ?_⟩
          rw [List.getElem_set, if_neg (Ne.symm this)]
        · exact List.mem_iff_getElem.2 ⟨kn, by simpa using hk, by rw [List.getElem_set, if_pos rfl]⟩
  · rename_i hh
    rw [if_neg hh]
    split at h
    · cases h
    rename_i h200
    rw [if_neg h200]
    obtain ⟨kn, rfl⟩ : ∃ kn : Nat, k = kn := ⟨k.toNat, by omega⟩
    simp only [Int.toNat_natCast] at *
    have hbef : ∀ z ∈ l.take kn, Lt z ⟨name, foe, u⟩ := fun z hz => by
      obtain ⟨i, hi, rfl⟩ := List.getElem_of_mem hz
      rw [List.length_take] at hi
      have := ha.bef i (by simpa using (by omega : i < kn))
      rw [getD_at (List.getElem?_eq_getElem (by omega))] at this
      rwa [List.getElem_take]
    have hbeh : ∀ z ∈ l.drop kn, Lt ⟨name, foe, u⟩ z := fun z hz => by
      obtain ⟨i, hi, rfl⟩ := List.getElem_of_mem hz
      rw [List.length_drop] at hi
      have hk : kn < l.length := by omega
      have h1 := ha.beh (by simpa using hk)
      simp only [Int.toNat_natCast] at h1
      have h2 : keyOf (l.getD kn default) ≠ keyOf (⟨name, foe, u⟩ : GLock) := fun e => hh (hb.2 ⟨hk, e⟩)
      have h3 : Lt ⟨name, foe, u⟩ (l.getD kn default) := by
        rcases lt_tri (l.getD kn default) ⟨name, foe, u⟩ with h | h | h
        · exact absurd h h1
        · exact absurd h h2
        · exact h
      rw [List.getElem_drop]
      rw [getD_at (List.getElem?_eq_getElem hk)] at h3
      by_cases h0 : i = 0
      · subst h0; exact h3
      · exact lt_trans h3 (List.pairwise_iff_getElem.1 hrt.srt kn (kn + i) hk (by omega) (by omega))
    have hno : ∀ x ∈ l, keyOf x ≠ (name, foe) := fun x hx e => by
      rw [← List.take_append_drop kn l] at hx
      rcases List.mem_append.1 hx with hx | hx
      · exact lt_key (b := ⟨name, foe, u⟩) e (hbef x hx)
      · exact lt_key (a := ⟨name, foe, u⟩) e.symm (hbeh x hx)
    have hU : newU l name foe u = u := by unfold newU; rw [look_none hno]
    refine ⟨⟨?_, ?_⟩, ?_, ?_, ?_, fun x => ?_⟩
    · have hs : (l.take kn ++ l.drop kn).Pairwise Lt := by rw [List.take_append_drop]; exact hrt.srt
      obtain ⟨s1, s2, s3⟩ := List.pairwise_append.1 hs
      refine List.pairwise_append.2 ⟨s1, List.pairwise_cons.2 ⟨fun z hz => hbeh z hz, s2⟩, fun a ha b hb => ?_⟩
      rcases List.mem_cons.1 hb with rfl | hb
      · exact hbef a ha
      · exact s3 a ha b hb
    · intro z hz
      rcases List.mem_append.1 hz with hz | hz
      · exact hrt.nam z (List.mem_of_mem_take hz)
      · rcases List.mem_cons.1 hz with rfl | hz
        · exact ⟨hn, by show 1 ≤ foe; omega⟩
        · exact hrt.nam z (List.mem_of_mem_drop hz)
    · simp only [List.length_append, List.length_take, List.length_drop, List.length_cons, List.length_nil]; omega
    · simp only [List.length_append, List.length_take, List.length_drop, List.length_cons, List.length_nil]; omega
    · simp only [List.length_append, List.length_take, List.length_drop, List.length_cons, List.length_nil]; omega
    · rw [hU]
      have e : (l.take kn ++ ([(⟨name, foe, u⟩ : GLock)] ++ l.drop kn)) = l.take kn ++ ((⟨name, foe, u⟩ : GLock) :: l.drop kn) := rfl
      rw [e, List.mem_append, List.mem_cons]
      constructor
      · rintro (hx | rfl | hx)
        · exact .inl ⟨List.mem_of_mem_take hx, hno x (List.mem_of_mem_take hx)⟩
        · exact .inr rfl
        · exact .inl ⟨List.mem_of_mem_drop hx, hno x (List.mem_of_mem_drop hx)⟩
      · rintro (⟨hx, _⟩ | rfl)
        · rw [← List.take_append_drop kn l] at hx
          rcases List.mem_append.1 hx with hx | hx
          · exact .inl hx
          · exact .inr (.inr hx)
        · exact .inr (.inl rfl)
theorem Added.look {l m : List GLock} {name : List UInt8} {foe u : Int} (h : Added l name foe u m) (hs : l.Pairwise Lt) (n : List UInt8) (f : Int) : look m n f = if (n, f) = (name, foe) then some (newU l name foe u) else look l n f := by
  split
  · rename_i e
    exact look_mem h.rt.srt ((h.mem _).2 (.inr rfl)) e.symm
  · rename_i e
    refine look_ext h.rt.srt (fun x hx hk => ?_) (fun v hv => ?_)
    · rcases (h.mem x).1 hx with ⟨h1, _⟩ | rfl
      · exact look_mem hs h1 hk
      · exact absurd hk.symm e
    · obtain ⟨x, h1, h2, _⟩ := look_some hv
      exact ⟨x, (h.mem x).2 (.inl ⟨h1, fun h3 => e (h2.symm.trans h3)⟩), h2⟩
/-! rows that are joined -/
def mx : Option Int → Option Int → Option Int
  | none, b => b
  | some a, none => some a
  | some a, some b => some (max a b)
theorem mx_comm (a b : Option Int) : mx a b = mx b a := by
  cases a <;> cases b <;> simp only [mx]
  congr 1; omega
theorem look_cons (x : GLock) (r : List GLock) (n : List UInt8) (f : Int) : look (x :: r) n f = if keyOf x = (n, f) then some x.Until else look r n f := by
  unfold look
  rw [List.find?_cons]
  split
  · rename_i h; rw [if_pos (lockIs_iff.1 h)]; rfl
  · rename_i h; rw [if_neg (fun e => by rw [lockIs_iff.2 e] at h; cases h)]
theorem joined (r : List GLock) : ∀ (k : Nat) (out s : List GLock), r.Pairwise Lt → Rt out → out.length ≤ 200 → joinL_L0 r k out = .inr s → Rt s ∧ s.length ≤ 200 ∧ out.length ≤ s.length ∧ s.length ≤ out.length + r.length ∧ ∀ n f, look s n f = mx (look out n f) (look r n f) := by
  induction r with
  | nil =>
    intro k out s _ h1 h2 h
    rw [joinL_L0] at h
    cases h
    refine ⟨h1, h2, Nat.le_refl _, Nat.le_refl _, fun n f => ?_⟩
    have : look [] n f = none := rfl
    rw [this]
    cases look out n f <;> rfl
  | cons x r ih =>
    intro k out s hs h1 h2 h
    rw [joinL_L0] at h
    split at h
    · rename_i he
      obtain ⟨ha, _, _⟩ := added (by omega) he
      obtain ⟨p1, p2⟩ := List.pairwise_cons.1 hs
      obtain ⟨q1, q2, q3, q4, q5⟩ := ih (k + 1) _ s p2 ha.rt ha.len h
      have := ha.lo; have := ha.hi
      refine ⟨q1, q2, by omega, by rw [List.length_cons]; omega, fun n f => ?_⟩
      rw [q5 n f, ha.look h1.srt, look_cons]
      by_cases e : keyOf x = (n, f)
      · have e2 : (n, f) = (x.Name, x.Foe) := e.symm
        rw [if_pos e2, if_pos e, look_none (fun z hz hk => lt_key (e.trans hk.symm) (p1 z hz))]
        simp only [Prod.mk.injEq] at e2
        unfold newU
        rw [e2.1, e2.2]
        cases look out x.Name x.Foe <;> rfl
      · have e2 : ¬ (n, f) = (x.Name, x.Foe) := fun h => e h.symm
        rw [if_neg e2, if_neg e]
    · cases h
theorem join_bad (r : List GLock) : ∀ (k : Nat) (out : List GLock) (z : List GLock × Int), joinL_L0 r k out = .inl z → z.2 ≠ 0 := by
  induction r with
  | nil => intro k out z h; rw [joinL_L0] at h; cases h
  | cons x r ih =>
    intro k out z h
    rw [joinL_L0] at h
    split at h
    · exact ih _ _ _ h
    · rename_i he; cases h; exact he
theorem join_is {a b : List GLock} (ha : a.length ≤ 70000) (hb : b.length ≤ 70000) (h : (joinL a b).2 = 0) : Rt (joinL a b).1 ∧ (joinL a b).1.length ≤ 200 ∧ a.length ≤ (joinL a b).1.length ∧ (joinL a b).1.length ≤ a.length + b.length ∧ ∀ n f, look (joinL a b).1 n f = mx (look a n f) (look b n f) := by
  unfold joinL at h ⊢
  split at h
  case isFalse => cases h
  rename_i h1
  rw [if_pos h1]
  split at h
  case isFalse => cases h
  rename_i h2
  rw [if_pos h2]
  split at h
  · rename_i z hz
    exact absurd h (join_bad _ _ _ _ hz)
  · rename_i s hs
    obtain ⟨r1, r2⟩ := (rt_iff (by omega)).1 h1
    obtain ⟨r3, _⟩ := (rt_iff (by omega)).1 h2
    exact joined b 0 a s r3.srt r1 r2 hs
theorem both37_t (a b : List GLock) (now period offset : Int) : both37 a b now period offset = true := by
  show (if both37_J19 a b = true then _ else small37) = true
  by_cases h : both37_J19 a b = true
  case neg => rw [if_neg h]; exact small37_true
  rw [if_pos h]
  have hab : few37 a = true ∧ few37 b = true := by
    unfold both37_J19 at h
    split at h
    · rename_i h1; exact ⟨h1, h⟩
    · cases h
  have ha := (few37_is hab.1).1; have hb := (few37_is hab.2).1
  have hj : both37_J40 a b = .inr () := by
    unfold both37_J40
    split
    · rename_i e1
      split
      · rename_i e2
        obtain ⟨p1, p2, p3, p4, p5⟩ := join_is (a := a) (b := b) (by omega) (by omega) e1
        obtain ⟨q1, q2, q3, q4, q5⟩ := join_is (a := b) (b := a) (by omega) (by omega) e2
        have e : (joinL a b).1 = (joinL b a).1 := row_ext p1.srt q1.srt (fun n f => by rw [p5, q5, mx_comm])
        rw [← e, sameLR_refl, if_pos rfl, if_pos ((rt_iff (by omega)).2 ⟨p1, p2⟩), if_neg (by omega), if_neg (by simp only [IntKind.wrap_i64]; omega)]
      · rfl
    · rfl
  rw [hj]
  dsimp only
  by_cases g1 : now < -1099511627776
  · rw [if_pos g1]; exact small37_true
  by_cases g2 : now > 1099511627776
  · rw [if_neg g1, if_pos g2]; exact small37_true
  by_cases g3 : offset < -1099511627776
  · rw [if_neg g1, if_neg g2, if_pos g3]; exact small37_true
  by_cases g4 : offset > 1099511627776
  · rw [if_neg g1, if_neg g2, if_neg g3, if_pos g4]; exact small37_true
  by_cases g5 : period < 1
  · rw [if_neg g1, if_neg g2, if_neg g3, if_neg g4, if_pos g5]; exact small37_true
  by_cases g6 : period > 1073741824
  · rw [if_neg g1, if_neg g2, if_neg g3, if_neg g4, if_neg g5, if_pos g6]; exact small37_true
  rw [if_neg g1, if_neg g2, if_neg g3, if_neg g4, if_neg g5, if_neg g6, if_pos small37_true]
  have hp : 0 < period := by omega
  have a1 := Int.emod_nonneg (now - offset) (by omega : period ≠ 0)
  have a2 := Int.emod_lt_of_pos (now - offset) hp
  have a3 := Int.mul_ediv_add_emod (now - offset) period
  have ht : turnL now period offset = now + period - (now - offset) % period := turnL_is (by omega) (by omega) (by omega) (by omega) (by omega) (by omega)
  generalize hq : (now - offset) / period = q at *
  have ho : (now + period - (now - offset) % period) - offset = period * (q + 1) := by rw [Int.mul_add, Int.mul_one]; omega
  have hto : turnL now period offset - offset = period * (q + 1) := by rw [ht]; exact ho
  generalize hr : (now - offset) % period = r at *
  have htb : turnL now period offset = now + period - r := ht
  generalize turnL now period offset = t at *
  have h1 : turnL t period offset = t + period := by
    rw [turnL_is (by omega) (by omega) (by omega) (by omega) (by omega) (by omega), hto, Int.mul_emod_right]; omega
  have h2 : turnL (t - 1) period offset = t := by
    rw [turnL_is (by omega) (by omega) (by omega) (by omega) (by omega) (by omega)]
    have e : (t - 1 - offset) % period = period - 1 := by
      have : t - 1 - offset = (period - 1) + period * q := by rw [Int.mul_add, Int.mul_one] at hto; omega
      rw [this, Int.add_mul_emod_self_left, Int.emod_eq_of_lt (by omega) (by omega)]
    rw [e]; omega
  have w1 : IntKind.i64.wrap (now + period) = now + period := by rw [IntKind.wrap_i64]; omega
  have w2 : IntKind.i64.wrap (t - offset) = t - offset := by rw [IntKind.wrap_i64]; omega
  have w3 : IntKind.i64.wrap (t + period) = t + period := by rw [IntKind.wrap_i64]; omega
  have w4 : IntKind.i64.wrap (t - 1) = t - 1 := by rw [IntKind.wrap_i64]; omega
  rw [w1, w2, w3, w4, h1, h2, hto, Int.mul_tmod_right, if_pos (by omega), if_pos (by omega), if_pos rfl, if_pos rfl]
  simp
/-! what is right stays so -/
theorem clean_rt {m : List GLock} (h : Rt m) (now : Int) : Rt (cleanL m now) := ⟨h.srt.sublist List.filter_sublist, fun z hz => h.nam z (List.mem_filter.1 hz).1⟩
theorem clean_look {m : List GLock} (h : Rt m) (now : Int) (n : List UInt8) (f : Int) : look (cleanL m now) n f = match look m n f with | none => none | some u => if u > now then some u else none := by
  refine look_ext (clean_rt h now).srt (fun x hx hk => ?_) (fun u hu => ?_)
  · unfold cleanL at hx
    obtain ⟨h1, h2⟩ := List.mem_filter.1 hx
    have h3 : x.Until > now := by unfold overL at h2; simp at h2; omega
    rw [look_mem h.srt h1 hk]
    dsimp only
    rw [if_pos h3]
  · cases hl : look m n f with
    | none => rw [hl] at hu; cases hu
    | some v =>
      rw [hl] at hu
      dsimp only at hu
      split at hu
      · rename_i hv
        obtain ⟨x, h1, h2, h3⟩ := look_some hl
        refine ⟨x, List.mem_filter.2 ⟨h1, ?_⟩, h2⟩
        unfold overL; simp; omega
      · cases hu
theorem clean_until {m : List GLock} (h : Rt m) (now : Int) (n : List UInt8) (f : Int) : untilL (cleanL m now) n f now = untilL m n f now := by
  rw [untilL_is, untilL_is, clean_look h]
  cases look m n f with
  | none => rfl
  | some u => by_cases hu : u > now <;> simp [hu]
theorem add_until {l m : List GLock} {name : List UInt8} {foe u : Int} (h : Added l name foe u m) (hs : l.Pairwise Lt) (now : Int) : untilL m name foe now = if u > now then ((if (untilL l name foe now).2 = true then max u (untilL l name foe now).1 else u), true) else untilL l name foe now := by
  have em := untilL_is m name foe now
  rw [h.look hs, if_pos rfl] at em
  have ev := untilL_is l name foe now
  unfold newU at em
  cases hl : look l name foe with
  | none =>
    rw [hl] at em ev
    dsimp only at em ev
    rw [em, ev]
    by_cases hu : u > now <;> simp [hu]
  | some v =>
    rw [hl] at em ev
    dsimp only at em ev
    rw [em, ev]
    by_cases hu : u > now
    · have : max v u > now := by omega
      by_cases hv : v > now
      · simp [hu, hv, this]; omega
      · simp [hu, hv, this]; omega
    · by_cases hv : v > now
      · have : max v u > now := by omega
        simp [hu, hv, this]; omega
      · have : ¬ max v u > now := by omega
        simp [hu, hv, this]
theorem holds37_t (l : List GLock) (name : List UInt8) (foe u now : Int) : holds37 l name foe u now = true := by
  unfold holds37
  split
  case isFalse => exact small37_true
  rename_i hf
  have hl := (few37_is hf).1
  split
  case isFalse => exact small37_true
  rename_i hr
  obtain ⟨hrt, h200⟩ := (rt_iff (by omega)).1 hr
  split
  · exact small37_true
  split
  · rename_i he
    obtain ⟨ha, _, _⟩ := added (by omega) he
    have hru : rightL (addL l name foe u).1 = true := (rt_iff (by have := ha.len; omega)).2 ⟨ha.rt, ha.len⟩
    have hu := add_until ha hrt.srt now
    dsimp only
    have hJ : holds37_J99 l name foe u now (holds37_J96 l name foe u now) = .inr () := by
      unfold holds37_J99 holds37_J96
      rw [if_pos hru, hu]
      by_cases h1 : u > now
      · have h2 : ¬ u ≤ now := by omega
        simp [h1, h2]
      · have h2 : u ≤ now := by omega
        simp [h1, h2]
    rw [hJ]
    dsimp only
    have hc := clean_rt ha.rt now
    have hcr : rightL (cleanL (addL l name foe u).1 now) = true := (rt_iff (by have := ha.len; have := cleanL_len (addL l name foe u).1 now; omega)).2 ⟨hc, by have := ha.len; have := cleanL_len (addL l name foe u).1 now; omega⟩
    have hcc : cleanL (cleanL (addL l name foe u).1 now) now = cleanL (addL l name foe u).1 now := by unfold cleanL; rw [List.filter_filter]; simp
    rw [if_pos small37_true, if_pos hcr, clean_until ha.rt, if_pos rfl, if_pos rfl, hcc, if_pos rfl]
    unfold freeL lockedL
    cases h9 : (untilL (addL l name foe u).1 name foe now).2 <;> simp [h9]
  · rename_i he
    dsimp only
    unfold holds37_J49
    rw [if_pos small37_true]
    have key : (addL l name foe u).1 = [] ∧ (((addL l name foe u).2 = 4 ∧ l.length = 200) ∨ ((addL l name foe u).2 = 1 ∧ (foe < 1 ∨ nameC name = false))) := by
      unfold addL at he ⊢
      rw [if_pos hr] at he ⊢
      split at he
      · rename_i hn
        rw [if_pos hn]
        split at he
        · rename_i h1; rw [if_pos h1]; exact ⟨rfl, .inr ⟨rfl, .inl h1⟩⟩
        · rename_i h1
          rw [if_neg h1]
          split at he
          · exact absurd rfl he
          · rename_i h2
            rw [if_neg h2]
            split at he
            · rename_i h3; rw [if_pos h3]; exact ⟨rfl, .inl ⟨rfl, by omega⟩⟩
            · exact absurd rfl he
      · rename_i hn
        rw [if_neg hn]; exact ⟨rfl, .inr ⟨rfl, .inr (by simpa using hn)⟩⟩
    rw [key.1, if_pos (by simp)]
    rcases key.2 with ⟨h1, h2⟩ | ⟨h1, h2⟩
    · rw [h1, if_pos rfl, if_pos (by omega)]
    · rw [h1, if_neg (by omega), if_pos rfl]
      rcases h2 with h2 | h2
      · rw [if_pos h2]
      · rw [h2]; split <;> rfl
theorem tells37_yes (l : List GLock) (l_f : Bool) (x : GLock) (now : Int) (names : List (List UInt8)) (n_f : Bool) : Ok Tryd.prog 3 [.pv (.slc l.length l_f (l.flatMap encGLock)), aGLock x, I now, .pv (.slc names.length n_f (encS names))] [] (B true) [] [] := by
  have h := tells37_ok l l_f x now names n_f
  rwa [tells37_t] at h
theorem holds37_yes (l : List GLock) (l_f : Bool) (name : List UInt8) (foe u now : Int) : Ok Tryd.prog 4 [.pv (.slc l.length l_f (l.flatMap encGLock)), .pv (.str name), I foe, I u, I now] [] (B true) [] [] := by
  have h := holds37_ok l l_f name foe u now
  rwa [holds37_t] at h
theorem joins37_yes (a : List GLock) (a_f : Bool) (b : List GLock) (b_f : Bool) (now period offset : Int) : Ok Tryd.prog 5 [.pv (.slc a.length a_f (a.flatMap encGLock)), .pv (.slc b.length b_f (b.flatMap encGLock)), I now, I period, I offset] [] (B true) [] [] := by
  have h := joins37_ok a a_f b b_f now period offset
  rwa [joins37_t] at h
theorem both37_yes (a : List GLock) (a_f : Bool) (b : List GLock) (b_f : Bool) (now period offset : Int) : Ok Tryd.prog 6 [.pv (.slc a.length a_f (a.flatMap encGLock)), .pv (.slc b.length b_f (b.flatMap encGLock)), I now, I period, I offset] [] (B true) [] [] := by
  have h := both37_ok a a_f b b_f now period offset
  rwa [both37_t] at h

end Go.Proofs.YtnboadipofkcjaaDoor

import Derived.Test.YtlcdcechaogofaaRoster
namespace Go.Proofs.Ytlcdcechaogofaa
open Go Go.RowKit Go.Proofs.YtlcdcechaogofaaVm
attribute [local irreducible] opsWp AnswersE OpsS
set_option maxHeartbeats 400000
set_option maxRecDepth 100000
set_option linter.all false
def cntG (l : List GMember) (g : Int) : Nat := (l.filter fun m => decide (m.Group = g)).length
theorem inM_go (n : Int) : ∀ (l : List GMember) (k : Nat) (out : List Int), inM_L0 n l k out = out ++ (l.filter fun m => decide (m.Group = n)).map (·.Unit)
  | [], _, _ => by simp [inM_L0]
  | x :: l, k, out => by
    rw [inM_L0]
    by_cases h : x.Group = n
    · rw [if_pos h, inM_go]; simp [h]
    · rw [if_neg h, inM_go]; simp [h]
theorem inR_go (n : Int) : ∀ (l : List GMember) (k : Nat) (out : List Int), inR_L0 n l k out = out ++ (l.filter fun m => decide (m.Group = n)).map (·.Unit)
  | [], _, _ => by simp [inR_L0]
  | x :: l, k, out => by
    rw [inR_L0]
    by_cases h : x.Group = n
    · rw [if_pos h, inR_go]; simp [h]
    · rw [if_neg h, inR_go]; simp [h]
theorem inM_eq (l : List GMember) (n : Int) : inM l n = inR l n := by simp only [inM, inR, inM_go, inR_go]
theorem inM_cnt (l : List GMember) (n : Int) : (inM l n).length = cntG l n := by simp only [inM, inM_go, cntG, List.nil_append, List.length_map]
theorem inR_cnt (l : List GMember) (n : Int) : (inR l n).length = cntG l n := by rw [← inM_eq, inM_cnt]
theorem groupM_eq (l : List GMember) (u : Int) : groupM l u = groupR l u := by simp only [groupM, groupR, findR_eq]
theorem leadM_eq (l : List GMember) : leadM l = leadR l := rfl
theorem A9int.get_set (x : A9int) {k g : Nat} (hk : k < 9) (hg : g < 9) (v : Int) : (x.set k v).get g = if g = k then v else x.get g := by
  have h1 := (x.set k v).get_list hg
  rw [x.set_list hk, List.getElem?_set] at h1
  have h2 := x.get_list hg
  by_cases h : k = g
  · subst h; rw [if_pos rfl, if_pos (show k < x.list.length from hk)] at h1; rw [if_pos rfl]; exact (Option.some.inj h1).symm
  · rw [if_neg h, h2] at h1; rw [if_neg (Ne.symm h)]; exact (Option.some.inj h1).symm
theorem cntG_cons (x : GMember) (l : List GMember) (g : Int) : cntG (x :: l) g = (if x.Group = g then 1 else 0) + cntG l g := by
  unfold cntG
  rw [List.filter_cons]
  by_cases h : x.Group = g
  · simp [h]; omega
  · simp [h]
theorem cntG_le (l : List GMember) (g : Int) : cntG l g ≤ l.length := List.length_filter_le _ _
theorem count_go : ∀ (l : List GMember) (k : Nat) (a : A9int), (∀ g, g < 9 → 0 ≤ a.get g ∧ a.get g + l.length ≤ 1000000000000) →
    ((∀ m ∈ l, 1 ≤ m.Group ∧ m.Group ≤ 8) ∧ ∃ a', countM_L0 l k a = .inr a' ∧ ∀ g, g < 9 → a'.get g = a.get g + cntG l g) ∨ ((¬ ∀ m ∈ l, 1 ≤ m.Group ∧ m.Group ≤ 8) ∧ ∃ a', countM_L0 l k a = .inl (a', false))
  | [], k, a, h => .inl ⟨by simp, a, by rw [countM_L0], fun g hg => by simp [cntG]⟩
  | x :: l, k, a, h => by
    rw [countM_L0]
    by_cases hx : groupB x.Group = true
    · rw [if_pos hx]
      have hg := groupB_iff.1 hx
      have hk : x.Group.toNat < 9 := by omega
      have h0 := h _ hk
      simp only [List.length_cons] at h h0
      have hw : IntKind.i64.wrap (a.get x.Group.toNat + 1) = a.get x.Group.toNat + 1 := wrap_lt (by omega) (by omega)
      rw [hw]
      rcases count_go l (k + 1) (a.set x.Group.toNat (a.get x.Group.toNat + 1)) (fun g hg => by
        rw [a.get_set hk hg]
        have := h g hg
        split
        · omega
        · omega) with ⟨h1, a', h2, h3⟩ | ⟨h1, a', h2⟩
      · refine .inl ⟨fun m hm => ?_, a', h2, fun g hg => ?_⟩
        · rcases List.mem_cons.1 hm with rfl | hm
          · exact ⟨by omega, by omega⟩
          · exact h1 m hm
        · rw [h3 g hg, a.get_set hk hg, cntG_cons]
          by_cases e : g = x.Group.toNat
          · rw [if_pos e, if_pos (by omega), e]; omega
          · rw [if_neg e, if_neg (by omega)]; omega
      · exact .inr ⟨fun h4 => h1 fun m hm => h4 m (List.mem_cons_of_mem _ hm), a', h2⟩
    · rw [if_neg hx]
      exact .inr ⟨fun h4 => hx (groupB_iff.2 (h4 x (List.mem_cons_self ..))), a, rfl⟩
theorem count_spec {l : List GMember} (hl : l.length ≤ 1000000) : ((∀ m ∈ l, 1 ≤ m.Group ∧ m.Group ≤ 8) ∧ (countM l).2 = true ∧ ∀ g, g < 9 → (countM l).1.get g = cntG l g) ∨ ((¬ ∀ m ∈ l, 1 ≤ m.Group ∧ m.Group ≤ 8) ∧ (countM l).2 = false) := by
  have h0 : ∀ g, g < 9 → (⟨0, 0, 0, 0, 0, 0, 0, 0, 0⟩ : A9int).get g = 0 := fun g hg => by
    match g, hg with | 0, _ => rfl | 1, _ => rfl | 2, _ => rfl | 3, _ => rfl | 4, _ => rfl | 5, _ => rfl | 6, _ => rfl | 7, _ => rfl | 8, _ => rfl
  rcases count_go l 0 (⟨0, 0, 0, 0, 0, 0, 0, 0, 0⟩ : A9int) (fun g hg => by rw [h0 g hg]; omega) with ⟨h1, a', h2, h3⟩ | ⟨h1, a', h2⟩
  · refine .inl ⟨h1, by unfold countM; rw [h2], fun g hg => ?_⟩
    unfold countM; rw [h2]; show a'.get g = _; rw [h3 g hg, h0 g hg]; omega
  · refine .inr ⟨h1, by unfold countM; rw [h2]⟩
theorem max_le (x : A9int) (c : Int) : maxL x.list ≤ c ↔ ∀ g, g < 9 → x.get g ≤ c := by
  have h : maxL x.list ≤ c ↔ x.f0 ≤ c ∧ x.f1 ≤ c ∧ x.f2 ≤ c ∧ x.f3 ≤ c ∧ x.f4 ≤ c ∧ x.f5 ≤ c ∧ x.f6 ≤ c ∧ x.f7 ≤ c ∧ x.f8 ≤ c := by
    simp only [maxL, A9int.list, List.foldl]; omega
  rw [h]
  constructor
  · rintro ⟨h0, h1, h2, h3, h4, h5, h6, h7, h8⟩ g hg
    match g, hg with | 0, _ => exact h0 | 1, _ => exact h1 | 2, _ => exact h2 | 3, _ => exact h3 | 4, _ => exact h4 | 5, _ => exact h5 | 6, _ => exact h6 | 7, _ => exact h7 | 8, _ => exact h8
  · intro h
    exact ⟨h 0 (by omega), h 1 (by omega), h 2 (by omega), h 3 (by omega), h 4 (by omega), h 5 (by omega), h 6 (by omega), h 7 (by omega), h 8 (by omega)⟩
/-- what a right raid is -/
def okRaid (l : List GMember) : Prop := (∀ m ∈ l, 1 ≤ m.Group ∧ m.Group ≤ 8) ∧ (∀ g, cntG l g ≤ 5) ∧ ∀ (i : Nat) (m : GMember), l[i]? = some m → 1 ≤ m.Unit ∧ findM l m.Unit = i
theorem rightM_go (l : List GMember) : ∀ (r : List GMember) (k : Nat), rightM_L0 l r k = .inr () ∧ (∀ (i : Nat) (m : GMember), r[i]? = some m → 1 ≤ m.Unit ∧ findM l m.Unit = ((i + k : Nat) : Int)) ∨ rightM_L0 l r k = .inl false ∧ ¬ (∀ (i : Nat) (m : GMember), r[i]? = some m → 1 ≤ m.Unit ∧ findM l m.Unit = ((i + k : Nat) : Int))
  | [], k => .inl ⟨by rw [rightM_L0], by simp⟩
  | x :: r, k => by
    rw [rightM_L0]
    by_cases h1 : x.Unit < 1
    · rw [if_pos h1]; exact .inr ⟨rfl, fun h => by have := h 0 x rfl; omega⟩
    · rw [if_neg h1]
      by_cases h2 : findM l x.Unit = (k : Int)
      · rw [if_pos h2]
        rcases rightM_go l r (k + 1) with ⟨h3, h4⟩ | ⟨h3, h4⟩
        · refine .inl ⟨h3, fun i m hm => ?_⟩
          cases i with
          | zero => simp at hm; subst hm; exact ⟨by omega, by simpa using h2⟩
          | succ i => have := h4 i m (by simpa using hm); rw [show i + 1 + k = i + (k + 1) by omega]; exact this
        · refine .inr ⟨h3, fun h => h4 fun i m hm => ?_⟩
          have := h (i + 1) m (by simpa using hm)
          rw [show i + (k + 1) = i + 1 + k by omega]; exact this
      · rw [if_neg h2]; exact .inr ⟨rfl, fun h => h2 (by have := (h 0 x rfl).2; simpa using this)⟩
theorem rightR_go (l : List GMember) : ∀ (r : List GMember) (k : Nat), rightR_L0 l r k = .inr () ∧ (∀ (i : Nat) (m : GMember), r[i]? = some m → 1 ≤ m.Unit ∧ findM l m.Unit = ((i + k : Nat) : Int) ∧ 1 ≤ m.Group ∧ m.Group ≤ 8 ∧ cntG l m.Group ≤ 5) ∨ rightR_L0 l r k = .inl false ∧ ¬ (∀ (i : Nat) (m : GMember), r[i]? = some m → 1 ≤ m.Unit ∧ findM l m.Unit = ((i + k : Nat) : Int) ∧ 1 ≤ m.Group ∧ m.Group ≤ 8 ∧ cntG l m.Group ≤ 5)
  | [], k => .inl ⟨by rw [rightR_L0], by simp⟩
  | x :: r, k => by
    rw [rightR_L0, findR_eq, inR_cnt]
    by_cases h1 : 1 ≤ x.Unit ∧ findM l x.Unit = (k : Int) ∧ 1 ≤ x.Group ∧ x.Group ≤ 8 ∧ cntG l x.Group ≤ 5
    · rw [if_neg (by omega), if_pos h1.2.1, if_neg (by omega), if_neg (by omega), if_neg (by omega)]
      rcases rightR_go l r (k + 1) with ⟨h3, h4⟩ | ⟨h3, h4⟩
      · refine .inl ⟨h3, fun i m hm => ?_⟩
        cases i with
        | zero => simp at hm; subst hm; simpa using h1
        | succ i => have := h4 i m (by simpa using hm); rw [show i + 1 + k = i + (k + 1) by omega]; exact this
      · refine .inr ⟨h3, fun h => h4 fun i m hm => ?_⟩
        have := h (i + 1) m (by simpa using hm)
        rw [show i + (k + 1) = i + 1 + k by omega]; exact this
    · refine .inr ⟨?_, fun h => h1 (by simpa using h 0 x rfl)⟩
      split
      · rfl
      · split
        · split
          · rfl
          · split
            · rfl
            · split
              · rfl
              · exact absurd ⟨by omega, by assumption, by omega, by omega, by omega⟩ h1
        · rfl
theorem rightM_iff {l : List GMember} (hl : l.length ≤ 1000000) : rightM l = true ↔ okRaid l := by
  unfold rightM okRaid
  rcases count_spec hl with ⟨h1, h2, h3⟩ | ⟨h1, h2⟩
  · rw [if_pos h2]
    by_cases h4 : maxL (countM l).1.list > 5
    · rw [if_pos h4]
      refine ⟨fun h => by simp at h, fun h => ?_⟩
      have h5 : ¬ maxL (countM l).1.list ≤ 5 := by omega
      exact absurd ((max_le _ _).2 fun g hg => by rw [h3 g hg]; have := h.2.1 g; omega) h5
    · rw [if_neg h4]
      have h5 := (max_le (countM l).1 5).1 (by omega)
      have h6 : ∀ g, cntG l g ≤ 5 := fun g => by
        by_cases hg : 1 ≤ g ∧ g ≤ 8
        · have h7 := h5 g.toNat (by omega)
          rw [h3 _ (by omega), Int.toNat_of_nonneg (by omega)] at h7
          omega
        · have : cntG l g = 0 := by
            unfold cntG
            rw [List.length_eq_zero_iff, List.filter_eq_nil_iff]
            intro m hm; have := h1 m hm; simp; omega
          omega
      rcases rightM_go l l 0 with ⟨h7, h8⟩ | ⟨h7, h8⟩
      · rw [h7]; exact ⟨fun _ => ⟨h1, h6, h8⟩, fun _ => rfl⟩
      · rw [h7]; exact ⟨fun h => by simp at h, fun h => absurd h.2.2 h8⟩
  · rw [h2]
    exact ⟨fun h => by simp at h, fun h => absurd h.1 h1⟩
theorem rightR_iff (l : List GMember) : rightR l = true ↔ okRaid l := by
  unfold rightR okRaid
  rcases rightR_go l l 0 with ⟨h1, h2⟩ | ⟨h1, h2⟩
  · rw [h1]
    refine ⟨fun _ => ⟨fun m hm => ?_, fun g => ?_, fun i m hm => ⟨(h2 i m hm).1, (h2 i m hm).2.1⟩⟩, fun _ => rfl⟩
    · obtain ⟨i, hi⟩ := List.mem_iff_getElem?.1 hm
      have := h2 i m hi; exact ⟨this.2.2.1, this.2.2.2.1⟩
    · by_cases hz : cntG l g = 0
      · omega
      · have : ∃ m ∈ l, m.Group = g := by
          unfold cntG at hz
          rw [List.length_eq_zero_iff, List.filter_eq_nil_iff] at hz
          simpa using hz
        obtain ⟨m, hm, rfl⟩ := this
        obtain ⟨i, hi⟩ := List.mem_iff_getElem?.1 hm
        exact (h2 i m hi).2.2.2.2
  · rw [h1]
    refine ⟨fun h => by simp at h, fun h => absurd (fun i m hm => ?_) h2⟩
    have h3 := h.1 m (List.mem_of_getElem? hm)
    have h4 := h.2.2 i m hm
    exact ⟨h4.1, h4.2, h3.1, h3.2, h.2.1 _⟩
theorem rightM_eq {l : List GMember} (hl : l.length ≤ 1000000) : rightM l = rightR l := by
  rw [Bool.eq_iff_iff, rightM_iff hl, rightR_iff]
theorem roomM_go {l : List GMember} (hr : okRaid l) (hl : l.length ≤ 1000000) (u : Int) : ∀ (n k : Nat), k + n = 9 → 1 ≤ k → (∃ g : Nat, 1 ≤ g ∧ g ≤ 8 ∧ roomM_L0 l n k = .inl (g : Int) ∧ joinR_L0 l u n k = .inl (copiedR l ++ [⟨u, g⟩], g, 0) ∧ cntG l g < 5 ∧ ∀ j : Nat, k ≤ j → j < g → 5 ≤ cntG l j) ∨ (roomM_L0 l n k = .inr () ∧ joinR_L0 l u n k = .inr () ∧ ∀ g : Nat, k ≤ g → g ≤ 8 → 5 ≤ cntG l g)
  | 0, k, h, _ => .inr ⟨by rw [roomM_L0], by rw [joinR_L0], fun g h1 h2 => by omega⟩
  | n + 1, k, h, h1 => by
    obtain ⟨_, _, h3⟩ := (count_spec hl).resolve_right (fun h => h.1 hr.1)
    rw [roomM_L0, joinR_L0, inR_cnt, h3 k (by omega)]
    by_cases h4 : (cntG l k : Int) < 5
    · rw [if_pos h4, if_pos h4]; exact .inl ⟨k, h1, by omega, rfl, rfl, by omega, fun j h5 h6 => by omega⟩
    · rw [if_neg h4, if_neg h4]
      rcases roomM_go hr hl u n (k + 1) (by omega) (by omega) with ⟨g, a1, a2, a3, a4, a5, a6⟩ | ⟨a1, a2, a3⟩
      · exact .inl ⟨g, a1, a2, a3, a4, a5, fun j h5 h6 => by by_cases e : j = k; subst e; omega; exact a6 j (by omega) h6⟩
      · exact .inr ⟨a1, a2, fun g h5 h6 => by by_cases e : g = k; subst e; omega; exact a3 g (by omega) h6⟩
/-- where one goes who joins -/
theorem joinM_spec {l : List GMember} (hl : l.length ≤ 1000000) (u : Int) : joinM l u = (if rightM l = true ∧ 1 ≤ u then if findM l u ≥ 0 then ([], 0, 7) else if roomM l = 0 then ([], 0, 4) else (l ++ [⟨u, roomM l⟩], roomM l, 0) else ([], 0, 1)) := by
  unfold joinM joinM_J9
  dsimp only
  by_cases h : rightM l = true
  · simp only [h, if_true, true_and]
    by_cases h2 : u < 1
    · rw [if_pos (by simpa using h2), if_neg (show ¬ 1 ≤ u by omega)]
    · rw [if_neg (by simpa using h2), if_pos (show 1 ≤ u by omega)]
  · simp only [h, if_false, false_and]; simp [h]
theorem joinM_eq {l : List GMember} (hl : l.length ≤ 1000000) (u : Int) : joinM l u = joinR l u := by
  rw [joinM_spec hl]
  unfold joinR
  rw [rightM_eq hl, findR_eq]
  by_cases h : rightR l = true
  · simp only [h, if_true, true_and]
    by_cases h2 : u < 1
    · rw [if_pos h2, if_neg (show ¬ 1 ≤ u by omega)]
    · rw [if_neg h2, if_pos (show 1 ≤ u by omega)]
      by_cases h3 : findM l u ≥ 0
      · rw [if_pos h3, if_pos h3]
      · rw [if_neg h3, if_neg h3]
        unfold roomM
        rcases roomM_go ((rightR_iff l).1 h) hl u 8 1 rfl (Nat.le_refl _) with ⟨g, h4, h5, h6, h7, _⟩ | ⟨h6, h7, _⟩
        · rw [h6, h7, if_neg (by show ¬ (g : Int) = 0; omega), copiedR_eq]
        · rw [h6, h7]; rfl
  · simp only [h, if_false, false_and]; simp [h]
theorem leaveM_eq (l : List GMember) (u : Int) : leaveM l u = leaveR l u := by simp only [leaveM, leaveR, findR_eq, copiedR_eq]
theorem moveM_eq {l : List GMember} (hl : l.length ≤ 1000000) (u g : Int) : moveM l u g = moveR l u g := by
  unfold moveM moveR
  rw [rightM_eq hl, findR_eq, inR_cnt, copiedR_eq]
  by_cases h : rightR l = true
  · simp only [h, if_true]
    by_cases h2 : 1 ≤ g ∧ g ≤ 8
    · rw [if_pos (groupB_iff.2 h2), if_neg (show ¬ g < 1 by omega), if_neg (show ¬ g > 8 by omega)]
      obtain ⟨_, _, h3⟩ := (count_spec hl).resolve_right (fun h' => h'.1 ((rightR_iff l).1 h).1)
      rw [h3 _ (by omega), Int.toNat_of_nonneg (by omega)]
    · rw [if_neg (fun h3 => h2 (groupB_iff.1 h3))]
      by_cases h4 : g < 1
      · rw [if_pos h4]
      · rw [if_neg h4, if_pos (show g > 8 by omega)]
  · simp only [h, if_false]; simp [h]
theorem swapM_eq {l : List GMember} (hl : l.length ≤ 1000000) (a b : Int) : swapM l a b = swapR l a b := by
  unfold swapM swapR
  rw [rightM_eq hl, findR_eq, findR_eq, copiedR_eq]

end Go.Proofs.Ytlcdcechaogofaa

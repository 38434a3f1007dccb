import Derived.Test.YtlcdcechaogofaaLaw22
namespace Go.Proofs.Ytlcdcechaogofaa
open Go Go.RowKit Go.Proofs.YtlcdcechaogofaaVm
attribute [local irreducible] opsWp AnswersE OpsS
set_option maxHeartbeats 400000
set_option maxRecDepth 100000
set_option linter.all false
theorem findM_some {l : List GMember} {u : Int} {i : Nat} (h : findM l u = (i : Int)) : ∃ m, l[i]? = some m ∧ m.Unit = u ∧ ∀ y ∈ l.take i, y.Unit ≠ u := by
  unfold findM at h
  rcases fidx_cases (fun x_ => matchU x_ u) l with ⟨h1, _⟩ | ⟨k, x, h1, h2, h3, h4⟩
  · rw [h1] at h; omega
  · rw [h1] at h
    obtain rfl : k = i := by omega
    exact ⟨x, h2, by simpa [matchU] using h3, fun y hy => by have := h4 y hy; simpa [matchU] using this⟩
theorem findM_neg {l : List GMember} {u : Int} : findM l u < 0 ↔ ∀ m ∈ l, m.Unit ≠ u := by
  unfold findM
  rcases fidx_cases (fun x_ => matchU x_ u) l with ⟨h1, h2⟩ | ⟨k, x, h1, h2, h3, h4⟩
  · rw [h1]; exact ⟨fun _ m hm => by have := h2 m hm; simpa [matchU] using this, fun _ => by omega⟩
  · rw [h1]; exact ⟨fun h => by omega, fun h => absurd (by simpa [matchU] using h3) (h x (List.mem_of_getElem? h2))⟩
theorem findM_at {l : List GMember} (hn : (l.map (·.Unit)).Nodup) {i : Nat} {m : GMember} (h : l[i]? = some m) : findM l m.Unit = i := by
  have h0 : ¬ findM l m.Unit < 0 := fun h1 => findM_neg.1 h1 m (List.mem_of_getElem? h) rfl
  obtain ⟨k, hk⟩ : ∃ k : Nat, findM l m.Unit = k := ⟨(findM l m.Unit).toNat, by omega⟩
  obtain ⟨x, h1, h2, _⟩ := findM_some hk
  rw [hk]
  have h3 : (l.map (·.Unit))[k]? = (l.map (·.Unit))[i]? := by rw [List.getElem?_map, List.getElem?_map, h1, h]; simp [h2]
  have h4 : k < (l.map (·.Unit)).length := by rw [List.length_map]; exact (List.getElem?_eq_some_iff.1 h1).1
  rw [(List.getElem?_inj h4 hn).1 h3]
theorem nodup_of {l : List GMember} (h : ∀ (i : Nat) (m : GMember), l[i]? = some m → findM l m.Unit = i) : (l.map (·.Unit)).Nodup := by
  unfold List.Nodup
  rw [List.pairwise_iff_getElem]
  intro i j hi hj hij e
  rw [List.length_map] at hi hj
  simp only [List.getElem_map] at e
  have h1 := h i _ (List.getElem?_eq_getElem hi)
  have h2 := h j _ (List.getElem?_eq_getElem hj)
  rw [e, h2] at h1
  omega
/-- a right raid, in other words -/
structure Raid (l : List GMember) : Prop where
  grp : ∀ m ∈ l, 1 ≤ m.Group ∧ m.Group ≤ 8
  cnt : ∀ g, cntG l g ≤ 5
  unit : ∀ m ∈ l, 1 ≤ m.Unit
  nd : (l.map (·.Unit)).Nodup
theorem raid_iff {l : List GMember} : okRaid l ↔ Raid l := by
  constructor
  · rintro ⟨h1, h2, h3⟩
    refine ⟨h1, h2, fun m hm => ?_, nodup_of fun i m hm => (h3 i m hm).2⟩
    obtain ⟨i, hi⟩ := List.mem_iff_getElem?.1 hm
    exact (h3 i m hi).1
  · rintro ⟨h1, h2, h3, h4⟩
    exact ⟨h1, h2, fun i m hm => ⟨h3 m (List.mem_of_getElem? hm), findM_at h4 hm⟩⟩
theorem right_raid {l : List GMember} (hl : l.length ≤ 1000000) : rightM l = true ↔ Raid l := (rightM_iff hl).trans raid_iff
theorem len_sum : ∀ {l : List GMember}, (∀ m ∈ l, 1 ≤ m.Group ∧ m.Group ≤ 8) → l.length = cntG l 1 + cntG l 2 + cntG l 3 + cntG l 4 + cntG l 5 + cntG l 6 + cntG l 7 + cntG l 8
  | [], _ => rfl
  | x :: l, h => by
    have ih := len_sum (l := l) fun m hm => h m (List.mem_cons_of_mem _ hm)
    have hx := h x (List.mem_cons_self ..)
    simp only [List.length_cons, cntG_cons]
    rcases (by omega : x.Group = 1 ∨ x.Group = 2 ∨ x.Group = 3 ∨ x.Group = 4 ∨ x.Group = 5 ∨ x.Group = 6 ∨ x.Group = 7 ∨ x.Group = 8) with e | e | e | e | e | e | e | e <;> rw [e] <;> simp <;> omega
theorem Raid.len {l : List GMember} (h : Raid l) : l.length ≤ 40 := by
  have := len_sum h.grp
  have h1 := h.cnt 1; have h2 := h.cnt 2; have h3 := h.cnt 3; have h4 := h.cnt 4; have h5 := h.cnt 5; have h6 := h.cnt 6; have h7 := h.cnt 7; have h8 := h.cnt 8
  omega
theorem cntG_append (a b : List GMember) (g : Int) : cntG (a ++ b) g = cntG a g + cntG b g := by simp [cntG]
theorem cntG_one (m : GMember) (g : Int) : cntG [m] g = if m.Group = g then 1 else 0 := by rw [cntG_cons]; simp [cntG]
theorem cntG_sub {a b : List GMember} (h : List.Sublist a b) (g : Int) : cntG a g ≤ cntG b g := (h.filter _).length_le
theorem cntG_set : ∀ {l : List GMember} {i : Nat} {x y : GMember} (g : Int), l[i]? = some x → cntG (l.set i y) g + (if x.Group = g then 1 else 0) = cntG l g + (if y.Group = g then 1 else 0)
  | [], _, _, _, _, h => by simp at h
  | z :: l, 0, x, y, g, h => by
    simp at h; subst h
    simp only [List.set_cons_zero, cntG_cons]; omega
  | z :: l, i + 1, x, y, g, h => by
    have := cntG_set (y := y) g (l := l) (i := i) (by simpa using h)
    simp only [List.set_cons_succ, cntG_cons]; omega
theorem raid_sub {a b : List GMember} (h : List.Sublist a b) (hb : Raid b) : Raid a :=
  ⟨fun m hm => hb.grp m (h.subset hm), fun g => Nat.le_trans (cntG_sub h g) (hb.cnt g), fun m hm => hb.unit m (h.subset hm), hb.nd.sublist (h.map _)⟩
theorem raid_nil : Raid [] := ⟨by simp, by simp [cntG], by simp, by simp⟩
theorem leave_sub (l : List GMember) (i : Nat) : List.Sublist (l.take i ++ l.drop (i + 1)) l := by
  conv => rhs; rw [← List.take_append_drop i l]
  exact List.Sublist.append (List.Sublist.refl _) (by rw [← List.drop_drop]; exact List.drop_sublist _ _)
theorem leaveM_is {l : List GMember} (hl : l.length ≤ 1000000) (u : Int) : (findM l u < 0 ∧ leaveM l u = (l, false)) ∨ ∃ i : Nat, findM l u = i ∧ i < l.length ∧ leaveM l u = (l.take i ++ l.drop (i + 1), true) := by
  have h := findM_lt l u
  unfold leaveM
  by_cases h0 : findM l u < 0
  · rw [if_pos h0]; exact .inl ⟨h0, rfl⟩
  · rw [if_neg h0]
    refine .inr ⟨(findM l u).toNat, by omega, by omega, ?_⟩
    rw [wrap_lt (by omega) (by omega), show (findM l u + 1).toNat = (findM l u).toNat + 1 by omega]
theorem leave_raid {l : List GMember} (h : Raid l) (u : Int) : Raid (leaveM l u).1 := by
  rcases leaveM_is (l := l) (by have := h.len; omega) u with ⟨_, e⟩ | ⟨i, _, _, e⟩
  · rw [e]; exact h
  · rw [e]; exact raid_sub (leave_sub l i) h
theorem leave_gone {l : List GMember} (h : Raid l) (u : Int) : ∀ m ∈ (leaveM l u).1, m.Unit ≠ u := by
  rcases leaveM_is (l := l) (by have := h.len; omega) u with ⟨h0, e⟩ | ⟨i, h1, h2, e⟩
  · rw [e]; exact findM_neg.1 h0
  · rw [e]
    obtain ⟨x, h3, h4, h5⟩ := findM_some h1
    intro m hm
    rcases List.mem_append.1 hm with hm | hm
    · exact h5 m hm
    · intro e2
      obtain ⟨k, hk⟩ := List.mem_iff_getElem?.1 hm
      rw [List.getElem?_drop] at hk
      have := findM_at h.nd hk
      rw [e2, h1] at this; omega
theorem groupM_none {l : List GMember} {u : Int} (h : ∀ m ∈ l, m.Unit ≠ u) : groupM l u = 0 := by
  unfold groupM; rw [if_pos (findM_neg.2 h)]
theorem groupM_some {l : List GMember} {u : Int} {i : Nat} {m : GMember} (h : findM l u = i) (hm : l[i]? = some m) : groupM l u = m.Group := by
  unfold groupM; rw [if_neg (show ¬ findM l u < 0 by omega), h, Int.toNat_natCast, List.getD_eq_getElem?_getD, hm]; rfl
theorem join_raid {l : List GMember} (h : Raid l) {u : Int} (hu : 1 ≤ u) : (joinM l u).2.2 = 0 ∧ Raid (joinM l u).1 ∧ findM l u < 0 ∧ (joinM l u).1 = l ++ [⟨u, (joinM l u).2.1⟩] ∧ (∃ g : Nat, 1 ≤ g ∧ g ≤ 8 ∧ (joinM l u).2.1 = (g : Int) ∧ cntG l g < 5 ∧ ∀ j : Nat, 1 ≤ j → j < g → 5 ≤ cntG l j) ∨ (joinM l u).2.2 = 7 ∧ 0 ≤ findM l u ∨ (joinM l u).2.2 = 4 ∧ l.length = 40 := by
  have hl : l.length ≤ 1000000 := by have := h.len; omega
  have hr := (right_raid hl).2 h
  rw [joinM_spec hl, if_pos ⟨hr, hu⟩]
  by_cases h1 : findM l u ≥ 0
  · rw [if_pos h1]; exact .inr (.inl ⟨rfl, h1⟩)
  · rw [if_neg h1]
    unfold roomM
    rcases roomM_go (raid_iff.2 h) hl u 8 1 rfl (Nat.le_refl _) with ⟨g, h4, h5, h6, h7, h8, h9⟩ | ⟨h6, h7, h8⟩
    · rw [h6, if_neg (by show ¬ (g : Int) = 0; omega)]
      refine .inl ⟨rfl, ⟨fun m hm => ?_, fun g' => ?_, fun m hm => ?_, ?_⟩, by omega, rfl, g, h4, h5, rfl, h8, h9⟩
      · rcases List.mem_append.1 hm with hm | hm
        · exact h.grp m hm
        · rw [List.mem_singleton] at hm; subst hm; exact ⟨by show (1 : Int) ≤ g; omega, by show (g : Int) ≤ 8; omega⟩
      · rw [cntG_append, cntG_one]
        have := h.cnt g'
        show cntG l g' + (if (g : Int) = g' then 1 else 0) ≤ 5
        split
        · rename_i e; subst e; omega
        · omega
      · rcases List.mem_append.1 hm with hm | hm
        · exact h.unit m hm
        · rw [List.mem_singleton] at hm; subst hm; exact hu
      · rw [List.map_append, List.nodup_append]
        refine ⟨h.nd, by simp, fun a ha b hb e => ?_⟩
        simp only [List.map_cons, List.map_nil, List.mem_singleton] at hb
        obtain ⟨m, hm, rfl⟩ := List.mem_map.1 ha
        exact findM_neg.1 (by omega : findM l u < 0) m hm (e.trans hb)
    · rw [h6, if_pos rfl]
      refine .inr (.inr ⟨rfl, ?_⟩)
      have := len_sum h.grp; have := h.len
      have a1 : 5 ≤ cntG l 1 := h8 1 (by omega) (by omega); have a2 : 5 ≤ cntG l 2 := h8 2 (by omega) (by omega); have a3 : 5 ≤ cntG l 3 := h8 3 (by omega) (by omega); have a4 : 5 ≤ cntG l 4 := h8 4 (by omega) (by omega)
      have a5 : 5 ≤ cntG l 5 := h8 5 (by omega) (by omega); have a6 : 5 ≤ cntG l 6 := h8 6 (by omega) (by omega); have a7 : 5 ≤ cntG l 7 := h8 7 (by omega) (by omega); have a8 : 5 ≤ cntG l 8 := h8 8 (by omega) (by omega)
      omega
theorem map_unit_set {l : List GMember} {i : Nat} {x y : GMember} (h : l[i]? = some x) (e : y.Unit = x.Unit) : (l.set i y).map (·.Unit) = l.map (·.Unit) := by
  rw [List.map_set, e]
  obtain ⟨hi, hx⟩ := List.getElem?_eq_some_iff.1 h
  apply List.ext_getElem?
  intro k
  rw [List.getElem?_set]
  split
  · rename_i e2; subst e2; rw [List.length_map, if_pos hi, List.getElem?_map, h]; rfl
  · rfl
theorem find_units {a b : List GMember} (h : a.map (·.Unit) = b.map (·.Unit)) (u : Int) : findM a u = findM b u := by
  have key : ∀ (l : List GMember), findM l u = fidx (fun x => x == u) (l.map (·.Unit)) := by
    intro l
    unfold findM fidx
    rw [List.findIdx?_map]
    rfl
  rw [key, key, h]
theorem mem_set_or {l : List GMember} {i : Nat} {y m : GMember} (h : m ∈ l.set i y) : m ∈ l ∨ m = y := List.mem_or_eq_of_mem_set h
theorem move_raid {l : List GMember} (h : Raid l) (u to : Int) : (moveM l u to).2 ≠ 0 ∨ (moveM l u to).2 = 0 ∧ Raid (moveM l u to).1 ∧ groupM (moveM l u to).1 u = to := by
  have hl : l.length ≤ 1000000 := by have := h.len; omega
  unfold moveM
  rw [if_pos ((right_raid hl).2 h)]
  by_cases h1 : groupB to = true
  · rw [if_pos h1]
    by_cases h2 : findM l u < 0
    · rw [if_pos h2]; exact .inl (by decide)
    · rw [if_neg h2]
      obtain ⟨i, hi⟩ : ∃ i : Nat, findM l u = i := ⟨(findM l u).toNat, by omega⟩
      obtain ⟨x, hx, hu, _⟩ := findM_some hi
      rw [hi, Int.toNat_natCast, List.getD_eq_getElem?_getD, hx, Option.getD_some]
      by_cases h3 : x.Group = to
      · rw [if_pos h3]; exact .inl (by decide)
      · rw [if_neg h3]
        obtain ⟨_, _, h4⟩ := (count_spec hl).resolve_right (fun h' => h'.1 h.grp)
        have hg := groupB_iff.1 h1
        rw [h4 _ (by omega), Int.toNat_of_nonneg (by omega)]
        by_cases h5 : (cntG l to : Int) ≥ 5
        · rw [if_pos h5]; exact .inl (by decide)
        · rw [if_neg h5]
          have hmu := map_unit_set (y := { x with Group := to }) hx rfl
          refine .inr ⟨rfl, ⟨fun m hm => ?_, fun g => ?_, fun m hm => ?_, ?_⟩, ?_⟩
          · rcases mem_set_or hm with hm | rfl
            · exact h.grp m hm
            · exact ⟨by show 1 ≤ to; omega, by show to ≤ 8; omega⟩
          · have h6 := cntG_set (y := { x with Group := to }) g hx
            have h7 := h.cnt g
            show cntG (l.set i { x with Group := to }) g ≤ 5
            simp only at h6
            by_cases e : to = g
            · subst e; rw [if_neg h3, if_pos rfl] at h6; omega
            · rw [if_neg e] at h6; omega
          · rcases mem_set_or hm with hm | rfl
            · exact h.unit m hm
            · exact h.unit x (List.mem_of_getElem? hx)
          · show ((l.set i { x with Group := to }).map (·.Unit)).Nodup
            rw [hmu]; exact h.nd
          · exact groupM_some (m := { x with Group := to }) (by rw [find_units hmu]; exact hi) (by rw [List.getElem?_set, if_pos rfl, if_pos (List.getElem?_eq_some_iff.1 hx).1])
  · rw [if_neg h1]; exact .inl (by decide)
theorem getD_some' {l : List GMember} {i : Nat} {x : GMember} (h : l[i]? = some x) : l.getD i default = x := by rw [List.getD_eq_getElem?_getD, h]; rfl
/-- two change their groups -/
def twoM (l : List GMember) (i k : Nat) (x y : GMember) : List GMember := (l.set i { x with Group := y.Group }).set k { y with Group := x.Group }
theorem swapM_is {l : List GMember} (hr : rightM l = true) (a b : Int) : (swapM l a b).2 ≠ 0 ∨ ∃ (i k : Nat) (x y : GMember), findM l a = i ∧ findM l b = k ∧ l[i]? = some x ∧ l[k]? = some y ∧ x.Unit = a ∧ y.Unit = b ∧ x.Group ≠ y.Group ∧ swapM l a b = (twoM l i k x y, 0) := by
  unfold swapM
  rw [if_pos hr]
  by_cases h1 : findM l a < 0
  · rw [if_pos h1]; exact .inl (by decide)
  · rw [if_neg h1]
    by_cases h2 : findM l b < 0
    · rw [if_pos h2]; exact .inl (by decide)
    · rw [if_neg h2]
      obtain ⟨i, hi⟩ : ∃ i : Nat, findM l a = i := ⟨(findM l a).toNat, by omega⟩
      obtain ⟨k, hk⟩ : ∃ k : Nat, findM l b = k := ⟨(findM l b).toNat, by omega⟩
      obtain ⟨x, hx, hu, _⟩ := findM_some hi
      obtain ⟨y, hy, hv, _⟩ := findM_some hk
      rw [hi, hk, Int.toNat_natCast, Int.toNat_natCast, getD_some' hx, getD_some' hy]
      by_cases h3 : x.Group = y.Group
      · rw [if_pos h3]; exact .inl (by decide)
      · rw [if_neg h3]
        have hne : i ≠ k := fun e => by subst e; rw [hx] at hy; cases hy; exact h3 rfl
        refine .inr ⟨i, k, x, y, rfl, rfl, hx, hy, hu, hv, h3, ?_⟩
        have h4 : (l.set i { x with Group := y.Group })[k]? = some y := by rw [List.getElem?_set, if_neg hne]; exact hy
        rw [getD_some' h4]; rfl
theorem two_props {l : List GMember} {i k : Nat} {x y : GMember} (hx : l[i]? = some x) (hy : l[k]? = some y) (hg : x.Group ≠ y.Group) (h : Raid l) :
    Raid (twoM l i k x y) ∧ (twoM l i k x y).map (·.Unit) = l.map (·.Unit) ∧ (twoM l i k x y)[i]? = some { x with Group := y.Group } ∧ (twoM l i k x y)[k]? = some { y with Group := x.Group } ∧ twoM (twoM l i k x y) i k { x with Group := y.Group } { y with Group := x.Group } = l := by
  have hne : i ≠ k := fun e => by subst e; rw [hx] at hy; cases hy; exact hg rfl
  have hi := (List.getElem?_eq_some_iff.1 hx).1
  have hk := (List.getElem?_eq_some_iff.1 hy).1
  have h4 : (l.set i { x with Group := y.Group })[k]? = some y := by rw [List.getElem?_set, if_neg hne]; exact hy
  have hmu : (twoM l i k x y).map (·.Unit) = l.map (·.Unit) := by
    unfold twoM
    rw [map_unit_set (y := { y with Group := x.Group }) h4 rfl, map_unit_set (y := { x with Group := y.Group }) hx rfl]
  have hmem : ∀ m ∈ twoM l i k x y, (1 ≤ m.Group ∧ m.Group ≤ 8) ∧ 1 ≤ m.Unit := fun m hm => by
    have gx := h.grp x (List.mem_of_getElem? hx); have gy := h.grp y (List.mem_of_getElem? hy)
    have ux := h.unit x (List.mem_of_getElem? hx); have uy := h.unit y (List.mem_of_getElem? hy)
    rcases mem_set_or hm with hm | rfl
    · rcases mem_set_or hm with hm | rfl
      · exact ⟨h.grp m hm, h.unit m hm⟩
      · exact ⟨gy, ux⟩
    · exact ⟨gx, uy⟩
  have gi : (twoM l i k x y)[i]? = some { x with Group := y.Group } := by
    unfold twoM
    rw [List.getElem?_set, if_neg (Ne.symm hne), List.getElem?_set, if_pos rfl, if_pos hi]
  have gk : (twoM l i k x y)[k]? = some { y with Group := x.Group } := by
    unfold twoM
    rw [List.getElem?_set, if_pos rfl, if_pos (by rw [List.length_set]; exact hk)]
  refine ⟨⟨fun m hm => (hmem m hm).1, fun g => ?_, fun m hm => (hmem m hm).2, by rw [hmu]; exact h.nd⟩, hmu, gi, gk, ?_⟩
  · have h5 := cntG_set (y := { x with Group := y.Group }) g hx
    have h6 := cntG_set (y := { y with Group := x.Group }) g h4
    have h7 := h.cnt g
    unfold twoM
    simp only at h5 h6
    omega
  · apply List.ext_getElem?
    intro j
    unfold twoM
    simp only [List.getElem?_set, List.length_set]
    by_cases e1 : k = j
    · subst e1; rw [if_pos rfl, if_pos hk, hy]
    · rw [if_neg e1]
      by_cases e2 : i = j
      · subst e2; rw [if_pos rfl, if_pos hi, hx]
      · rw [if_neg e2, if_neg e1, if_neg e2]
theorem swap_raid {l : List GMember} (h : Raid l) (a b : Int) : (swapM l a b).2 ≠ 0 ∨ (swapM l a b).2 = 0 ∧ Raid (swapM l a b).1 ∧ (swapM (swapM l a b).1 a b).2 = 0 ∧ (swapM (swapM l a b).1 a b).1 = l := by
  have hl : l.length ≤ 1000000 := by have := h.len; omega
  rcases swapM_is ((right_raid hl).2 h) a b with h1 | ⟨i, k, x, y, h1, h2, h3, h4, h5, h6, h7, h8⟩
  · exact .inl h1
  · obtain ⟨p1, p2, p3, p4, p5⟩ := two_props h3 h4 h7 h
    right
    rw [h8]
    refine ⟨rfl, p1, ?_⟩
    have hl2 : (twoM l i k x y).length ≤ 1000000 := by have := p1.len; omega
    show (swapM (twoM l i k x y) a b).2 = 0 ∧ (swapM (twoM l i k x y) a b).1 = l
    unfold swapM
    rw [if_pos ((right_raid hl2).2 p1), find_units p2, find_units p2, h1, h2, if_neg (show ¬ ((i : Nat) : Int) < 0 by omega), if_neg (show ¬ ((k : Nat) : Int) < 0 by omega)]
    simp only [Int.toNat_natCast, getD_some' p3, getD_some' p4]
    rw [if_neg (Ne.symm h7)]
    have hne : i ≠ k := fun e => by subst e; rw [h3] at h4; cases h4; exact h7 rfl
    have h9 : ((twoM l i k x y).set i { Unit := x.Unit, Group := x.Group })[k]? = some { y with Group := x.Group } := by rw [List.getElem?_set, if_neg hne]; exact p4
    rw [getD_some' h9]
    exact ⟨rfl, p5⟩
theorem and63 (a : Int) : 0 ≤ andK .i64 a 63 ∧ andK .i64 a 63 ≤ 63 := by
  have h : (BitVec.ofInt 64 a &&& BitVec.ofInt 64 63).toNat ≤ 63 := by
    rw [BitVec.toNat_and]; exact Nat.and_le_right
  unfold andK
  have : IntKind.i64.bits = 64 := rfl
  rw [this, wrap_lt (by omega) (by omega)]
  omega
theorem and7 (a : Int) : 0 ≤ andK .i64 a 7 ∧ andK .i64 a 7 ≤ 7 := by
  have h : (BitVec.ofInt 64 a &&& BitVec.ofInt 64 7).toNat ≤ 7 := by
    rw [BitVec.toNat_and]; exact Nat.and_le_right
  unfold andK
  have : IntKind.i64.bits = 64 := rfl
  rw [this, wrap_lt (by omega) (by omega)]
  omega
theorem stays_J (l : List GMember) (x : A3int) (h : Raid l) : ∃ m e, stays22_J45 l x = .inr (m, e) ∧ (e = 0 → Raid m) := by
  have hlen := h.len
  have hu := and63 x.f1; have hv := and63 x.f2; have ht := and7 x.f2
  obtain ⟨u, eu⟩ : ∃ u, u = IntKind.i64.wrap (1 + andK .i64 x.f1 63) := ⟨_, rfl⟩
  obtain ⟨v, ev⟩ : ∃ v, v = IntKind.i64.wrap (1 + andK .i64 x.f2 63) := ⟨_, rfl⟩
  obtain ⟨to, et⟩ : ∃ to, to = IntKind.i64.wrap (andK .i64 x.f2 7 + 1) := ⟨_, rfl⟩
  have hu1 : 1 ≤ u := by rw [eu, wrap_lt (by omega) (by omega)]; omega
  unfold stays22_J45
  rw [← eu, ← ev, ← et]
  by_cases c0 : andK .i64 x.f0 3 = 0
  · simp only [c0, if_true]
    rcases join_raid h hu1 with ⟨h1, h2, h3, h4, g, h5, h6, h7, _⟩ | ⟨h1, h2⟩ | ⟨h1, h2⟩
    · refine ⟨(joinM l u).1, (joinM l u).2.2, ?_, fun _ => h2⟩
      have e1 : ((joinM l u).1.length : Int) = IntKind.i64.wrap (l.length + 1) := by rw [h4, wrap_lt (by omega) (by omega)]; simp
      have e2 : (IntKind.i64.wrap ((joinM l u).1.length - 1)).toNat = l.length := by rw [h4]; simp only [List.length_append, List.length_cons, List.length_nil]; rw [wrap_lt (by omega) (by omega)]; omega
      have e3 : (joinM l u).1.getD l.length default = ⟨u, (joinM l u).2.1⟩ := by rw [h4]; simp [List.getD]
      simp only [e2, e3]
      simp only [h1, if_true, e1, show ¬ ((0 : Int) = 4) by decide, if_false]
    · refine ⟨(joinM l u).1, (joinM l u).2.2, ?_, fun e => by rw [h1] at e; cases e⟩
      simp only [h1, show ¬ ((7 : Int) = 0) by decide, show ¬ ((7 : Int) = 4) by decide, if_false]
    · refine ⟨(joinM l u).1, (joinM l u).2.2, ?_, fun e => by rw [h1] at e; cases e⟩
      simp only [h1, h2, show ¬ ((4 : Int) = 0) by decide, if_false, if_true, show ((40 : Nat) : Int) = 40 by rfl]
  · rw [if_neg c0]
    by_cases c1 : andK .i64 x.f0 3 = 1
    · simp only [c1, if_true]
      have e1 := groupM_none (leave_gone h u)
      simp only [e1, if_true]
      rcases leaveM_is (l := l) (by omega) u with ⟨h0, e⟩ | ⟨i, h1, h2, e⟩
      · refine ⟨(leaveM l u).1, stays22_J112 l x, ?_, fun _ => leave_raid h u⟩
        simp only [e]; rfl
      · refine ⟨(leaveM l u).1, stays22_J112 l x, ?_, fun _ => leave_raid h u⟩
        have e2 : ((l.take i ++ l.drop (i + 1)).length : Int) = IntKind.i64.wrap (l.length - 1) := by
          rw [wrap_lt (by omega) (by omega)]; simp only [List.length_append, List.length_take, List.length_drop]; omega
        simp only [e, if_true, e2]
    · rw [if_neg c1]
      by_cases c2 : andK .i64 x.f0 3 = 2
      · simp only [c2, if_true]
        rcases move_raid h u to with h1 | ⟨h1, h2, h3⟩
        · refine ⟨(moveM l u to).1, (moveM l u to).2, ?_, fun e => absurd e h1⟩
          rw [if_neg h1]
        · refine ⟨(moveM l u to).1, (moveM l u to).2, ?_, fun _ => h2⟩
          rw [if_pos h1, if_pos h3]
      · rw [if_neg c2]
        by_cases c3 : andK .i64 x.f0 3 = 3
        · simp only [c3, if_true]
          rcases swap_raid h u v with h1 | ⟨h1, h2, h3, h4⟩
          · refine ⟨(swapM l u v).1, (swapM l u v).2, ?_, fun e => absurd e h1⟩
            rw [if_neg h1]
          · refine ⟨(swapM l u v).1, (swapM l u v).2, ?_, fun _ => h2⟩
            rw [if_pos h1, if_pos h3, if_pos h4]
        · rw [if_neg c3]; exact ⟨[], 5, rfl, fun e => by cases e⟩
theorem stays_go : ∀ (steps : List A3int) (k : Nat) (l : List GMember), Raid l → ∃ l', stays22_L0 steps k l = .inr l' ∧ Raid l'
  | [], _, l, h => ⟨l, by rw [stays22_L0], h⟩
  | x :: r, k, l, h => by
    rw [stays22_L0]
    obtain ⟨m, e, h1, h2⟩ := stays_J l x h
    rw [h1]
    dsimp only
    have h3 : Raid (stays22_J184 l m e) := by
      unfold stays22_J184
      split
      · rename_i e0; exact h2 e0
      · exact h
    have h4 := h3.len
    rw [if_pos ((right_raid (by omega)).2 h3), if_neg (by omega)]
    exact stays_go r (k + 1) _ h3
theorem sum_go {l : List GMember} (h : Raid l) : ∀ (n k : Nat) (a : Int), 0 ≤ a → a ≤ 5 * k → k + n ≤ 9 → stays22_L1 l n k a = .inr (a + ((List.range n).map fun i => (cntG l ((k + i : Nat) : Int) : Int)).sum)
  | 0, k, a, _, _, _ => by rw [stays22_L1]; simp
  | n + 1, k, a, h0, h1, h2 => by
    have hc := h.cnt k
    rw [stays22_L1, inM_cnt, if_neg (by omega), wrap_lt (by omega) (by omega), sum_go h n (k + 1) _ (by omega) (by omega) (by omega)]
    congr 1
    rw [List.range_succ_eq_map, List.map_cons, List.sum_cons, List.map_map, Int.add_assoc]
    congr 2
    congr 1
    apply List.map_congr_left
    intro i _
    show (cntG l ((k + 1 + i : Nat) : Int) : Int) = cntG l ((k + (i + 1) : Nat) : Int)
    rw [show k + 1 + i = k + (i + 1) by omega]
theorem stays22_true (steps : List A3int) : stays22 steps = true := by
  unfold stays22
  by_cases h : (steps.length : Int) > 200
  · rw [if_pos h]; exact small22_true
  · rw [if_neg h]
    obtain ⟨l, h1, h2⟩ := stays_go steps 0 [] raid_nil
    rw [h1]
    dsimp only
    rw [sum_go h2 8 1 0 (by omega) (by omega) (by omega)]
    dsimp only
    have h3 := len_sum h2.grp
    have h4 : (0 : Int) + ((List.range 8).map fun i => (cntG l ((1 + i : Nat) : Int) : Int)).sum = l.length := by
      rw [h3]
      simp only [List.range, List.range.loop, List.map_cons, List.map_nil, List.sum_cons, List.sum_nil]
      simp
      omega
    rw [if_pos small22_true, if_pos h4]
    split
    · rfl
    · rename_i h5
      unfold leadM
      rw [if_neg h5]; simp

def fillL (n : Nat) : List GMember := (List.range n).map fun (i : Nat) => ⟨(i : Int) + 1, ((i / 5 : Nat) : Int) + 1⟩
theorem fill_join : ∀ k, k < 40 → joinM (fillL k) (IntKind.i64.wrap ((k : Int) + 1)) = (fillL (k + 1), IntKind.i64.wrap (IntKind.i64.wrap ((k : Int).tdiv 5) + 1), 0) := by decide +kernel
theorem fill_right : ∀ n, n < 41 → rightM (fillL n) = true := by decide +kernel
theorem fill_full : ∀ n, n < 41 → (((joinM (fillL n) 100).2.2 : Int) == 4) = ((n : Int) == 40) := by decide +kernel
theorem fill_cnt : ∀ n : Nat, n < 41 → ∀ i : Nat, i < n → ∀ j : Nat, j < i / 5 + 1 → 1 ≤ j → cntG (fillL n) (j : Int) = 5 := by decide +kernel
theorem fill_get {n i : Nat} (h : i < n) : (fillL n)[i]? = some ⟨(i : Int) + 1, ((i / 5 : Nat) : Int) + 1⟩ := by
  unfold fillL; rw [List.getElem?_map, List.getElem?_range h]; rfl
theorem fill_len (n : Nat) : (fillL n).length = n := by simp [fillL]
theorem fills_go : ∀ (m k : Nat), k + m ≤ 40 → fills22_L0 m k (fillL k) = .inr (fillL (k + m))
  | 0, k, _ => by rw [fills22_L0]; rfl
  | m + 1, k, h => by
    rw [fills22_L0, fill_join k (by omega)]
    simp only [if_true]
    rw [fills_go m (k + 1) (by omega), show k + 1 + m = k + (m + 1) by omega]
theorem fill_raid {n : Nat} (h : n < 41) : Raid (fillL n) := (right_raid (by rw [fill_len]; omega)).1 (fill_right n h)
theorem fill_find {n i : Nat} (h : n < 41) (hi : i < n) : findM (fillL n) ((i : Int) + 1) = i := findM_at (fill_raid h).nd (fill_get hi)
theorem fill_none {n : Nat} {u : Int} (h : u < 1 ∨ (n : Int) < u) : findM (fillL n) u < 0 := by
  refine findM_neg.2 fun m hm e => ?_
  unfold fillL at hm
  obtain ⟨i, hi, rfl⟩ := List.mem_map.1 hm
  rw [List.mem_range] at hi
  simp only at e; omega
/-- a raid that is filled, without one -/
theorem fill_leave {n i : Nat} (h : n < 41) (hi : i < n) : leaveM (fillL n) ((i : Int) + 1) = ((fillL n).take i ++ (fillL n).drop (i + 1), true) := by
  rcases leaveM_is (l := fillL n) (by rw [fill_len]; omega) ((i : Int) + 1) with ⟨h0, _⟩ | ⟨j, h1, _, e⟩
  · rw [fill_find h hi] at h0; omega
  · rw [fill_find h hi] at h1
    obtain rfl : i = j := by omega
    exact e
theorem fill_groups {n i k : Nat} (h : n < 41) (hi : i < n) (hk : k < n) (hne : k ≠ i) : groupM ((fillL n).take i ++ (fillL n).drop (i + 1)) ((k : Int) + 1) = groupM (fillL n) ((k : Int) + 1) := by
  have hr := raid_sub (leave_sub (fillL n) i) (fill_raid h)
  rw [groupM_some (fill_find h hk) (fill_get hk)]
  have hl := fill_len n
  by_cases hlt : k < i
  · have hg : ((fillL n).take i ++ (fillL n).drop (i + 1))[k]? = some ⟨(k : Int) + 1, ((k / 5 : Nat) : Int) + 1⟩ := by
      rw [List.getElem?_append_left (by rw [List.length_take]; omega), List.getElem?_take, if_pos hlt]; exact fill_get hk
    exact groupM_some (findM_at hr.nd hg) hg
  · have hg : ((fillL n).take i ++ (fillL n).drop (i + 1))[k - 1]? = some ⟨(k : Int) + 1, ((k / 5 : Nat) : Int) + 1⟩ := by
      rw [List.getElem?_append_right (by rw [List.length_take]; omega), List.length_take, List.getElem?_drop, show i + 1 + (k - 1 - min i (fillL n).length) = k by omega]; exact fill_get hk
    exact groupM_some (findM_at hr.nd hg) hg
theorem fills_L1 {n : Nat} (h : n < 41) (out : Int) : ∀ (m k : Nat), 1 ≤ k → k + m = n + 1 → fills22_L1 out (fillL n) m k = .inr ()
  | 0, k, _, _ => by rw [fills22_L1]
  | m + 1, k, h1, h2 => by
    rw [fills22_L1]
    have ih := fills_L1 h out m (k + 1) (by omega) (by omega)
    by_cases e : (k : Int) = out
    · rw [if_pos e]; exact ih
    · rw [if_neg e]
      have hg : groupM (leaveM (fillL n) out).1 k = groupM (fillL n) k := by
        by_cases ho : 1 ≤ out ∧ out ≤ n
        · obtain ⟨i, hi⟩ : ∃ i : Nat, out = (i : Int) + 1 := ⟨(out - 1).toNat, by omega⟩
          subst hi
          rw [fill_leave h (by omega)]
          have := fill_groups (i := i) (k := k - 1) h (by omega) (by omega) (by omega)
          rw [show ((k - 1 : Nat) : Int) + 1 = k by omega] at this
          exact this
        · rcases leaveM_is (l := fillL n) (by rw [fill_len]; omega) out with ⟨_, e2⟩ | ⟨j, h3, _, _⟩
          · rw [e2]
          · have := fill_none (n := n) (u := out) (by omega); omega
      rw [if_pos hg]; exact ih
theorem fill_again {n i : Nat} (h : n < 41) (hi : i < n) : (joinM ((fillL n).take i ++ (fillL n).drop (i + 1)) 101).2.2 = 0 ∧ (joinM ((fillL n).take i ++ (fillL n).drop (i + 1)) 101).2.1 = ((i / 5 : Nat) : Int) + 1 := by
  have hf := fill_raid h
  have hr := raid_sub (leave_sub (fillL n) i) hf
  have hl := fill_len n
  have hx := fill_get hi
  have hsplit : ∀ g, cntG (fillL n) g = cntG ((fillL n).take i ++ (fillL n).drop (i + 1)) g + (if ((i / 5 : Nat) : Int) + 1 = g then 1 else 0) := fun g => by
    have e : fillL n = (fillL n).take i ++ (⟨(i : Int) + 1, ((i / 5 : Nat) : Int) + 1⟩ :: (fillL n).drop (i + 1)) := by
      rw [← drop_cons hx, List.take_append_drop]
    have e2 := congrArg (fun l => cntG l g) e
    simp only [cntG_append, cntG_cons] at e2
    rw [cntG_append]; omega
  rcases join_raid hr (u := 101) (by decide) with ⟨h1, _, _, _, g, h5, h6, h7, h8, h9⟩ | ⟨_, h2⟩ | ⟨_, h2⟩
  · refine ⟨h1, ?_⟩
    rw [h7]
    have hge : ¬ g < i / 5 + 1 := fun hlt => by
      have h10 := fill_cnt n h i hi g hlt h5
      have h11 := hsplit g
      rw [if_neg (by omega)] at h11; omega
    have hle : ¬ i / 5 + 1 < g := fun hlt => by
      have h10 := h9 (i / 5 + 1) (by omega) hlt
      have h11 := hsplit (((i / 5 + 1 : Nat)) : Int)
      rw [if_pos (by omega)] at h11
      have := hf.cnt ((i / 5 + 1 : Nat) : Int); omega
    omega
  · exfalso
    have := findM_neg (l := (fillL n).take i ++ (fillL n).drop (i + 1)) (u := 101)
    have h3 : ¬ findM ((fillL n).take i ++ (fillL n).drop (i + 1)) 101 < 0 := by omega
    refine h3 (this.2 fun m hm e => ?_)
    have h4 := (leave_sub (fillL n) i).subset hm
    unfold fillL at h4
    obtain ⟨j, hj, rfl⟩ := List.mem_map.1 h4
    rw [List.mem_range] at hj
    simp only at e; omega
  · exfalso
    simp only [List.length_append, List.length_take, List.length_drop] at h2; omega
theorem fills22_true (n out : Int) : fills22 n out = true := by
  unfold fills22
  by_cases h1 : n < 0
  · rw [if_pos h1]; exact small22_true
  · rw [if_neg h1]
    by_cases h2 : n > 40
    · rw [if_pos h2]; exact small22_true
    · rw [if_neg h2]
      obtain ⟨k, rfl⟩ : ∃ k : Nat, n = k := ⟨n.toNat, by omega⟩
      have hk : k < 41 := by omega
      have e0 := fills_go k 0 (by omega)
      rw [show fillL 0 = [] from rfl, Nat.zero_add] at e0
      rw [Int.toNat_natCast, Nat.sub_zero, e0]
      dsimp only
      have hJ : fills22_J63 k out (fillL k) = .inr () := by
        unfold fills22_J63
        have hf := fill_full k hk
        by_cases ho : 1 ≤ out ∧ out ≤ k
        · obtain ⟨i, hi⟩ : ∃ i : Nat, out = (i : Int) + 1 := ⟨(out - 1).toNat, by omega⟩
          subst hi
          rw [if_pos (by omega), fill_leave hk (by omega), if_pos (by simp; omega), if_pos hf]
        · have e : (leaveM (fillL k) out).2 = false := by
            rcases leaveM_is (l := fillL k) (by rw [fill_len]; omega) out with ⟨_, e2⟩ | ⟨j, h3, _, _⟩
            · rw [e2]
            · have := fill_none (n := k) (u := out) (by omega); omega
          by_cases hp : out ≥ 1
          · rw [if_pos hp, e, if_pos (by simp; omega), if_pos hf]
          · rw [if_neg hp, e, if_pos rfl, if_pos hf]
      rw [hJ]
      dsimp only
      rw [show k + 1 - 1 = k from rfl, fills_L1 hk out k 1 (by omega) (by omega)]
      dsimp only
      rw [if_pos small22_true]
      by_cases ho : 1 ≤ out ∧ out ≤ k
      · obtain ⟨i, hi⟩ : ∃ i : Nat, out = (i : Int) + 1 := ⟨(out - 1).toNat, by omega⟩
        subst hi
        have h5 := fill_again hk (show i < k by omega)
        rw [fill_leave hk (by omega)]
        have ew : ∀ i : Nat, i < 40 → ((((i / 5 : Nat) : Int) + 1 : Int) == (IntKind.i64.wrap ((IntKind.i64.wrap ((IntKind.i64.wrap ((i : Int) + 1 - 1) : Int).tdiv 5)) + 1))) = true := by decide +kernel
        simp only [h5.1, h5.2, if_true]
        exact ew i (by omega)
      · have e : (leaveM (fillL k) out).2 = false := by
          rcases leaveM_is (l := fillL k) (by rw [fill_len]; omega) out with ⟨_, e2⟩ | ⟨j, h3, _, _⟩
          · rw [e2]
          · have := fill_none (n := k) (u := out) (by omega); omega
        simp [e]
theorem stays22_yes (steps : List A3int) (f : Bool) : Ok Try.prog 4 [.pv (.slc steps.length f (steps.flatMap encA3int))] [] (B true) [] [] := by
  have h := stays22_ok steps f
  rwa [stays22_true] at h
theorem fills22_yes (n out : Int) : Ok Try.prog 5 [I n, I out] [] (B true) [] [] := by
  have h := fills22_ok n out
  rwa [fills22_true] at h

end Go.Proofs.Ytlcdcechaogofaa

import Derived.Test.YtcahldiaeamgaaaLaw19
namespace Go.Proofs.Ytcahldiaeamgaaa
open Go Go.RowKit Go.Proofs.YtcahldiaeamgaaaVm
attribute [local irreducible] opsWp AnswersE OpsS
set_option maxHeartbeats 400000
set_option maxRecDepth 100000
set_option linter.all false
theorem getT_some {l : List GThreat} {i : Nat} {x : GThreat} (h : l[i]? = some x) : l.getD i default = x := by rw [List.getD_eq_getElem?_getD, h]; rfl
theorem findT_is {l : List GThreat} {u : Int} {i : Nat} (h : findT l u = (i : Int)) : ∃ m, l[i]? = some m ∧ m.Unit = u ∧ ∀ y ∈ l.take i, y.Unit ≠ u := by
  unfold findT at h
  rcases fidx_cases (fun x_ => matchT x_ u) l with ⟨h1, _⟩ | ⟨k, x, h1, h2, h3, h4⟩
  · rw [h1] at h; omega
  · rw [h1] at h
    obtain rfl : k = i := by omega
    exact ⟨x, h2, by simpa [matchT] using h3, fun y hy => by have := h4 y hy; simpa [matchT] using this⟩
theorem findT_neg {l : List GThreat} {u : Int} : findT l u < 0 ↔ ∀ m ∈ l, m.Unit ≠ u := by
  unfold findT
  rcases fidx_cases (fun x_ => matchT x_ u) l with ⟨h1, h2⟩ | ⟨k, x, h1, h2, h3, h4⟩
  · rw [h1]; exact ⟨fun _ m hm => by have := h2 m hm; simpa [matchT] using this, fun _ => by omega⟩
  · rw [h1]; exact ⟨fun h => by omega, fun h => absurd (by simpa [matchT] using h3) (h x (List.mem_of_getElem? h2))⟩
theorem findT_at {l : List GThreat} (hn : (l.map (·.Unit)).Nodup) {i : Nat} {m : GThreat} (h : l[i]? = some m) : findT l m.Unit = i := by
  have h0 : ¬ findT l m.Unit < 0 := fun h1 => findT_neg.1 h1 m (List.mem_of_getElem? h) rfl
  obtain ⟨k, hk⟩ : ∃ k : Nat, findT l m.Unit = k := ⟨(findT l m.Unit).toNat, by omega⟩
  obtain ⟨x, h1, h2, _⟩ := findT_is hk
  rw [hk]
  have h3 : (l.map (·.Unit))[k]? = (l.map (·.Unit))[i]? := by rw [List.getElem?_map, List.getElem?_map, h1, h]; simp [h2]
  have h4 : k < (l.map (·.Unit)).length := by rw [List.length_map]; exact (List.getElem?_eq_some_iff.1 h1).1
  rw [(List.getElem?_inj h4 hn).1 h3]
theorem nodupT_of {l : List GThreat} (h : ∀ (i : Nat) (m : GThreat), l[i]? = some m → findT l m.Unit = i) : (l.map (·.Unit)).Nodup := by
  unfold List.Nodup
  rw [List.pairwise_iff_getElem]
  intro i j hi hj hij e
  rw [List.length_map] at hi hj
  simp only [List.getElem_map] at e
  have h1 := h i _ (List.getElem?_eq_getElem hi)
  have h2 := h j _ (List.getElem?_eq_getElem hj)
  rw [e, h2] at h1
  omega
/-- a right row -/
structure Rt (l : List GThreat) : Prop where
  all : ∀ x ∈ l, 1 ≤ x.Unit ∧ 0 ≤ x.Much
  nd : (l.map (·.Unit)).Nodup
  len : l.length ≤ 40
theorem mem_ins {l : List Int} {n x : Int} : x ∈ insI l n ↔ x = n ∨ x ∈ l := by
  unfold insI
  split
  · constructor
    · exact .inr
    · rintro (rfl | h)
      · assumption
      · exact h
  · simp; exact Or.comm
theorem rightT_go : ∀ (r : List GThreat) (k : Nat) (s : List Int), (rightT_L0 r k s = .inr () ∧ (∀ x ∈ r, (1 ≤ x.Unit ∧ 0 ≤ x.Much) ∧ x.Unit ∉ s) ∧ (r.map (·.Unit)).Nodup) ∨ (rightT_L0 r k s = .inl false ∧ ¬ ((∀ x ∈ r, (1 ≤ x.Unit ∧ 0 ≤ x.Much) ∧ x.Unit ∉ s) ∧ (r.map (·.Unit)).Nodup))
  | [], k, s => .inl ⟨by rw [rightT_L0], by simp, by simp⟩
  | x :: r, k, s => by
    rw [rightT_L0]
    by_cases h : (1 ≤ x.Unit ∧ 0 ≤ x.Much) ∧ x.Unit ∉ s
    · rw [if_neg (show ¬ x.Unit < 1 by omega), if_neg (show ¬ x.Much < 0 by omega), if_neg h.2]
      rcases rightT_go r (k + 1) (insI s x.Unit) with ⟨h1, h2, h3⟩ | ⟨h1, h2⟩
      · refine .inl ⟨h1, fun y hy => ?_, ?_⟩
        · rcases List.mem_cons.1 hy with rfl | hy
          · exact h
          · exact ⟨(h2 y hy).1, fun h4 => (h2 y hy).2 (mem_ins.2 (.inr h4))⟩
        · rw [List.map_cons, List.nodup_cons]
          refine ⟨fun h4 => ?_, h3⟩
          obtain ⟨y, hy, e⟩ := List.mem_map.1 h4
          exact (h2 y hy).2 (mem_ins.2 (.inl e))
      · refine .inr ⟨h1, fun ⟨h3, h4⟩ => h2 ⟨fun y hy => ⟨(h3 y (List.mem_cons_of_mem _ hy)).1, fun h5 => ?_⟩, ?_⟩⟩
        · rw [List.map_cons, List.nodup_cons] at h4
          rcases mem_ins.1 h5 with e | h6
          · exact h4.1 (List.mem_map.2 ⟨y, hy, e⟩)
          · exact (h3 y (List.mem_cons_of_mem _ hy)).2 h6
        · rw [List.map_cons, List.nodup_cons] at h4; exact h4.2
    · refine .inr ⟨?_, fun ⟨h3, _⟩ => h (h3 x (List.mem_cons_self ..))⟩
      split
      · rfl
      · split
        · rfl
        · split
          · rfl
          · exact absurd ⟨by omega, by assumption⟩ h
theorem rightT_iff (l : List GThreat) : rightT l = true ↔ Rt l := by
  unfold rightT
  rcases rightT_go l 0 [] with ⟨h1, h2, h3⟩ | ⟨h1, h2⟩
  · rw [h1]
    constructor
    · intro h; have := of_decide_eq_true h; exact ⟨fun x hx => (h2 x hx).1, h3, by omega⟩
    · intro h; have := h.len; exact decide_eq_true (by omega)
  · rw [h1]; exact ⟨fun h => (by cases h), fun h => absurd ⟨fun x hx => ⟨h.all x hx, by simp⟩, h.nd⟩ h2⟩
theorem rightTR_go (l : List GThreat) : ∀ (r : List GThreat) (k : Nat), (rightTR_L0 l r k = .inr () ∧ ∀ (i : Nat) (m : GThreat), r[i]? = some m → (1 ≤ m.Unit ∧ 0 ≤ m.Much) ∧ findT l m.Unit = ((i + k : Nat) : Int)) ∨ (rightTR_L0 l r k = .inl false ∧ ¬ ∀ (i : Nat) (m : GThreat), r[i]? = some m → (1 ≤ m.Unit ∧ 0 ≤ m.Much) ∧ findT l m.Unit = ((i + k : Nat) : Int))
  | [], k => .inl ⟨by rw [rightTR_L0], by simp⟩
  | x :: r, k => by
    rw [rightTR_L0, findTR_eq]
    by_cases h : (1 ≤ x.Unit ∧ 0 ≤ x.Much) ∧ findT l x.Unit = k
    · rw [if_neg (show ¬ x.Unit < 1 by omega), if_neg (show ¬ x.Much < 0 by omega), if_pos h.2]
      rcases rightTR_go l r (k + 1) with ⟨h3, h4⟩ | ⟨h3, h4⟩
      · refine .inl ⟨h3, fun i m hm => ?_⟩
        cases i with
        | zero => simp at hm; subst hm; simpa using h
        | succ i => have := h4 i m (by simpa using hm); rw [show i + 1 + k = i + (k + 1) by omega]; exact this
      · refine .inr ⟨h3, fun h => h4 fun i m hm => ?_⟩
        have := h (i + 1) m (by simpa using hm)
        rw [show i + (k + 1) = i + 1 + k by omega]; exact this
    · refine .inr ⟨?_, fun h3 => h (by simpa using h3 0 x rfl)⟩
      split
      · rfl
      · split
        · rfl
        · split
          · exact absurd ⟨by omega, by assumption⟩ h
          · rfl
theorem rightTR_iff (l : List GThreat) : rightTR l = true ↔ Rt l := by
  unfold rightTR
  rcases rightTR_go l l 0 with ⟨h1, h2⟩ | ⟨h1, h2⟩
  · rw [h1]
    constructor
    · intro h; have := of_decide_eq_true h
      refine ⟨fun x hx => ?_, nodupT_of fun i m hm => (h2 i m hm).2, by omega⟩
      obtain ⟨i, hi⟩ := List.mem_iff_getElem?.1 hx
      exact (h2 i x hi).1
    · intro h; have := h.len; exact decide_eq_true (by omega)
  · rw [h1]; exact ⟨fun h => (by cases h), fun h => absurd (fun i m hm => ⟨h.all m (List.mem_of_getElem? hm), findT_at h.nd hm⟩) h2⟩
theorem rightT_eq (l : List GThreat) : rightT l = rightTR l := by rw [Bool.eq_iff_iff, rightT_iff, rightTR_iff]
theorem muchT_eq (l : List GThreat) (u : Int) : muchT l u = muchTR l u := by simp only [muchT, muchTR, findTR_eq]
theorem addT_eq {l : List GThreat} (hw : ∀ x ∈ l, InR x.Much) {u m : Int} (hm : InR m) : addT l u m = addTR l u m := by
  unfold addT addTR
  rw [rightT_eq, findTR_eq, copyTR_eq]
  have h : findT l u ≥ 0 → addM ((l.getD (findT l u).toNat default).Much) m = addR ((l.getD (findT l u).toNat default).Much) m := fun h0 => by
    obtain ⟨k, hk⟩ : ∃ k : Nat, findT l u = k := ⟨(findT l u).toNat, by omega⟩
    obtain ⟨x, h1, _⟩ := findT_is hk
    rw [hk, Int.toNat_natCast, getT_some h1]
    exact add_same (hw x (List.mem_of_getElem? h1)) hm
  split
  · split
    · rfl
    · split
      · rename_i h1; rw [h h1]
      · rfl
  · rfl
theorem dropT_eq (l : List GThreat) (u : Int) : dropT l u = dropTR l u := by simp only [dropT, dropTR, findTR_eq, copyTR_eq]
theorem fadeT_go2 (p : Int) : ∀ (n k : Nat) (o : List GThreat), fadeT_L0 p n k o = fadeTR_L0 p n k o
  | 0, _, _ => by rw [fadeT_L0, fadeTR_L0]
  | n + 1, k, o => by rw [fadeT_L0, fadeTR_L0, fadeT_go2 p n, part_same]
theorem fadeT_eq (l : List GThreat) (p : Int) : fadeT l p = fadeTR l p := by simp only [fadeT, fadeTR, fadeT_go2, copyTR_eq]
/-- the first of the greatest -/
theorem mostT_is (l : List GThreat) (c : GThreat → Bool) (o : GThreat → Int) : ∀ (r : List GThreat) (k : Nat) (b : Int), r = l.drop k → (b = -1 ∧ (∀ y ∈ l.take k, c y = false) ∨ ∃ (j : Nat) (x : GThreat), b = j ∧ j < k ∧ l[j]? = some x ∧ c x = true ∧ ∀ y ∈ l.take k, c y = true → o y ≤ o x) →
    (mostT_L0 l c o r k b = -1 ∧ (∀ y ∈ l, c y = false) ∨ ∃ (j : Nat) (x : GThreat), mostT_L0 l c o r k b = j ∧ l[j]? = some x ∧ c x = true ∧ ∀ y ∈ l, c y = true → o y ≤ o x)
  | [], k, b, hr, h => by
    rw [mostT_L0]
    have hk : l.take k = l := List.take_of_length_le (by have := congrArg List.length hr; simp at this; omega)
    rw [hk] at h
    rcases h with h | ⟨j, x, h1, _, h2, h3, h4⟩
    · exact .inl h
    · exact .inr ⟨j, x, h1, h2, h3, h4⟩
  | x :: r, k, b, hr, h => by
    have hx : l[k]? = some x := by
      have := congrArg (fun l => l[0]?) hr
      simpa using this.symm
    have hr2 : r = l.drop (k + 1) := by rw [← List.drop_drop, ← hr]; rfl
    rw [mostT_L0]
    have htk := take_snoc hx
    by_cases hc : c x = true
    · rw [if_pos hc]
      rcases h with ⟨rfl, h⟩ | ⟨j, z, rfl, hj, h2, h3, h4⟩
      · rw [if_pos (by omega)]
        refine mostT_is l c o r (k + 1) k hr2 (.inr ⟨k, x, rfl, by omega, hx, hc, fun y hy hcy => ?_⟩)
        rw [htk] at hy
        rcases List.mem_append.1 hy with hy | hy
        · rw [h y hy] at hcy; cases hcy
        · rw [List.mem_singleton] at hy; subst hy; exact Int.le_refl _
      · rw [if_neg (by omega), Int.toNat_natCast, getT_some h2]
        by_cases h5 : o x > o z
        · rw [if_pos h5]
          refine mostT_is l c o r (k + 1) k hr2 (.inr ⟨k, x, rfl, by omega, hx, hc, fun y hy hcy => ?_⟩)
          rw [htk] at hy
          rcases List.mem_append.1 hy with hy | hy
          · have := h4 y hy hcy; omega
          · rw [List.mem_singleton] at hy; subst hy; exact Int.le_refl _
        · rw [if_neg h5]
          refine mostT_is l c o r (k + 1) j hr2 (.inr ⟨j, z, rfl, by omega, h2, h3, fun y hy hcy => ?_⟩)
          rw [htk] at hy
          rcases List.mem_append.1 hy with hy | hy
          · exact h4 y hy hcy
          · rw [List.mem_singleton] at hy; subst hy; omega
    · rw [if_neg hc]
      have hcf : c x = false := by simpa using hc
      refine mostT_is l c o r (k + 1) b hr2 ?_
      rcases h with ⟨rfl, h⟩ | ⟨j, z, rfl, hj, h2, h3, h4⟩
      · refine .inl ⟨rfl, fun y hy => ?_⟩
        rw [htk] at hy
        rcases List.mem_append.1 hy with hy | hy
        · exact h y hy
        · rw [List.mem_singleton] at hy; subst hy; exact hcf
      · refine .inr ⟨j, z, rfl, by omega, h2, h3, fun y hy hcy => ?_⟩
        rw [htk] at hy
        rcases List.mem_append.1 hy with hy | hy
        · exact h4 y hy hcy
        · rw [List.mem_singleton] at hy; subst hy; rw [hcf] at hcy; cases hcy
theorem mostT_spec (l : List GThreat) (c : GThreat → Bool) (o : GThreat → Int) : (mostT l c o = -1 ∧ (∀ y ∈ l, c y = false)) ∨ ∃ (j : Nat) (x : GThreat), mostT l c o = j ∧ l[j]? = some x ∧ c x = true ∧ ∀ y ∈ l, c y = true → o y ≤ o x :=
  mostT_is l c o l 0 (-1) rfl (.inl ⟨rfl, by simp⟩)
theorem most_go2 (l : List GThreat) (now : Int) : ∀ (r : List GThreat) (k : Nat) (b : Int), targetTR_L0 l now r k b = mostT_L0 l (fun x_ => afterT x_ now) (fun x_ => tauntOf x_) r k b
  | [], _, _ => by rw [targetTR_L0, mostT_L0]
  | x :: r, k, b => by
    rw [targetTR_L0, mostT_L0]
    simp only [most_go2 l now r]
    by_cases h : x.Taunt > now
    · rw [if_pos h, if_pos (show afterT x now = true from decide_eq_true h)]; rfl
    · rw [if_neg h, if_neg (show ¬ afterT x now = true from fun e => h (of_decide_eq_true e))]
theorem near_go (x : GThreat) : ∀ (r : List Int) (k : Nat) (m : Int), targetTR_L2 x r k m = if x.Unit ∈ r then 110 else m
  | [], _, _ => by rw [targetTR_L2]; simp
  | y :: r, k, m => by
    rw [targetTR_L2]
    by_cases h : y = x.Unit
    · rw [if_pos h, near_go x r]; subst h; simp
    · rw [if_neg h, near_go x r]
      by_cases h2 : x.Unit ∈ r
      · simp [h2]
      · rw [if_neg h2, if_neg (by simp; exact ⟨fun e => h e.symm, h2⟩)]
theorem most_any (l : List GThreat) (target : Int) (near : List Int) (h : findT l target < 0) : ∀ (r : List GThreat) (k : Nat) (b : Int), targetTR_L1 l target near r k b = mostT_L0 l (fun x_ => anyT x_) (fun x_ => muchOf x_) r k b
  | [], _, _ => by rw [targetTR_L1, mostT_L0]
  | x :: r, k, b => by
    rw [targetTR_L1, mostT_L0]
    simp only [most_any l target near h r, findTR_eq, h, if_true]
    rw [if_pos (show anyT x = true from rfl)]; rfl
theorem most_above (l : List GThreat) (target : Int) (near : List Int) (h : ¬ findT l target < 0) : ∀ (r : List GThreat) (k : Nat) (b : Int), targetTR_L1 l target near r k b = mostT_L0 l (fun x_ => aboveB x_ near ((l.getD ((findT l target).toNat) default).Much)) (fun x_ => muchOf x_) r k b
  | [], _, _ => by rw [targetTR_L1, mostT_L0]
  | x :: r, k, b => by
    rw [targetTR_L1, mostT_L0]
    simp only [most_above l target near h r, findTR_eq, h, if_false, muchOf, near_go, aboveB, aboveB_J6, part_same]
    by_cases h1 : x.Much > (l.getD ((findT l target).toNat) default).Much
    · simp only [h1, if_true, decide_eq_true_eq]
    · simp only [h1, if_false]; simp
theorem targetT_eq (l : List GThreat) (now target : Int) (near : List Int) : targetT l now target near = targetTR l now target near := by
  unfold targetT targetTR
  dsimp only
  rw [most_go2]
  change (if mostT l (fun x_ => afterT x_ now) (fun x_ => tauntOf x_) ≥ 0 then _ else _) = (if mostT l (fun x_ => afterT x_ now) (fun x_ => tauntOf x_) ≥ 0 then _ else _)
  by_cases h1 : mostT l (fun x_ => afterT x_ now) (fun x_ => tauntOf x_) ≥ 0
  · rw [if_pos h1, if_pos h1]; rfl
  · rw [if_neg h1, if_neg h1]
    have h2 : mostT_L0 l (fun x_ => afterT x_ now) (fun x_ => tauntOf x_) l 0 (-1) = -1 := by
      have := (mostT_lt l (fun x_ => afterT x_ now) (fun x_ => tauntOf x_)).1
      show mostT l _ _ = -1
      omega
    rw [h2, findTR_eq]
    by_cases h3 : findT l target < 0
    · rw [most_any l target near h3, if_neg (show ¬ findT l target ≥ 0 by omega), if_pos h3]
      change (if mostT l (fun x_ => anyT x_) (fun x_ => muchOf x_) ≥ 0 then _ else if findT l target ≥ 0 then target else 0) = (if mostT l (fun x_ => anyT x_) (fun x_ => muchOf x_) ≥ 0 then _ else 0)
      rw [if_neg (show ¬ findT l target ≥ 0 by omega)]; rfl
    · rw [most_above l target near h3, if_pos (show findT l target ≥ 0 by omega), if_pos (show findT l target ≥ 0 by omega), if_neg h3]; rfl
theorem max_go : ∀ (l : List GThreat) (k : Nat) (m : Int), (m ≤ tauntTR_L0 l k m ∧ (∀ x ∈ l, x.Much ≤ tauntTR_L0 l k m) ∧ (tauntTR_L0 l k m = m ∨ ∃ x ∈ l, x.Much = tauntTR_L0 l k m))
  | [], k, m => by rw [tauntTR_L0]; simp
  | x :: l, k, m => by
    rw [tauntTR_L0]
    obtain ⟨h1, h2, h3⟩ := max_go l (k + 1) (max m x.Much)
    refine ⟨by omega, fun y hy => ?_, ?_⟩
    · rcases List.mem_cons.1 hy with rfl | hy
      · omega
      · exact h2 y hy
    · rcases h3 with h3 | ⟨y, hy, h3⟩
      · by_cases h : x.Much ≤ m
        · left; omega
        · right; exact ⟨x, List.mem_cons_self .., by omega⟩
      · right; exact ⟨y, List.mem_cons_of_mem _ hy, h3⟩
theorem map_set_unit {l : List GThreat} {i : Nat} {x y : GThreat} (h : l[i]? = some x) (e : y.Unit = x.Unit) : (l.set i y).map (·.Unit) = l.map (·.Unit) := by
  rw [List.map_set, e]
  obtain ⟨hi, hx⟩ := List.getElem?_eq_some_iff.1 h
  apply List.ext_getElem?
  intro k
  rw [List.getElem?_set]
  split
  · rename_i e2; subst e2; rw [List.length_map, if_pos hi, List.getElem?_map, h]; rfl
  · rfl
theorem addT_ok2 {l : List GThreat} (hr : Rt l) {u m : Int} (hu : 1 ≤ u) : ((addT l u m).2 = 0 ∧ Rt (addT l u m).1 ∧ ((∃ k x, findT l u = ((k : Nat) : Int) ∧ l[k]? = some x ∧ x.Unit = u ∧ (addT l u m).1 = l.set k { x with Much := max (addM x.Much m) 0 }) ∨ (findT l u < 0 ∧ (addT l u m).1 = l ++ [⟨u, max m 0, -9223372036854775808⟩]))) ∨ ((addT l u m).2 = 4 ∧ l.length = 40) := by
  unfold addT
  rw [if_pos ((rightT_iff l).2 hr), if_neg (show ¬ u < 1 by omega)]
  by_cases h0 : findT l u ≥ 0
  · rw [if_pos h0]
    obtain ⟨k, hk⟩ : ∃ k : Nat, findT l u = k := ⟨(findT l u).toNat, by omega⟩
    obtain ⟨x, h1, h2, _⟩ := findT_is hk
    rw [hk, Int.toNat_natCast, getT_some h1]
    refine .inl ⟨rfl, ⟨fun y hy => ?_, ?_, ?_⟩, .inl ⟨k, x, rfl, h1, h2, rfl⟩⟩
    · rcases List.mem_or_eq_of_mem_set hy with hy | rfl
      · exact hr.all y hy
      · exact ⟨(hr.all x (List.mem_of_getElem? h1)).1, by show 0 ≤ max _ _; omega⟩
    · show ((l.set k { x with Much := max (addM x.Much m) 0 }).map (·.Unit)).Nodup
      rw [map_set_unit (y := { x with Much := max (addM x.Much m) 0 }) h1 rfl]; exact hr.nd
    · simpa using hr.len
  · rw [if_neg h0]
    by_cases h1 : (l.length : Int) ≥ 40
    · rw [if_pos h1]; have := hr.len; exact .inr ⟨rfl, by omega⟩
    · rw [if_neg h1]
      refine .inl ⟨rfl, ⟨fun y hy => ?_, ?_, by simp; omega⟩, .inr ⟨by omega, rfl⟩⟩
      · rcases List.mem_append.1 hy with hy | hy
        · exact hr.all y hy
        · rw [List.mem_singleton] at hy; subst hy; exact ⟨hu, by show 0 ≤ max _ _; omega⟩
      · rw [List.map_append, List.nodup_append]
        refine ⟨hr.nd, by simp, fun a ha b hb e => ?_⟩
        simp only [List.map_cons, List.map_nil, List.mem_singleton] at hb
        obtain ⟨m', hm, rfl⟩ := List.mem_map.1 ha
        exact findT_neg.1 (by omega : findT l u < 0) m' hm (e.trans hb)
theorem addT_bad {l : List GThreat} {u m : Int} (h : ¬ (Rt l ∧ 1 ≤ u)) : addT l u m = ([], 1) := by
  unfold addT
  by_cases h1 : rightT l = true
  · rw [if_pos h1, if_pos (by have := (rightT_iff l).1 h1; exact Int.not_le.1 fun h2 => h ⟨this, h2⟩)]
  · rw [if_neg h1]
theorem tauntT_eq {l : List GThreat} (hw : ∀ x ∈ l, InR x.Much) {u now ticks : Int} (hn : InR now) (ht : InR ticks) : tauntT l u now ticks = tauntTR l u now ticks := by
  have h0 : InR 0 := ⟨by decide, by decide⟩
  unfold tauntT tauntTR
  rw [← addT_eq hw h0]
  by_cases h : (addT l u 0).2 = 0
  · rw [if_pos h, if_pos h]
    dsimp only
    rw [findTR_eq, add_same hn ht]
    have hR : Rt l ∧ 1 ≤ u := by
      apply Classical.byContradiction
      intro h1; rw [addT_bad h1] at h; cases h
    have key : ((addT l u 0).1.getD (mostT (addT l u 0).1 (fun x_ => anyT x_) (fun x_ => muchOf x_)).toNat default).Much = tauntTR_L0 (addT l u 0).1 0 0 := by
      have h1 := addT_ok2 hR.1 (m := 0) hR.2
      have hA := addT_has (l := l) (u := u) (m := 0) h
      obtain ⟨_, h2, _⟩ := h1.resolve_right (fun h2 => by rw [h2.1] at h; cases h)
      obtain ⟨h3, h4, h5⟩ := max_go (addT l u 0).1 0 0
      rcases mostT_spec (addT l u 0).1 (fun x_ => anyT x_) (fun x_ => muchOf x_) with ⟨_, h6⟩ | ⟨j, x, h6, h7, _, h8⟩
      · obtain ⟨y, hy, _⟩ := hA; have := h6 y hy; cases this
      · rw [h6, Int.toNat_natCast, getT_some h7]
        have h9 := h4 x (List.mem_of_getElem? h7)
        rcases h5 with h5 | ⟨y, hy, h5⟩
        · have := (h2.all x (List.mem_of_getElem? h7)).2; omega
        · have h10 : y.Much ≤ x.Much := h8 y hy rfl
          omega
    rw [key]
  · rw [if_neg h, if_neg h]

theorem small19_true : small19 = true := by decide +kernel
theorem targets19_true (l : List GThreat) (now target : Int) (near : List Int) : targets19 l now target near = true := by
  unfold targets19
  rw [small19_true, targetT_eq]
  simp
theorem turns19_true {l : List GThreat} (hw : ∀ x ∈ l, InR x.Much) {u m n : Int} (hm : InR m) (hn : InR n) : turns19 l u m n = true := by
  unfold turns19 turns19_J80
  rw [small19_true, addT_eq hw hm, tauntT_eq hw hn hm, dropT_eq, fadeT_eq, rightT_eq, muchT_eq]
  simp
theorem part_small {a m : Int} (h0 : 0 ≤ a) (h1 : a ≤ 2000000) (hm0 : 0 ≤ m) (hm : m ≤ 1000) : partM a m 100 = (a * m).tdiv 100 := by
  have e1 : sideM a = a := by unfold sideM clampM; omega
  have e2 : sideM m = m := by unfold sideM clampM; omega
  have h2 : 0 ≤ a * m := Int.mul_nonneg h0 hm0
  have h3 : a * m ≤ 2000000 * 1000 := Int.mul_le_mul h1 hm hm0 (by omega)
  unfold partM
  have ew : IntKind.i64.wrap (a * m) = a * m := wrap_lt (by omega) (by omega)
  rw [if_neg (by omega), e1, e2, ew]
  have h4 : 0 ≤ (a * m).tdiv 100 := Int.tdiv_nonneg h2 (by omega)
  have h5 : (a * m).tdiv 100 ≤ a * m := Int.tdiv_le_self _ h2
  exact wrap_lt (by omega) (by omega)
theorem row_none (a b : Int) (o : GThreat → Int) : mostT (row19 a b) (fun x_ => afterT x_ 0) o = -1 := by
  simp [mostT, mostT_L0, row19, afterT]
theorem row_find1 (a b : Int) : findT (row19 a b) 1 = 0 := by simp [findT, fidx, row19, matchT, List.findIdx?_cons]
theorem row_find2 (a b : Int) : findT (row19 a b) 2 = 1 := by simp [findT, fidx, row19, matchT, List.findIdx?_cons]
theorem row_keep1 {a b : Int} (ha : 0 ≤ a) (ha2 : a ≤ 1000000) (near : List Int) (m : Int) (hm : m = if (2 : Int) ∈ near then 110 else 130) : targetT (row19 a b) 0 1 near = if b > a ∧ b ≥ (a * m).tdiv 100 then 2 else 1 := by
  unfold targetT
  rw [row_none, row_find1, if_neg (show ¬ ((-1 : Int) ≥ 0) by decide), if_pos (show (0 : Int) ≥ 0 by decide), if_pos (show (0 : Int) ≥ 0 by decide)]
  have e1 : (row19 a b).getD (0 : Int).toNat default = ⟨1, a, -9223372036854775808⟩ := rfl
  rw [e1]
  have hp := part_small ha (show a ≤ 2000000 by omega) (m := m) (by rw [hm]; split <;> omega) (by rw [hm]; split <;> omega)
  have c1 : aboveB ⟨1, a, -9223372036854775808⟩ near a = false := by simp [aboveB]
  have c2 : aboveB ⟨2, b, -9223372036854775808⟩ near a = decide (b > a ∧ b ≥ (a * m).tdiv 100) := by
    unfold aboveB aboveB_J6
    dsimp only
    rw [← hm, hp]
    by_cases h : b > a <;> simp [h]
  have hmost : mostT (row19 a b) (fun x_ => aboveB x_ near a) (fun x_ => muchOf x_) = if b > a ∧ b ≥ (a * m).tdiv 100 then 1 else -1 := by
    unfold mostT row19
    dsimp only
    simp only [mostT_L0, c1, c2]
    by_cases h : b > a ∧ b ≥ (a * m).tdiv 100 <;> simp [h]
  rw [hmost]
  by_cases h : b > a ∧ b ≥ (a * m).tdiv 100
  · rw [if_pos h, if_pos h, if_pos (show (1 : Int) ≥ 0 by decide)]; rfl
  · rw [if_neg h, if_neg h, if_neg (show ¬ ((-1 : Int) ≥ 0) by decide)]
theorem row_keep2 {a b : Int} (hb : 0 ≤ b) (hb2 : b ≤ 2000000) : targetT (row19 a b) 0 2 [1, 2] = if a > b ∧ a ≥ (b * 110).tdiv 100 then 1 else 2 := by
  unfold targetT
  rw [row_none, row_find2, if_neg (show ¬ ((-1 : Int) ≥ 0) by decide), if_pos (show (1 : Int) ≥ 0 by decide), if_pos (show (1 : Int) ≥ 0 by decide)]
  have e1 : (row19 a b).getD (1 : Int).toNat default = ⟨2, b, -9223372036854775808⟩ := rfl
  rw [e1]
  have hp := part_small hb hb2 (m := 110) (by omega) (by omega)
  have c1 : aboveB ⟨1, a, -9223372036854775808⟩ [1, 2] b = decide (a > b ∧ a ≥ (b * 110).tdiv 100) := by
    unfold aboveB aboveB_J6
    dsimp only
    rw [show (if (1 : Int) ∈ [(1 : Int), 2] then (110 : Int) else 130) = 110 from rfl, hp]
    by_cases h : a > b <;> simp [h]
  have c2 : aboveB ⟨2, b, -9223372036854775808⟩ [1, 2] b = false := by simp [aboveB]
  have hmost : mostT (row19 a b) (fun x_ => aboveB x_ [1, 2] b) (fun x_ => muchOf x_) = if a > b ∧ a ≥ (b * 110).tdiv 100 then 0 else -1 := by
    unfold mostT row19
    dsimp only
    simp only [mostT_L0, c1, c2]
    by_cases h : a > b ∧ a ≥ (b * 110).tdiv 100 <;> simp [h]
  rw [hmost]
  by_cases h : a > b ∧ a ≥ (b * 110).tdiv 100
  · rw [if_pos h, if_pos h, if_pos (show (0 : Int) ≥ 0 by decide)]; rfl
  · rw [if_neg h, if_neg h, if_neg (show ¬ ((-1 : Int) ≥ 0) by decide)]
theorem wrap_part {a m : Int} (h0 : 0 ≤ a) (h1 : a ≤ 2000000) (hm0 : 0 ≤ m) (hm : m ≤ 1000) : IntKind.i64.wrap ((IntKind.i64.wrap (m * a)).tdiv 100) = (a * m).tdiv 100 := by
  have h2 : 0 ≤ a * m := Int.mul_nonneg h0 hm0
  have h3 : a * m ≤ 2000000 * 1000 := Int.mul_le_mul h1 hm hm0 (by omega)
  have ew : IntKind.i64.wrap (a * m) = a * m := wrap_lt (by omega) (by omega)
  rw [Int.mul_comm m a, ew]
  have h4 : 0 ≤ (a * m).tdiv 100 := Int.tdiv_nonneg h2 (by omega)
  have h5 : (a * m).tdiv 100 ≤ a * m := Int.tdiv_le_self _ h2
  exact wrap_lt (by omega) (by omega)
theorem keeps19_true (a b : Int) (near : Bool) : keeps19 a b near = true := by
  unfold keeps19
  rw [small19_true]
  by_cases h1 : a < 0
  · rw [if_pos h1]
  · rw [if_neg h1]
    by_cases h2 : b < 0
    · rw [if_pos h2]
    · rw [if_neg h2]
      by_cases h3 : a > 1000000
      · rw [if_pos h3]
      · rw [if_neg h3]
        by_cases h4 : b > 2000000
        · rw [if_pos h4]
        · rw [if_neg h4]
          have w1 : ∀ x : Int, 0 ≤ x → x ≤ 1 → IntKind.i64.wrap (1 + x) = 1 + x := fun x hx hx2 => wrap_lt (by omega) (by omega)
          have w2 : ∀ x : Int, 0 ≤ x → x ≤ 1 → IntKind.i64.wrap (2 - x) = 2 - x := fun x hx hx2 => wrap_lt (by omega) (by omega)
          have hone : ∀ b : Bool, 0 ≤ one19 b ∧ one19 b ≤ 1 := fun b => by cases b <;> decide
          have key : ∀ (l : List Int) (m : Int), (m = if (2 : Int) ∈ l then 110 else 130) → targetT (row19 a b) 0 1 l = IntKind.i64.wrap (1 + one19 (keeps19_J35 a b m)) := fun l m hm => by
            have hm2 : 0 ≤ m ∧ m ≤ 1000 := by rw [hm]; split <;> omega
            rw [row_keep1 (by omega) (by omega) l m hm, w1 _ (hone _).1 (hone _).2]
            unfold keeps19_J35
            rw [wrap_part (by omega) (by omega) hm2.1 hm2.2]
            by_cases h5 : b > a
            · rw [if_pos h5]
              by_cases h6 : b ≥ (a * m).tdiv 100
              · rw [if_pos ⟨h5, h6⟩]; simp [h6, one19]
              · rw [if_neg (fun h => h6 h.2)]; simp [h6, one19]
            · rw [if_neg (fun h => h5 h.1), if_neg h5]; simp [one19]
          have k2 : targetT (row19 a b) 0 2 [1, 2] = if a > b ∧ a ≥ (b * 110).tdiv 100 then 1 else 2 := row_keep2 (by omega) (by omega)
          have fin : (if a > b then ((targetT (row19 a b) 0 2 ([1, 2]) : Int) == (IntKind.i64.wrap (2 - (one19 (decide (a ≥ (IntKind.i64.wrap ((IntKind.i64.wrap (110 * b) : Int).tdiv 100)))))))) else ((targetT (row19 a b) 0 2 ([1, 2]) : Int) == (IntKind.i64.wrap (2 - (one19 false))))) = true := by
            rw [w2 _ (hone _).1 (hone _).2, w2 _ (hone _).1 (hone _).2, wrap_part (by omega) (by omega) (by omega) (by omega), k2]
            by_cases h5 : a > b
            · rw [if_pos h5]
              by_cases h6 : a ≥ (b * 110).tdiv 100
              · rw [if_pos ⟨h5, h6⟩]; simp [h6, one19]
              · rw [if_neg (fun h => h6 h.2)]; simp [h6, one19]
            · rw [if_neg h5, if_neg (fun h => h5 h.1)]; rfl
          cases near with
          | true =>
            show (if true = true then (if targetT (row19 a b) 0 1 [2] = _ then _ else false) else false) = true
            rw [if_pos rfl, if_pos (key [2] 110 (by simp))]; exact fin
          | false =>
            show (if true = true then (if targetT (row19 a b) 0 1 [] = _ then _ else false) else false) = true
            rw [if_pos rfl, if_pos (key [] 130 (by simp))]; exact fin

theorem part_mono {a b m : Int} (h0 : 0 ≤ a) (h1 : a ≤ b) (hm0 : 0 ≤ m) (hm : m ≤ 1000) : partM a m 100 ≤ partM b m 100 := by
  have e2 : sideM m = m := by unfold sideM clampM; omega
  have ha : 0 ≤ sideM a ∧ sideM a ≤ sideM b ∧ sideM b ≤ 2147483647 := by unfold sideM clampM; omega
  have p0 : 0 ≤ sideM a * m := Int.mul_nonneg ha.1 hm0
  have p1 : sideM a * m ≤ sideM b * m := Int.mul_le_mul_of_nonneg_right ha.2.1 hm0
  have p2 : sideM b * m ≤ 2147483647 * 1000 := Int.mul_le_mul ha.2.2 hm hm0 (by omega)
  have wa : IntKind.i64.wrap (sideM a * m) = sideM a * m := wrap_lt (by omega) (by omega)
  have wb : IntKind.i64.wrap (sideM b * m) = sideM b * m := wrap_lt (by omega) (by omega)
  unfold partM
  rw [if_neg (by omega), if_neg (by omega), e2, wa, wb]
  have q0 : 0 ≤ (sideM a * m).tdiv 100 := Int.tdiv_nonneg p0 (by omega)
  have q1 : (sideM a * m).tdiv 100 ≤ sideM a * m := Int.tdiv_le_self _ p0
  have r0 : 0 ≤ (sideM b * m).tdiv 100 := Int.tdiv_nonneg (by omega) (by omega)
  have r1 : (sideM b * m).tdiv 100 ≤ sideM b * m := Int.tdiv_le_self _ (by omega)
  have va : IntKind.i64.wrap ((sideM a * m).tdiv 100) = (sideM a * m).tdiv 100 := wrap_lt (by omega) (by omega)
  have vb : IntKind.i64.wrap ((sideM b * m).tdiv 100) = (sideM b * m).tdiv 100 := wrap_lt (by omega) (by omega)
  rw [va, vb, Int.tdiv_eq_ediv_of_nonneg p0, Int.tdiv_eq_ediv_of_nonneg (by omega)]
  exact Int.ediv_le_ediv (by omega) p1
theorem above_iff (x : GThreat) (near : List Int) (m : Int) : aboveB x near m = true ↔ x.Much > m ∧ x.Much ≥ partM m (if x.Unit ∈ near then 110 else 130) 100 := by
  unfold aboveB aboveB_J6
  dsimp only
  by_cases h : x.Much > m <;> simp [h]
/-- who is the target stays it -/
theorem target_stay {l : List GThreat} (hr : Rt l) (now target : Int) (near : List Int) : (targetT l now target near = 0 ∧ l = [] ∨ ∃ x ∈ l, x.Unit = targetT l now target near) ∧ targetT l now (targetT l now target near) near = targetT l now target near := by
  rcases mostT_spec l (fun x_ => afterT x_ now) (fun x_ => tauntOf x_) with ⟨h1, _⟩ | ⟨j, x, h1, h2, _, _⟩
  · have e : ∀ t, targetT l now t near = if findT l t ≥ 0 then (if mostT l (fun x_ => aboveB x_ near ((l.getD ((findT l t).toNat) default).Much)) (fun x_ => muchOf x_) ≥ 0 then (l.getD ((mostT l (fun x_ => aboveB x_ near ((l.getD ((findT l t).toNat) default).Much)) (fun x_ => muchOf x_)).toNat) default).Unit else t) else if mostT l (fun x_ => anyT x_) (fun x_ => muchOf x_) ≥ 0 then (l.getD ((mostT l (fun x_ => anyT x_) (fun x_ => muchOf x_)).toNat) default).Unit else 0 := fun t => by
      unfold targetT
      rw [h1, if_neg (show ¬ ((-1 : Int) ≥ 0) by decide)]
      by_cases h : findT l t ≥ 0
      · simp only [h, if_true]
      · simp only [h, if_false]
    -- one that none is so much above stays
    have stay : ∀ (k : Nat) (y : GThreat), l[k]? = some y → (∀ z ∈ l, ¬ (z.Much > y.Much ∧ z.Much ≥ partM y.Much (if z.Unit ∈ near then 110 else 130) 100)) → targetT l now y.Unit near = y.Unit := fun k y hy hz => by
      rw [e, findT_at hr.nd hy, if_pos (by omega), Int.toNat_natCast, getT_some hy]
      rcases mostT_spec l (fun x_ => aboveB x_ near y.Much) (fun x_ => muchOf x_) with ⟨h3, _⟩ | ⟨j, x, h3, h4, h5, _⟩
      · rw [h3, if_neg (by decide)]
      · exact absurd ((above_iff x near y.Much).1 h5) (hz x (List.mem_of_getElem? h4))
    by_cases hf : findT l target ≥ 0
    · obtain ⟨i, hi⟩ : ∃ i : Nat, findT l target = i := ⟨(findT l target).toNat, by omega⟩
      obtain ⟨y, hy, hyu, _⟩ := findT_is hi
      have et := e target
      rw [if_pos hf, hi, Int.toNat_natCast, getT_some hy] at et
      rcases mostT_spec l (fun x_ => aboveB x_ near y.Much) (fun x_ => muchOf x_) with ⟨h3, h4⟩ | ⟨j, x, h3, h4, h5, h6⟩
      · rw [h3, if_neg (by decide)] at et
        rw [et]
        refine ⟨.inr ⟨y, List.mem_of_getElem? hy, hyu⟩, ?_⟩
        rw [← hyu]
        exact stay i y hy fun z hz hzz => by have := h4 z hz; rw [(above_iff z near y.Much).2 hzz] at this; cases this
      · rw [h3, if_pos (by omega), Int.toNat_natCast, getT_some h4] at et
        rw [et]
        refine ⟨.inr ⟨x, List.mem_of_getElem? h4, rfl⟩, stay j x h4 fun z hz hzz => ?_⟩
        have hx := (above_iff x near y.Much).1 h5
        have hy0 := (hr.all y (List.mem_of_getElem? hy)).2
        have hc : aboveB z near y.Much = true := (above_iff z near y.Much).2 ⟨by omega, by
          have := part_mono hy0 (show y.Much ≤ x.Much by omega) (m := if z.Unit ∈ near then 110 else 130) (by split <;> omega) (by split <;> omega)
          omega⟩
        have h7 : z.Much ≤ x.Much := h6 z hz hc
        omega
    · have et := e target
      rw [if_neg hf] at et
      rcases mostT_spec l (fun x_ => anyT x_) (fun x_ => muchOf x_) with ⟨h3, h4⟩ | ⟨j, x, h3, h4, h5, h6⟩
      · have hl : l = [] := by
          cases l with
          | nil => rfl
          | cons z r => have := h4 z (List.mem_cons_self ..); cases this
        rw [h3, if_neg (by decide)] at et
        rw [et]
        refine ⟨.inl ⟨rfl, hl⟩, ?_⟩
        subst hl
        rw [e, if_neg (by simp [findT, fidx]), h3, if_neg (by decide)]
      · rw [h3, if_pos (by omega), Int.toNat_natCast, getT_some h4] at et
        rw [et]
        refine ⟨.inr ⟨x, List.mem_of_getElem? h4, rfl⟩, stay j x h4 fun z hz hzz => ?_⟩
        have h7 : z.Much ≤ x.Much := h6 z hz rfl
        omega
  · have e : ∀ t, targetT l now t near = x.Unit := fun t => by
      unfold targetT
      rw [h1, if_pos (by omega), Int.toNat_natCast, getT_some h2]
    rw [e, e]
    exact ⟨.inr ⟨x, List.mem_of_getElem? h2, rfl⟩, rfl⟩
theorem rt_sub {a b : List GThreat} (h : List.Sublist a b) (hb : Rt b) : Rt a :=
  ⟨fun x hx => hb.all x (h.subset hx), hb.nd.sublist (h.map _), Nat.le_trans h.length_le hb.len⟩
theorem leave_subT (l : List GThreat) (i : Nat) : List.Sublist (l.take i ++ l.drop (i + 1)) l := by
  conv => rhs; rw [← List.take_append_drop i l]
  exact List.Sublist.append (List.Sublist.refl _) (by rw [← List.drop_drop]; exact List.drop_sublist _ _)
theorem dropT_is {l : List GThreat} (hl : l.length ≤ 1000000) (u : Int) : (findT l u < 0 ∧ dropT l u = (l, false)) ∨ ∃ i : Nat, findT l u = i ∧ i < l.length ∧ dropT l u = (l.take i ++ l.drop (i + 1), true) := by
  have h := findT_lt l u
  unfold dropT
  by_cases h0 : findT l u < 0
  · rw [if_pos h0]; exact .inl ⟨h0, rfl⟩
  · rw [if_neg h0]
    refine .inr ⟨(findT l u).toNat, by omega, by omega, ?_⟩
    rw [wrap_lt (by omega) (by omega), show (findT l u + 1).toNat = (findT l u).toNat + 1 by omega]
theorem muchT_none {l : List GThreat} {u : Int} (h : ∀ m ∈ l, m.Unit ≠ u) : muchT l u = 0 := by
  unfold muchT; rw [if_pos (findT_neg.2 h)]
theorem muchT_at {l : List GThreat} {u : Int} {i : Nat} {m : GThreat} (h : findT l u = i) (hm : l[i]? = some m) : muchT l u = m.Much := by
  unfold muchT; rw [if_neg (show ¬ findT l u < 0 by omega), h, Int.toNat_natCast, getT_some hm]
theorem drop_all {l : List GThreat} (hr : Rt l) (u : Int) : Rt (dropT l u).1 ∧ muchT (dropT l u).1 u = 0 ∧ ((dropT l u).2 = true → ((dropT l u).1.length : Int) = IntKind.i64.wrap (l.length - 1)) := by
  have hlen := hr.len
  rcases dropT_is (l := l) (by omega) u with ⟨h0, e⟩ | ⟨i, h1, h2, e⟩
  · rw [e]; exact ⟨hr, muchT_none (findT_neg.1 h0), fun h => by cases h⟩
  · rw [e]
    refine ⟨rt_sub (leave_subT l i) hr, muchT_none fun m hm => ?_, fun _ => ?_⟩
    · obtain ⟨x, h3, h4, h5⟩ := findT_is h1
      rcases List.mem_append.1 hm with hm | hm
      · exact h5 m hm
      · intro e2
        obtain ⟨k, hk⟩ := List.mem_iff_getElem?.1 hm
        rw [List.getElem?_drop] at hk
        have := findT_at hr.nd hk
        rw [e2, h1] at this; omega
    · rw [wrap_lt (by omega) (by omega)]; simp only [List.length_append, List.length_take, List.length_drop]; omega
theorem find_unitsT {a b : List GThreat} (h : a.map (·.Unit) = b.map (·.Unit)) (u : Int) : findT a u = findT b u := by
  have key : ∀ (l : List GThreat), findT l u = fidx (fun x => x == u) (l.map (·.Unit)) := by
    intro l
    unfold findT fidx
    rw [List.findIdx?_map]
    rfl
  rw [key, key, h]
theorem add_more {l : List GThreat} (hr : Rt l) (hw : ∀ x ∈ l, InR x.Much) {u m : Int} (hu : 1 ≤ u) (hm : InR m) (h0 : 0 ≤ m) (h : (addT l u m).2 = 0) : ¬ muchT (addT l u m).1 u < muchT l u := by
  rcases addT_ok2 hr (u := u) (m := m) hu with ⟨_, h2, ⟨k, x, h3, h4, h5, h6⟩ | ⟨h3, h6⟩⟩ | ⟨h1, _⟩
  · rw [muchT_at h3 h4]
    have hx := List.mem_of_getElem? h4
    have e1 : (l.set k { x with Much := max (addM x.Much m) 0 })[k]? = some { x with Much := max (addM x.Much m) 0 } := by
      rw [List.getElem?_set, if_pos rfl, if_pos (List.getElem?_eq_some_iff.1 h4).1]
    have e2 : findT (addT l u m).1 u = k := by
      rw [h6, find_unitsT (map_set_unit (y := { x with Much := max (addM x.Much m) 0 }) h4 rfl)]; exact h3
    rw [h6] at e2 ⊢
    rw [muchT_at e2 e1]
    show ¬ max (addM x.Much m) 0 < x.Much
    have := hw x hx
    rw [addM_eq this hm]
    unfold InR at this hm
    omega
  · rw [muchT_none (findT_neg.1 h3)]
    have e1 : (l ++ [(⟨u, max m 0, -9223372036854775808⟩ : GThreat)])[l.length]? = some ⟨u, max m 0, -9223372036854775808⟩ := by simp
    rw [h6] at h2 ⊢
    rw [muchT_at (findT_at h2.nd e1) e1]
    show ¬ max m 0 < 0
    omega
  · rw [h1] at h; cases h
theorem taunt_all {l : List GThreat} (hr : Rt l) {u n t : Int} (hu : 1 ≤ u) (h : (tauntT l u n t).2 = 0) : Rt (tauntT l u n t).1 ∧ ∀ x ∈ (tauntT l u n t).1, ¬ x.Much > muchT (tauntT l u n t).1 u := by
  have h0 : (addT l u 0).2 = 0 := by
    unfold tauntT at h
    split at h
    · assumption
    · exact h
  obtain ⟨_, hA, _⟩ := (addT_ok2 hr (u := u) (m := 0) hu).resolve_right (fun h2 => by rw [h2.1] at h0; cases h0)
  obtain ⟨z, hz, hzu⟩ := addT_has h0
  unfold tauntT
  rw [if_pos h0]
  obtain ⟨l', e'⟩ : ∃ l', (addT l u 0).1 = l' := ⟨_, rfl⟩
  rw [e'] at hA hz ⊢
  dsimp only
  have hf : 0 ≤ findT l' u := findT_some ⟨z, hz, hzu⟩
  obtain ⟨k, hk⟩ : ∃ k : Nat, findT l' u = k := ⟨(findT l' u).toNat, by omega⟩
  obtain ⟨x, hx, hxu, _⟩ := findT_is hk
  rcases mostT_spec l' (fun x_ => anyT x_) (fun x_ => muchOf x_) with ⟨_, h6⟩ | ⟨j, y, h6, h7, _, h8⟩
  · have := h6 z hz; cases this
  rw [hk, h6, Int.toNat_natCast, Int.toNat_natCast, getT_some hx, getT_some h7]
  have e1 : (l'.set k { x with Much := y.Much })[k]? = some { x with Much := y.Much } := by
    rw [List.getElem?_set, if_pos rfl, if_pos (List.getElem?_eq_some_iff.1 hx).1]
  rw [getT_some e1]
  have hy0 := hA.all y (List.mem_of_getElem? h7)
  have hm1 := map_set_unit (y := { x with Much := y.Much }) hx rfl
  have hm2 : ((l'.set k { x with Much := y.Much }).set k { x with Much := y.Much, Taunt := addM n t }).map (·.Unit) = l'.map (·.Unit) := by
    rw [map_set_unit (y := { x with Much := y.Much, Taunt := addM n t }) e1 rfl, hm1]
  have e2 : ((l'.set k { x with Much := y.Much }).set k { x with Much := y.Much, Taunt := addM n t })[k]? = some { x with Much := y.Much, Taunt := addM n t } := by
    rw [List.getElem?_set, if_pos rfl, if_pos (List.getElem?_eq_some_iff.1 e1).1]
  have hmem : ∀ w ∈ (l'.set k { x with Much := y.Much }).set k { x with Much := y.Much, Taunt := addM n t }, w ∈ l' ∨ (w.Unit = x.Unit ∧ w.Much = y.Much) := fun w hw => by
    rcases List.mem_or_eq_of_mem_set hw with hw | rfl
    · rcases List.mem_or_eq_of_mem_set hw with hw | rfl
      · exact .inl hw
      · exact .inr ⟨rfl, rfl⟩
    · exact .inr ⟨rfl, rfl⟩
  refine ⟨⟨fun w hw => ?_, ?_, by simpa using hA.len⟩, fun w hw => ?_⟩
  · rcases hmem w hw with hw | ⟨e3, e4⟩
    · exact hA.all w hw
    · rw [e3, e4]; exact ⟨(hA.all x (List.mem_of_getElem? hx)).1, hy0.2⟩
  · show (((l'.set k { x with Much := y.Much }).set k { x with Much := y.Much, Taunt := addM n t }).map (·.Unit)).Nodup
    rw [hm2]; exact hA.nd
  · rw [muchT_at (by rw [find_unitsT hm2]; exact hk) e2]
    show ¬ w.Much > y.Much
    rcases hmem w hw with hw | ⟨_, e4⟩
    · have : w.Much ≤ y.Much := h8 w hw rfl
      omega
    · omega
theorem and63 (a : Int) : 0 ≤ andK .i64 a 63 ∧ andK .i64 a 63 ≤ 63 := by
  have h : (BitVec.ofInt 64 a &&& BitVec.ofInt 64 63).toNat ≤ 63 := by
    rw [BitVec.toNat_and]; exact Nat.and_le_right
  unfold andK
  have : IntKind.i64.bits = 64 := rfl
  rw [this, wrap_lt (by omega) (by omega)]
  omega
theorem stays_L1 {l : List GThreat} {k : Nat} {x : A3int} {u t : Int} (eu : u = IntKind.i64.wrap (1 + andK .i64 x.f1 63)) (et : t = andK .i64 x.f2 7) : ∀ (r : List GThreat) (j : Nat), (∀ y ∈ r, ¬ y.Much > muchT (tauntT l u k t).1 u) → stays19_L1 l k x r j = .inr ()
  | [], _, _ => by rw [stays19_L1]
  | y :: r, j, h => by
    rw [stays19_L1, ← eu, ← et, if_neg (h y (List.mem_cons_self ..))]
    exact stays_L1 eu et r (j + 1) fun z hz => h z (List.mem_cons_of_mem _ hz)
structure RtW (l : List GThreat) : Prop where
  rt : Rt l
  w : ∀ x ∈ l, InR x.Much
theorem maxR {a : Int} (h : InR a) : InR (max a 0) := by unfold InR at *; omega
theorem addT_w {l : List GThreat} (h : RtW l) {u m : Int} (hu : 1 ≤ u) (hm : InR m) (h0 : (addT l u m).2 = 0) : RtW (addT l u m).1 := by
  rcases addT_ok2 h.rt (u := u) (m := m) hu with ⟨_, h2, ⟨k, x, h3, h4, h5, h6⟩ | ⟨h3, h6⟩⟩ | ⟨h1, _⟩
  · refine ⟨h2, fun y hy => ?_⟩
    rw [h6] at hy
    rcases List.mem_or_eq_of_mem_set hy with hy | rfl
    · exact h.w y hy
    · exact maxR (addM_in (h.w x (List.mem_of_getElem? h4)) hm)
  · refine ⟨h2, fun y hy => ?_⟩
    rw [h6] at hy
    rcases List.mem_append.1 hy with hy | hy
    · exact h.w y hy
    · rw [List.mem_singleton] at hy; subst hy; exact maxR hm
  · rw [h1] at h0; cases h0
theorem tauntT_w {l : List GThreat} (h : RtW l) {u n t : Int} (hu : 1 ≤ u) (h0 : (tauntT l u n t).2 = 0) : RtW (tauntT l u n t).1 := by
  refine ⟨(taunt_all h.rt hu h0).1, ?_⟩
  have hz : InR 0 := ⟨by decide, by decide⟩
  have h1 : (addT l u 0).2 = 0 := by
    unfold tauntT at h0
    split at h0
    · assumption
    · exact h0
  have hA := addT_w h hu hz h1
  have hg : ∀ i : Nat, InR ((addT l u 0).1.getD i default).Much := fun i => by
    rw [List.getD_eq_getElem?_getD]
    cases hi : (addT l u 0).1[i]? with
    | none => exact hz
    | some y => exact hA.w y (List.mem_of_getElem? hi)
  unfold tauntT
  rw [if_pos h1]
  intro y hy
  rcases List.mem_or_eq_of_mem_set hy with hy | rfl
  · rcases List.mem_or_eq_of_mem_set hy with hy | rfl
    · exact hA.w y hy
    · exact hg _
  · dsimp only
    rw [List.getD_eq_getElem?_getD, List.getElem?_set]
    split
    · split
      · exact hg _
      · exact hz
    · rename_i h; exact absurd rfl h
theorem stays_J (l : List GThreat) (k : Nat) (x : A3int) (h : RtW l) (hx : InR x.f2) : ∃ m, stays19_J47 l k x = .inr m ∧ RtW m := by
  have hu := and63 x.f1
  obtain ⟨u, eu⟩ : ∃ u, u = IntKind.i64.wrap (1 + andK .i64 x.f1 63) := ⟨_, rfl⟩
  obtain ⟨t, et⟩ : ∃ t, t = andK .i64 x.f2 7 := ⟨_, rfl⟩
  have hu1 : 1 ≤ u := by rw [eu, wrap_lt (by omega) (by omega)]; omega
  have hlen := h.rt.len
  unfold stays19_J47
  rw [← eu, ← et]
  dsimp only
  by_cases c0 : stays19_J54 x = true
  · rw [if_pos c0]
    rcases addT_ok2 h.rt (u := u) (m := x.f2) hu1 with ⟨h1, _⟩ | ⟨h1, h2⟩
    · have hw := addT_w h hu1 hx h1
      refine ⟨_, ?_, hw⟩
      simp only [h1, if_true, show ¬ ((0 : Int) = 4) by decide, if_false]
      by_cases c1 : x.f2 ≥ 0
      · have := add_more h.rt h.w hu1 hx c1 h1
        simp only [c1, this, if_true, if_false]
      · simp only [c1, if_false]
    · refine ⟨l, ?_, h⟩
      simp only [h1, h2, show ¬ ((4 : Int) = 0) by decide, if_true, if_false]
      rfl
  · rw [if_neg c0]
    by_cases c2 : andK .i64 x.f0 3 = 2
    · rw [if_pos c2]
      obtain ⟨d1, d2, d3⟩ := drop_all h.rt u
      refine ⟨(dropT l u).1, ?_, d1, ?_⟩
      · by_cases c3 : (dropT l u).2 = true
        · rw [if_pos c3, if_pos (d3 c3), if_pos d2]
        · rw [if_neg c3, if_pos d2]
      · rcases dropT_is (l := l) (by omega) u with ⟨_, e⟩ | ⟨i, _, _, e⟩
        · rw [e]; exact h.w
        · rw [e]; exact fun y hy => h.w y ((leave_subT l i).subset hy)
    · rw [if_neg c2]
      by_cases c3 : andK .i64 x.f0 3 = 3
      · rw [if_pos c3]
        by_cases c4 : (tauntT l u k t).2 = 0
        · rw [if_pos c4]
          obtain ⟨_, q⟩ := taunt_all h.rt hu1 c4
          rw [stays_L1 eu et _ _ q]
          exact ⟨_, rfl, tauntT_w h hu1 c4⟩
        · rw [if_neg c4]; exact ⟨l, rfl, h⟩
      · rw [if_neg c3]; exact ⟨l, rfl, h⟩
theorem in_go (near : List Int) (tg : Int) (k : Nat) (l : List GThreat) : ∀ (r : List GThreat) (j : Nat) (b : Bool), stays19_L2 near tg k l r j b = (b || r.any fun x => x.Unit == targetT l k tg near)
  | [], _, b => by rw [stays19_L2]; simp
  | x :: r, j, b => by
    rw [stays19_L2]
    cases b with
    | true => rw [if_pos rfl, in_go near tg k l r]; simp
    | false => rw [if_neg (by simp), in_go near tg k l r]; simp
theorem stays_go (near : List Int) : ∀ (steps : List A3int) (k : Nat) (l : List GThreat) (tg : Int), (∀ x ∈ steps, InR x.f2) → RtW l → stays19_L0 near steps k l tg = .inr ()
  | [], _, _, _, _, _ => by rw [stays19_L0]
  | x :: r, k, l, tg, hx, h => by
    rw [stays19_L0]
    obtain ⟨m, h1, h2⟩ := stays_J l k x h (hx x (List.mem_cons_self ..))
    rw [h1]
    dsimp only
    obtain ⟨h3, h4⟩ := target_stay h2.rt (k : Int) tg near
    have hin : stays19_L2 near tg k m m 0 (stays19_J166 near tg k m) = true := by
      rw [in_go]
      rcases h3 with ⟨h5, h6⟩ | ⟨y, hy, h5⟩
      · unfold stays19_J166
        rw [if_pos h5, h6]; rfl
      · rw [Bool.or_eq_true]; right
        exact List.any_eq_true.2 ⟨y, hy, by simpa using h5⟩
    rw [if_pos ((rightT_iff m).2 h2.rt), if_pos hin, if_pos h4]
    exact stays_go near r (k + 1) m _ (fun y hy => hx y (List.mem_cons_of_mem _ hy)) h2
theorem stays19_true {steps : List A3int} (hx : ∀ x ∈ steps, InR x.f2) (near : List Int) : stays19 steps near = true := by
  unfold stays19
  rw [small19_true, stays_go near steps 0 [] 0 hx ⟨⟨by simp, by simp, by simp⟩, by simp⟩]
  simp
theorem targets19_yes (l : List GThreat) (l_f : Bool) (now : Int) (target : Int) (near : List Int) (near_f : Bool) : Ok Try.prog 3 [.pv (.slc l.length l_f (l.flatMap encGThreat)), I now, I target, .pv (.slc near.length near_f (encI near))] [] (B true) [] [] := by
  have h := targets19_ok l l_f now target near near_f
  rwa [targets19_true] at h
theorem keeps19_yes (a : Int) (b : Int) (near : Bool) : Ok Try.prog 4 [I a, I b, B near] [] (B true) [] [] := by
  have h := keeps19_ok a b near
  rwa [keeps19_true] at h
theorem turns19_yes (l : List GThreat) (l_f : Bool) (unit : Int) (much : Int) (now : Int) (hw : ∀ x ∈ l, InR x.Much) (hm : InR much) (hn : InR now) : Ok Try.prog 6 [.pv (.slc l.length l_f (l.flatMap encGThreat)), I unit, I much, I now] [] (B true) [] [] := by
  have h := turns19_ok l l_f unit much now
  rwa [turns19_true hw hm hn] at h
theorem stays19_yes (steps : List A3int) (steps_f : Bool) (near : List Int) (near_f : Bool) (hx : ∀ x ∈ steps, InR x.f2) : Ok Try.prog 5 [.pv (.slc steps.length steps_f (steps.flatMap encA3int)), .pv (.slc near.length near_f (encI near))] [] (B true) [] [] := by
  have h := stays19_ok steps steps_f near near_f
  rwa [stays19_true hx] at h

end Go.Proofs.Ytcahldiaeamgaaa

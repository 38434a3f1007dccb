import Derived.Test.YtbfmonajbfljmaaDoorNumd25
namespace Go.Proofs.YtbfmonajbfljmaaDoor
open Go Go.RowKit Go.Proofs.YtbfmonajbfljmaaDoorVm
attribute [local irreducible] opsWp AnswersE OpsS
set_option maxHeartbeats 400000
set_option maxRecDepth 100000
set_option linter.all false
/-! rows of units that rise -/
abbrev Up (l : List GSeen) : Prop := l.Pairwise (fun a b => a.Unit < b.Unit)
theorem rightV_L0_iff : ∀ (l : List GSeen) (k : Nat) (n : Int), (rightV_L0 l k n = .inr () ↔ Up l ∧ ∀ z ∈ l, n < z.Unit) ∧ (rightV_L0 l k n ≠ .inr () → rightV_L0 l k n = .inl false)
  | [], k, n => by rw [rightV_L0]; exact ⟨⟨fun _ => ⟨.nil, fun z hz => by cases hz⟩, fun _ => rfl⟩, fun h => absurd rfl h⟩
  | x :: l, k, n => by
    have ih := rightV_L0_iff l (k + 1) x.Unit
    rw [rightV_L0]
    split
    · rename_i h
      exact ⟨⟨(fun h => by cases h), fun h2 => by have := h2.2 x List.mem_cons_self; omega⟩, fun _ => rfl⟩
    · rename_i h
      refine ⟨ih.1.trans ⟨fun ⟨h1, h2⟩ => ⟨List.pairwise_cons.2 ⟨h2, h1⟩, fun z hz => ?_⟩, fun ⟨h1, h2⟩ => ⟨(List.pairwise_cons.1 h1).2, (List.pairwise_cons.1 h1).1⟩⟩, ih.2⟩
      rcases List.mem_cons.1 hz with rfl | hz
      · omega
      · have := h2 z hz; omega
theorem rightV_iff (l : List GSeen) : rightV l = true ↔ Up l ∧ ∀ z ∈ l, 1 ≤ z.Unit := by
  have h := rightV_L0_iff l 0 0
  unfold rightV
  split
  · rename_i r hr
    have h2 := h.2 (by rw [hr]; intro h; cases h)
    rw [hr] at h2; cases h2
    refine ⟨(fun h => by cases h), fun h3 => ?_⟩
    have := h.1.2 ⟨h3.1, fun z hz => by have := h3.2 z hz; omega⟩
    rw [hr] at this; cases this
  · rename_i hr
    have h3 := h.1.1 hr
    exact ⟨fun _ => ⟨h3.1, fun z hz => by have := h3.2 z hz; omega⟩, fun _ => rfl⟩
def got (l : List GSeen) (u : Int) : Option GSeen := l.find? (fun x => atUnit x u)
theorem at_iff {x : GSeen} {u : Int} : atUnit x u = true ↔ x.Unit = u := by unfold atUnit; exact beq_iff_eq
theorem up_one {l : List GSeen} (h : Up l) : ∀ {x y : GSeen}, x ∈ l → y ∈ l → x.Unit = y.Unit → x = y := by
  induction l with
  | nil => intro x y hx; cases hx
  | cons z l ih =>
    intro x y hx hy hk
    obtain ⟨h1, h2⟩ := List.pairwise_cons.1 h
    rcases List.mem_cons.1 hx with rfl | hx'
    · rcases List.mem_cons.1 hy with rfl | hy'
      · rfl
      · have := h1 _ hy'; omega
    · rcases List.mem_cons.1 hy with rfl | hy'
      · have := h1 _ hx'; omega
      · exact ih h2 hx' hy' hk
theorem got_some {l : List GSeen} {u : Int} {x : GSeen} (h : got l u = some x) : x ∈ l ∧ x.Unit = u := by
  unfold got at h
  have h3 : (fun x => atUnit x u) x = true := List.find?_some (p := fun x => atUnit x u) h
  exact ⟨List.mem_of_find?_eq_some h, at_iff.1 h3⟩
theorem got_mem {l : List GSeen} (h : Up l) {x : GSeen} (hx : x ∈ l) {u : Int} (hu : x.Unit = u) : got l u = some x := by
  cases hf : got l u with
  | none =>
    have := List.find?_eq_none.1 hf x hx
    exact absurd (at_iff.2 hu) (by simpa using this)
  | some y =>
    obtain ⟨h1, h2⟩ := got_some hf
    rw [up_one h hx h1 (hu.trans h2.symm)]
theorem got_none {l : List GSeen} {u : Int} (h : ∀ x ∈ l, x.Unit ≠ u) : got l u = none := by
  cases hf : got l u with
  | none => rfl
  | some y => obtain ⟨h1, h2⟩ := got_some hf; exact absurd h2 (h y h1)
theorem got_is {l : List GSeen} (h : Up l) {u : Int} {o : Option GSeen} (h1 : ∀ x ∈ l, x.Unit = u → o = some x) (h2 : ∀ y, o = some y → y ∈ l ∧ y.Unit = u) : got l u = o := by
  cases o with
  | none => exact got_none fun x hx hu => by have := h1 x hx hu; cases this
  | some y => exact got_mem h (h2 y rfl).1 (h2 y rfl).2
theorem got_cons (x : GSeen) (l : List GSeen) (u : Int) : got (x :: l) u = if x.Unit = u then some x else got l u := by
  unfold got
  rw [List.find?_cons]
  split
  · rename_i h; rw [if_pos (at_iff.1 h)]
  · rename_i h; rw [if_neg (fun e => by rw [at_iff.2 e] at h; cases h)]
theorem up_ext : ∀ {r s : List GSeen}, Up r → Up s → (∀ u, got r u = got s u) → r = s
  | [], [], _, _, _ => rfl
  | [], y :: s, _, h2, h => by
    have := h y.Unit
    rw [got_mem h2 List.mem_cons_self rfl] at this; cases this
  | x :: r, [], h1, _, h => by
    have := h x.Unit
    rw [got_mem h1 List.mem_cons_self rfl] at this; cases this
  | x :: r, y :: s, h1, h2, h => by
    have hx := h x.Unit
    rw [got_mem h1 List.mem_cons_self rfl] at hx
    have hx1 := (got_some hx.symm).1
    have hy := h y.Unit
    rw [got_mem h2 List.mem_cons_self rfl] at hy
    have hy1 := (got_some hy).1
    obtain ⟨p1, p2⟩ := List.pairwise_cons.1 h1
    obtain ⟨q1, q2⟩ := List.pairwise_cons.1 h2
    have hxy : x = y := by
      rcases List.mem_cons.1 hx1 with e | hx1
      · exact e
      · have a1 := q1 _ hx1
        rcases List.mem_cons.1 hy1 with e | hy1
        · exact e.symm
        · have := p1 _ hy1; omega
    subst hxy
    have rest : ∀ (t : List GSeen), (∀ z ∈ t, x.Unit < z.Unit) → ∀ u, got t u = if x.Unit = u then none else got (x :: t) u := fun t ht u => by
      split
      · rename_i e; exact got_none fun z hz hk => by have := ht z hz; omega
      · rename_i e; rw [got_cons, if_neg e]
    rw [up_ext p2 q2 (fun u => by rw [rest r p1, rest s q1, h u])]
theorem getD_at {α : Type} {l : List α} {d : α} {k : Nat} {x : α} (h : l[k]? = some x) : l.getD k d = x := by
  rw [List.getD_eq_getElem?_getD, h]; rfl
theorem find_is (l : List GSeen) (u : Int) : (findV l u < 0 ∧ got l u = none) ∨ ∃ k : Nat, findV l u = (k : Int) ∧ ∃ h : k < l.length, got l u = some l[k] ∧ l[k].Unit = u := by
  unfold findV
  rcases fidx_cases (fun x_ => atUnit x_ u) l with ⟨h, h2⟩ | ⟨k, x, h, h2, h3, h4⟩
  · left
    refine ⟨by omega, got_none fun x hx e => ?_⟩
    have := h2 x hx
    rw [at_iff.2 e] at this; cases this
  · right
    have hk := (List.getElem?_eq_some_iff.1 h2).1
    have he := (List.getElem?_eq_some_iff.1 h2).2
    refine ⟨k, h, hk, ?_, by rw [he]; exact at_iff.1 h3⟩
    unfold got
    refine List.find?_eq_some_iff_append.2 ⟨by rw [he]; exact h3, l.take k, l.drop (k + 1), by rw [← List.drop_eq_getElem_cons hk, List.take_append_drop], fun y hy => by rw [h4 y hy]; rfl⟩
/-! one that enters -/
def seenOf (m : GMessage) : GSeen := ⟨m.L.getD 0 default, m.Text, ⟨m.L.getD 1 default, m.L.getD 2 default, m.L.getD 3 default, m.L.getD 4 default, m.L.getD 5 default, m.L.getD 6 default, m.L.getD 7 default, m.L.getD 8 default, m.L.getD 9 default⟩⟩
theorem place_go (u : Int) : ∀ (l : List GSeen) (k : Nat), (placeV_L0 u l k = .inr () ∧ ∀ z ∈ l, z.Unit < u) ∨ ∃ j : Nat, ∃ h : j < l.length, placeV_L0 u l k = .inl (((k + j : Nat) : Int), l[j].Unit == u) ∧ u ≤ l[j].Unit ∧ ∀ z ∈ l.take j, z.Unit < u
  | [], k => by rw [placeV_L0]; exact .inl ⟨rfl, fun z hz => by cases hz⟩
  | x :: l, k => by
    rw [placeV_L0]
    split
    · rename_i h
      exact .inr ⟨0, by simp, rfl, h, fun z hz => by simp at hz⟩
    · rename_i h
      rcases place_go u l (k + 1) with ⟨h1, h2⟩ | ⟨j, hj, h1, h2, h3⟩
      · refine .inl ⟨h1, fun z hz => ?_⟩
        rcases List.mem_cons.1 hz with rfl | hz
        · omega
        · exact h2 z hz
      · refine .inr ⟨j + 1, by simpa using hj, ?_, h2, fun z hz => ?_⟩
        · rw [h1, show k + 1 + j = k + (j + 1) by omega]; rfl
        · rw [List.take_succ_cons] at hz
          rcases List.mem_cons.1 hz with rfl | hz
          · omega
          · exact h3 z hz
theorem set_mem {l : List GSeen} (h : Up l) {j : Nat} (hj : j < l.length) {s : GSeen} (hs : s.Unit = l[j].Unit) : Up (l.set j s) ∧ ∀ x, x ∈ l.set j s ↔ (x ∈ l ∧ x.Unit ≠ s.Unit) ∨ x = s := by
  have hu : ∀ i (hi : i < (l.set j s).length), ((l.set j s)[i]).Unit = (l[i]'(by simpa using hi)).Unit := fun i hi => by
    rw [List.getElem_set]
    split
    · rename_i e; subst e; exact hs
    · rfl
  refine ⟨List.pairwise_iff_getElem.2 fun a b ha hb hab => ?_, fun x => ⟨fun hx => ?_, fun hx => ?_⟩⟩
  · rw [hu a ha, hu b hb]
    exact List.pairwise_iff_getElem.1 h a b (by simpa using ha) (by simpa using hb) hab
  · obtain ⟨i, hi, rfl⟩ := List.getElem_of_mem hx
    have hi' : i < l.length := by simpa using hi
    rw [List.getElem_set]
    split
    · exact .inr rfl
    · rename_i hne
      refine .inl ⟨List.getElem_mem hi', fun e => ?_⟩
      rcases Nat.lt_or_gt_of_ne hne with h4 | h4
      · have := List.pairwise_iff_getElem.1 h j i hj hi' h4; omega
      · have := List.pairwise_iff_getElem.1 h i j hi' hj h4; omega
  · rcases hx with ⟨hx, hne⟩ | rfl
    · obtain ⟨i, hi, rfl⟩ := List.getElem_of_mem hx
      have : i ≠ j := fun e => by subst e; exact hne hs.symm
      exact List.mem_iff_getElem.2 ⟨i, by simpa using hi, by rw [List.getElem_set, if_neg (Ne.symm this)]⟩
    · exact List.mem_iff_getElem.2 ⟨j, by simpa using hj, by rw [List.getElem_set, if_pos rfl]⟩
theorem entered_mem {l : List GSeen} (h : Up l) (m : GMessage) : Up (enteredV l m) ∧ ∀ x, x ∈ enteredV l m ↔ (x ∈ l ∧ x.Unit ≠ (seenOf m).Unit) ∨ x = seenOf m := by
  have hE : enteredV l m = if (placeV l (m.L.getD 0 default)).2 = true then l.set (placeV l (m.L.getD 0 default)).1.toNat (seenOf m) else l.take (placeV l (m.L.getD 0 default)).1.toNat ++ (seenOf m :: l.drop (placeV l (m.L.getD 0 default)).1.toNat) := rfl
  rw [hE]
  generalize hu : m.L.getD 0 default = u
  have hsu : (seenOf m).Unit = u := hu
  have hP : placeV l u = match placeV_L0 u l 0 with | .inl r_ => r_ | .inr () => ((l.length : Int), false) := rfl
  rcases place_go u l 0 with ⟨h1, h2⟩ | ⟨j, hj, h1, h2, h3⟩
  · rw [hP, h1]
    simp only [Bool.false_eq_true, if_false, Int.toNat_natCast, List.take_length, List.drop_length]
    refine ⟨List.pairwise_append.2 ⟨h, by simp, fun a ha b hb => ?_⟩, fun x => ?_⟩
    · rw [List.mem_singleton.1 hb, hsu]; exact h2 a ha
    · rw [List.mem_append, List.mem_singleton]
      refine ⟨fun hx => hx.imp (fun hx => ⟨hx, by rw [hsu]; have := h2 x hx; omega⟩) id, fun hx => hx.imp (·.1) id⟩
  · rw [hP, h1]
    simp only [Nat.zero_add, Int.toNat_natCast, beq_iff_eq]
    split
    · rename_i he
      exact set_mem h hj (hsu.trans he.symm)
    · rename_i he
      have hlt : u < l[j].Unit := by omega
      have hsp : l.take j ++ l.drop j = l := List.take_append_drop j l
      have hs : (l.take j ++ l.drop j).Pairwise (fun a b : GSeen => a.Unit < b.Unit) := by rw [hsp]; exact h
      obtain ⟨s1, s2, s3⟩ := List.pairwise_append.1 hs
      have hd : ∀ z ∈ l.drop j, u < z.Unit := fun z hz => by
        rw [List.drop_eq_getElem_cons hj] at hz s2
        rcases List.mem_cons.1 hz with rfl | hz
        · exact hlt
        · have := (List.pairwise_cons.1 s2).1 z hz; omega
      refine ⟨List.pairwise_append.2 ⟨s1, List.pairwise_cons.2 ⟨fun z hz => by rw [hsu]; exact hd z hz, s2⟩, fun a ha b hb => ?_⟩, fun x => ?_⟩
      · rcases List.mem_cons.1 hb with rfl | hb
        · rw [hsu]; exact h3 a ha
        · exact s3 a ha b hb
      · rw [List.mem_append, List.mem_cons]
        constructor
        · rintro (hx | rfl | hx)
          · exact .inl ⟨List.mem_of_mem_take hx, by rw [hsu]; have := h3 x hx; omega⟩
          · exact .inr rfl
          · exact .inl ⟨List.mem_of_mem_drop hx, by rw [hsu]; have := hd x hx; omega⟩
        · rintro (⟨hx, _⟩ | rfl)
          · rw [← hsp] at hx
            rcases List.mem_append.1 hx with hx | hx
            · exact .inl hx
            · exact .inr (.inr hx)
          · exact .inr (.inl rfl)
theorem entered_got {l : List GSeen} (h : Up l) (m : GMessage) (u : Int) : got (enteredV l m) u = if u = (seenOf m).Unit then some (seenOf m) else got l u := by
  obtain ⟨h1, h2⟩ := entered_mem h m
  split
  · rename_i e
    exact got_mem h1 ((h2 _).2 (.inr rfl)) e.symm
  · rename_i e
    refine got_is h1 (fun x hx hxu => ?_) (fun y hy => ?_)
    · rcases (h2 x).1 hx with ⟨h3, _⟩ | rfl
      · exact got_mem h h3 hxu
      · exact absurd hxu.symm e
    · obtain ⟨h3, h4⟩ := got_some hy
      exact ⟨(h2 y).2 (.inl ⟨h3, fun e2 => e (h4.symm.trans e2)⟩), h4⟩
/-! one that is gone, one that changed -/
theorem gone_got {l : List GSeen} (h : Up l) (hl : l.length ≤ 16770000) (v : Int) (hv : findV l v ≥ 0) : Up (l.take (findV l v).toNat ++ l.drop (IntKind.i64.wrap (findV l v + 1)).toNat) ∧ (∀ x ∈ l.take (findV l v).toNat ++ l.drop (IntKind.i64.wrap (findV l v + 1)).toNat, x ∈ l) ∧ ∀ u, got (l.take (findV l v).toNat ++ l.drop (IntKind.i64.wrap (findV l v + 1)).toNat) u = if u = v then none else got l u := by
  rcases find_is l v with ⟨h1, _⟩ | ⟨k, h1, hk, h2, h3⟩
  · omega
  · have hw : (IntKind.i64.wrap (findV l v + 1)).toNat = k + 1 := by rw [h1, IntKind.wrap_i64]; omega
    rw [hw, h1, Int.toNat_natCast]
    have hsp : l.take k ++ l[k] :: l.drop (k + 1) = l := by rw [← List.drop_eq_getElem_cons hk, List.take_append_drop]
    have hs : (l.take k ++ l[k] :: l.drop (k + 1)).Pairwise (fun a b : GSeen => a.Unit < b.Unit) := by rw [hsp]; exact h
    obtain ⟨s1, s2, s3⟩ := List.pairwise_append.1 hs
    obtain ⟨t1, t2⟩ := List.pairwise_cons.1 s2
    have hup : Up (l.take k ++ l.drop (k + 1)) := List.pairwise_append.2 ⟨s1, t2, fun a ha b hb => s3 a ha b (List.mem_cons_of_mem _ hb)⟩
    have hmem : ∀ x, x ∈ l ↔ x ∈ l.take k ++ l.drop (k + 1) ∨ x = l[k] := fun x => by
      conv => lhs; rw [← hsp]
      simp only [List.mem_append, List.mem_cons]
      constructor
      · rintro (h | h | h)
        · exact .inl (.inl h)
        · exact .inr h
        · exact .inl (.inr h)
      · rintro ((h | h) | h)
        · exact .inl h
        · exact .inr (.inr h)
        · exact .inr (.inl h)
    have hne : ∀ x ∈ l.take k ++ l.drop (k + 1), x.Unit ≠ v := fun x hx => by
      rcases List.mem_append.1 hx with hx | hx
      · have := s3 x hx l[k] List.mem_cons_self; omega
      · have := t1 x hx; omega
    refine ⟨hup, fun x hx => (hmem x).2 (.inl hx), fun u => ?_⟩
    split
    · rename_i e; subst e; exact got_none hne
    · rename_i e
      refine got_is hup (fun x hx hu => got_mem h ((hmem x).2 (.inl hx)) hu) (fun y hy => ?_)
      obtain ⟨h4, h5⟩ := got_some hy
      refine ⟨((hmem y).1 h4).resolve_right (fun e2 => e ?_), h5⟩
      rw [← h5, e2, h3]
theorem changed_got {l : List GSeen} (h : Up l) (v f n : Int) (h0 : 0 ≤ f) (h9 : f < 9) : Up (changedV l v f n) ∧ ∀ u, got (changedV l v f n) u = if u = v then (got l v).map (fun x => { x with Fields := x.Fields.set f.toNat n }) else got l u := by
  unfold changedV
  rcases find_is l v with ⟨h1, h2⟩ | ⟨k, h1, hk, h2, h3⟩
  · rw [if_neg (by omega)]
    refine ⟨h, fun u => ?_⟩
    split
    · rename_i e; rw [e, h2]; rfl
    · rfl
  · rw [if_pos (by omega), if_pos h0, if_pos h9, h1, Int.toNat_natCast, getD_at (List.getElem?_eq_getElem hk), h2]
    obtain ⟨s1, s2⟩ := set_mem h hk (s := { l[k] with Fields := l[k].Fields.set f.toNat n }) rfl
    refine ⟨s1, fun u => ?_⟩
    split
    · rename_i e
      exact got_mem s1 ((s2 _).2 (.inr rfl)) (h3.trans e.symm)
    · rename_i e
      refine got_is s1 (fun x hx hu => ?_) (fun y hy => ?_)
      · rcases (s2 x).1 hx with ⟨h4, _⟩ | rfl
        · exact got_mem h h4 hu
        · exact absurd (hu.symm.trans h3) e
      · obtain ⟨h4, h5⟩ := got_some hy
        exact ⟨(s2 y).2 (.inl ⟨h4, fun e2 => e (h5.symm.trans (e2.trans h3))⟩), h5⟩
theorem changed_any {l : List GSeen} (h : Up l) (v f n : Int) : Up (changedV l v f n) ∧ ∀ x ∈ changedV l v f n, ∃ y ∈ l, y.Unit = x.Unit := by
  by_cases h0 : 0 ≤ f ∧ f < 9
  · obtain ⟨h1, h2⟩ := changed_got h v f n h0.1 h0.2
    refine ⟨h1, fun x hx => ?_⟩
    have h3 := got_mem h1 hx rfl
    rw [h2] at h3
    split at h3
    · rename_i e
      obtain ⟨y, h4, h5⟩ := Option.map_eq_some_iff.1 h3
      obtain ⟨h6, h7⟩ := got_some h4
      exact ⟨y, h6, h7.trans e.symm⟩
    · obtain ⟨h6, h7⟩ := got_some h3
      exact ⟨x, h6, rfl⟩
  · have e : changedV l v f n = l := by
      unfold changedV
      split
      · split
        · rw [if_neg (by omega)]
        · rfl
      · rfl
    rw [e]; exact ⟨h, fun x hx => ⟨x, hx, rfl⟩⟩
/-! folds, message by message -/
theorem fold_not {w : GWorld} {m : GMessage} (h : rightM m = false) : foldV w m = w := by
  unfold foldV; rw [if_neg (by rw [h]; simp)]; rfl
theorem fold_at {w : GWorld} {m : GMessage} (h : rightM m = true) : foldV w m = if m.Do = 2 then ⟨m.L.getD 0 default, w.Seen, w.Log, w.Synced⟩ else if m.Do = 3 then ⟨0, [], [], false⟩ else if m.Do = 4 then ⟨w.Me, enteredV w.Seen m, w.Log, w.Synced⟩ else if m.Do = 5 then (if findV w.Seen (m.L.getD 0 default) ≥ 0 then ⟨w.Me, w.Seen.take (findV w.Seen (m.L.getD 0 default)).toNat ++ w.Seen.drop (IntKind.i64.wrap (findV w.Seen (m.L.getD 0 default) + 1)).toNat, w.Log, w.Synced⟩ else w) else if m.Do = 6 then ⟨w.Me, changedV w.Seen (m.L.getD 0 default) (m.L.getD 1 default) (m.L.getD 2 default), w.Log, w.Synced⟩ else if m.Do = 7 then ⟨w.Me, w.Seen, w.Log ++ [⟨m.L.getD 0 default, m.L.getD 1 default, m.L.getD 2 default, m.L.getD 3 default, m.L.getD 4 default⟩], w.Synced⟩ else if m.Do = 10 then ⟨w.Me, w.Seen, w.Log, true⟩ else w := by
  unfold foldV; rw [if_pos h]; rfl
theorem right4 {m : GMessage} (h : rightM m = true) (h4 : m.Do = 4) : m.L.length = 10 := by
  have := rightM_at (n := 10) h h4 (by decide +kernel); omega
theorem fold_right {w : GWorld} {m : GMessage} (h : rightV w.Seen = true) (hl : w.Seen.length ≤ 16770000) (hu : m.Do = 4 → 0 < m.L.length → 1 ≤ m.L.getD 0 default) : rightV (foldV w m).Seen = true := by
  cases hr : rightM m with
  | false => rw [fold_not hr]; exact h
  | true =>
    obtain ⟨h1, h2⟩ := (rightV_iff _).1 h
    rw [fold_at hr]
    split
    · exact h
    split
    · rfl
    split
    · rename_i h4
      obtain ⟨e1, e2⟩ := entered_mem h1 m
      refine (rightV_iff _).2 ⟨e1, fun z hz => ?_⟩
      rcases (e2 z).1 hz with ⟨h3, _⟩ | rfl
      · exact h2 z h3
      · exact hu h4 (by rw [right4 hr h4]; decide)
    split
    · split
      · rename_i hv
        obtain ⟨e1, e2, _⟩ := gone_got h1 hl _ hv
        exact (rightV_iff _).2 ⟨e1, fun z hz => h2 z (e2 z hz)⟩
      · exact h
    split
    · obtain ⟨e1, e2⟩ := changed_any h1 (m.L.getD 0 default) (m.L.getD 1 default) (m.L.getD 2 default)
      refine (rightV_iff _).2 ⟨e1, fun z hz => ?_⟩
      obtain ⟨y, h5, h6⟩ := e2 z hz
      rw [← h6]; exact h2 y h5
    split
    · exact h
    split
    · exact h
    · exact h
theorem same_is (a b : GWorld) : sameV a b = true ↔ a = b := by
  unfold sameV
  cases a; cases b
  simp only [GWorld.mk.injEq]
  constructor
  · intro h
    split at h
    · split at h
      · split at h
        · simp at h; simp_all
        · cases h
      · cases h
    · cases h
  · rintro ⟨rfl, rfl, rfl, rfl⟩; simp
theorem small25_true : small25 = true := by decide +kernel
theorem stays25_go (l : List GMessage) (hw : ∀ m ∈ l, ∀ y ∈ m.L, InR y) (h60 : l.length ≤ 60) : ∀ (n k : Nat) (w : GWorld), k + n = l.length → rightV w.Seen = true → w.Seen.length ≤ k → stays25_L0 l n k w w = .inr () ∨ stays25_L0 l n k w w = .inl true
  | 0, k, w, _, _, _ => by rw [stays25_L0]; exact .inl rfl
  | n + 1, k, w, hk, hr, hlen => by
    have hkl : k < l.length := by omega
    have hm : l.getD k default ∈ l := by rw [getD_at (List.getElem?_eq_getElem hkl)]; exact List.getElem_mem hkl
    have hin := hw _ hm
    rw [stays25_L0]
    cases hJ : stays25_J24 l k with
    | inl r =>
      right
      have : r = true := by
        unfold stays25_J24 at hJ
        repeat' split at hJ
        all_goals first | (cases hJ; exact small25_true) | cases hJ
      rw [this]
    | inr u =>
      have hJ2 : stays25_J82 l w k = .inr (foldV w (l.getD k default)) := by
        unfold stays25_J82
        rw [encM_is1 hin]
        cases hrm : rightM (l.getD k default) with
        | true => rw [if_pos rfl, decM_body hrm hin]; first | done | rfl
        | false => rw [if_neg (by simp), fold_not hrm]; first | done | rfl
      have hu : (l.getD k default).Do = 4 → 0 < (l.getD k default).L.length → 1 ≤ (l.getD k default).L.getD 0 default := fun h1 h2 => by
        unfold stays25_J24 at hJ
        split at hJ
        · cases hJ
        split at hJ
        · cases hJ
        rw [if_pos (by omega)] at hJ
        split at hJ
        · cases hJ
        · omega
      have hf := fold_right hr (by omega) hu
      have hln := foldV_len w (l.getD k default) (by omega)
      rw [hJ2]
      dsimp only
      rw [if_pos hf, if_pos ((same_is _ _).2 rfl)]
      exact stays25_go l hw h60 n (k + 1) _ (by omega) hf (by omega)
theorem stays25_true (l : List GMessage) (hw : ∀ m ∈ l, ∀ y ∈ m.L, InR y) : stays25 l = true := by
  unfold stays25
  split
  · exact small25_true
  · rcases stays25_go l hw (by omega) (l.length - 0) 0 ⟨0, [], [], false⟩ (by omega) rfl (Nat.le_refl _) with h | h
    · rw [h]; exact small25_true
    · rw [h]
/-! what is told is known -/
theorem named25_is {l : List GSeen} (h : named25 l = true) : ∀ z ∈ l, nameOf z.Name = z.Name := by
  have key : ∀ (n k : Nat), k + n = l.length → (named25_L0 l n k = .inr () → ∀ j, k ≤ j → j < l.length → nameOf (l.getD j default).Name = (l.getD j default).Name) ∧ named25_L0 l n k ≠ .inl true := by
    intro n
    induction n with
    | zero => intro k hk; rw [named25_L0]; exact ⟨fun _ j h1 h2 => by omega, (by intro h; cases h)⟩
    | succ n ih =>
      intro k hk
      have := ih (k + 1) (by omega)
      rw [named25_L0]
      have go : nameOf (l.getD k default).Name = (l.getD k default).Name → (named25_L0 l n (k + 1) = .inr () → ∀ j, k ≤ j → j < l.length → nameOf (l.getD j default).Name = (l.getD j default).Name) := fun h0 h1 j h2 h3 => by
        by_cases e : j = k
        · subst e; exact h0
        · exact this.1 h1 j (by omega) h3
      split
      · rename_i h0
        exact ⟨go (by rw [h0]; rfl), this.2⟩
      · split
        · rename_i h0
          exact ⟨go (by unfold nameOf; rw [if_pos h0]), this.2⟩
        · exact ⟨(fun h => by cases h), (by intro h; cases h)⟩
  have h0 := key (l.length - 0) 0 (by omega)
  intro z hz
  unfold named25 at h
  split at h
  · rename_i r hr; subst h; exact absurd hr h0.2
  · rename_i hr
    obtain ⟨j, hj, rfl⟩ := List.getElem_of_mem hz
    have := h0.1 hr j (Nat.zero_le _) hj
    rwa [getD_at (List.getElem?_eq_getElem hj)] at this
theorem enter_right (s : GSeen) : rightM (enterV s) = true := by
  have h10 : sizeM 4 = (10, true) := by decide +kernel
  unfold rightM
  show (if (sizeM 4).2 = true then _ else false) = true
  rw [if_pos (by rw [h10])]
  show (if ((10 : Nat) : Int) = (sizeM 4).1 then _ else false) = true
  rw [if_pos (by rw [h10]; rfl)]
  show (if nameOf s.Name = [] then true else if (4 : Int) = 4 then nameC (nameOf s.Name) else false) = true
  by_cases hn : nameC s.Name = true
  · have e : nameOf s.Name = s.Name := by unfold nameOf; rw [if_pos hn]
    rw [e, if_pos rfl, hn]; split <;> rfl
  · have e : nameOf s.Name = [] := by unfold nameOf; rw [if_neg hn]
    rw [e, if_pos rfl]
theorem seenOf_enter (s : GSeen) (h : nameOf s.Name = s.Name) : seenOf (enterV s) = s := by
  show (⟨s.Unit, nameOf s.Name, ⟨s.Fields.f0, s.Fields.f1, s.Fields.f2, s.Fields.f3, s.Fields.f4, s.Fields.f5, s.Fields.f6, s.Fields.f7, s.Fields.f8⟩⟩ : GSeen) = s
  rw [h]
theorem fold_enter (w : GWorld) (s : GSeen) : foldV w (enterV s) = ⟨w.Me, enteredV w.Seen (enterV s), w.Log, w.Synced⟩ := by
  rw [fold_at (enter_right s)]; rfl
/-- a world of which the row alone may differ -/
structure Kin (w v : GWorld) : Prop where
  me : v.Me = w.Me
  log : v.Log = w.Log
  syn : v.Synced = w.Synced
  up : Up v.Seen
theorem Kin.trans {a b c : GWorld} (h : Kin a b) (h2 : Kin b c) : Kin a c := ⟨h2.me.trans h.me, h2.log.trans h.log, h2.syn.trans h.syn, h2.up⟩
theorem enter_one {w : GWorld} (h : Up w.Seen) {s : GSeen} (hn : nameOf s.Name = s.Name) : Kin w (foldV w (enterV s)) ∧ ∀ u, got (foldV w (enterV s)).Seen u = if s.Unit = u then some s else got w.Seen u := by
  rw [fold_enter]
  refine ⟨⟨rfl, rfl, rfl, (entered_mem h _).1⟩, fun u => ?_⟩
  have := entered_got h (enterV s) u
  rw [seenOf_enter s hn] at this
  show got (enteredV w.Seen (enterV s)) u = _
  rw [this]
  by_cases e : u = s.Unit
  · rw [if_pos e, if_pos e.symm]
  · rw [if_neg e, if_neg (Ne.symm e)]
theorem enters (r : List GSeen) : ∀ (w : GWorld), Up w.Seen → Up r → (∀ z ∈ r, nameOf z.Name = z.Name) → Kin w ((r.map enterV).foldl foldV w) ∧ ∀ u, got ((r.map enterV).foldl foldV w).Seen u = match got r u with | some s => some s | none => got w.Seen u := by
  induction r with
  | nil => intro w h _ _; exact ⟨⟨rfl, rfl, rfl, h⟩, fun u => rfl⟩
  | cons s r ih =>
    intro w h hr hn
    obtain ⟨p1, p2⟩ := List.pairwise_cons.1 hr
    obtain ⟨k1, k2⟩ := enter_one h (hn s List.mem_cons_self)
    obtain ⟨q1, q2⟩ := ih (foldV w (enterV s)) k1.up p2 (fun z hz => hn z (List.mem_cons_of_mem _ hz))
    refine ⟨k1.trans q1, fun u => ?_⟩
    rw [List.map_cons, List.foldl_cons, q2 u, k2 u, got_cons]
    by_cases e : s.Unit = u
    · rw [if_pos e, if_pos e, got_none (fun x hx hu => by have := p1 x hx; omega)]
    · rw [if_neg e, if_neg e]
theorem full_is (me : Int) (l : List GSeen) : fullV me l = [⟨3, [], []⟩, ⟨2, [me], []⟩] ++ (l.map enterV ++ [⟨10, [], []⟩]) := by
  have go : ∀ (l : List GSeen) (k : Nat) (out : List GMessage), fullV_L0 l k out = out ++ l.map enterV := by
    intro l
    induction l with
    | nil => intro k out; rw [fullV_L0]; simp
    | cons x l ih => intro k out; rw [fullV_L0, ih]; simp
  unfold fullV
  dsimp only
  rw [go, List.append_assoc]
theorem full_known (w : GWorld) (me : Int) {old : List GSeen} (h : Up old) (hn : ∀ z ∈ old, nameOf z.Name = z.Name) : foldsV w (fullV me old) = ⟨me, old, [], true⟩ := by
  show foldsV_L0 (fullV me old) 0 w = _
  rw [foldsV_is, full_is, List.foldl_append, List.foldl_append]
  have e1 : [(⟨3, [], []⟩ : GMessage), ⟨2, [me], []⟩].foldl foldV w = ⟨me, [], [], false⟩ := by
    have r3 : rightM (⟨3, [], []⟩ : GMessage) = true := by decide +kernel
    have r2 : rightM (⟨2, [me], []⟩ : GMessage) = true := rfl
    simp only [List.foldl_cons, List.foldl_nil]
    rw [fold_at r3, fold_at r2]
    rfl
  rw [e1]
  obtain ⟨k1, k2⟩ := enters old ⟨me, [], [], false⟩ .nil h hn
  generalize (old.map enterV).foldl foldV ⟨me, [], [], false⟩ = v at *
  have r10 : rightM (⟨10, [], []⟩ : GMessage) = true := by decide +kernel
  simp only [List.foldl_cons, List.foldl_nil]
  rw [fold_at r10]
  have hs : v.Seen = old := up_ext k1.up h (fun u => by
    rw [k2 u]
    cases got old u <;> rfl)
  show (⟨v.Me, v.Seen, v.Log, true⟩ : GWorld) = _
  rw [hs, k1.me, k1.log]
/-! what changed is known -/
theorem get_set9 (x : A9int) {k j : Nat} (hk : k < 9) (hj : j < 9) (v : Int) : (x.set k v).get j = if j = k then v else x.get j := by
  have h1 := A9int.get_list (x.set k v) hj
  rw [A9int.set_list x hk, List.getElem?_set] at h1
  have h2 := A9int.get_list x hj
  by_cases e : k = j
  · rw [if_pos e, if_pos (by rw [show x.list.length = 9 from rfl]; exact hk)] at h1
    rw [if_pos e.symm]; exact (Option.some.inj h1).symm
  · rw [if_neg e, h2] at h1
    rw [if_neg (Ne.symm e)]; exact (Option.some.inj h1).symm
theorem ext9 {x y : A9int} (h : ∀ j, j < 9 → x.get j = y.get j) : x = y := by
  have h0 := h 0 (by omega); have h1 := h 1 (by omega); have h2 := h 2 (by omega); have h3 := h 3 (by omega); have h4 := h 4 (by omega)
  have h5 := h 5 (by omega); have h6 := h 6 (by omega); have h7 := h 7 (by omega); have h8 := h 8 (by omega)
  cases x; cases y
  simp only [A9int.get] at h0 h1 h2 h3 h4 h5 h6 h7 h8
  simp only [A9int.mk.injEq]
  exact ⟨h0, h1, h2, h3, h4, h5, h6, h7, h8⟩
theorem diff_out (old now : GSeen) : ∀ (n k : Nat) (out : List GMessage), diffV_L0 old now n k out = out ++ diffV_L0 old now n k []
  | 0, k, out => by rw [diffV_L0, diffV_L0, List.append_nil]
  | n + 1, k, out => by
    rw [diffV_L0, diffV_L0]
    split
    · exact diff_out old now n (k + 1) out
    · rw [diff_out old now n (k + 1) (out ++ _), diff_out old now n (k + 1) ([] ++ _), List.append_assoc, List.nil_append]
theorem diff_go (old now : GSeen) : ∀ (n k : Nat) (w : GWorld) (x : GSeen), k + n = 9 → Up w.Seen → got w.Seen now.Unit = some x → (∀ j, j < k → x.Fields.get j = now.Fields.get j) → (∀ j, k ≤ j → j < 9 → x.Fields.get j = old.Fields.get j) →
    Kin w ((diffV_L0 old now n k []).foldl foldV w) ∧ ∀ u, got ((diffV_L0 old now n k []).foldl foldV w).Seen u = if u = now.Unit then some { x with Fields := now.Fields } else got w.Seen u
  | 0, k, w, x, hk, hu, hg, h1, h2 => by
    rw [diffV_L0]
    refine ⟨⟨rfl, rfl, rfl, hu⟩, fun u => ?_⟩
    have e : x.Fields = now.Fields := ext9 fun j hj => h1 j (by omega)
    have e2 : ({ x with Fields := now.Fields } : GSeen) = x := by rw [← e]
    rw [e2]
    show got w.Seen u = _
    split
    · rename_i eu; rw [eu, hg]
    · rfl
  | n + 1, k, w, x, hk, hu, hg, h1, h2 => by
    have hk9 : k < 9 := by omega
    rw [diffV_L0]
    split
    · rename_i he
      refine diff_go old now n (k + 1) w x (by omega) hu hg (fun j hj => ?_) (fun j hj hj9 => h2 j (by omega) hj9)
      by_cases e : j = k
      · subst e; rw [h2 j (Nat.le_refl _) hk9]; exact he.symm
      · exact h1 j (by omega)
    · rename_i he
      rw [diff_out, List.foldl_append]
      have hr : rightM (⟨6, [now.Unit, (k : Int), now.Fields.get k], []⟩ : GMessage) = true := rfl
      have hf : foldV w (⟨6, [now.Unit, (k : Int), now.Fields.get k], []⟩ : GMessage) = ⟨w.Me, changedV w.Seen now.Unit k (now.Fields.get k), w.Log, w.Synced⟩ := by rw [fold_at hr]; rfl
      simp only [List.nil_append, List.foldl_cons, List.foldl_nil]
      rw [hf]
      obtain ⟨c1, c2⟩ := changed_got hu now.Unit k (now.Fields.get k) (by omega) (by omega)
      have hg2 : got (changedV w.Seen now.Unit k (now.Fields.get k)) now.Unit = some { x with Fields := x.Fields.set k (now.Fields.get k) } := by
        rw [c2, if_pos rfl, hg]; rfl
      obtain ⟨d1, d2⟩ := diff_go old now n (k + 1) ⟨w.Me, changedV w.Seen now.Unit k (now.Fields.get k), w.Log, w.Synced⟩ { x with Fields := x.Fields.set k (now.Fields.get k) } (by omega) c1 hg2 (fun j hj => by
        show (x.Fields.set k (now.Fields.get k)).get j = _
        rw [get_set9 _ hk9 (by omega)]
        split
        · rename_i e; rw [e]
        · exact h1 j (by omega)) (fun j hj hj9 => by
        show (x.Fields.set k (now.Fields.get k)).get j = _
        rw [get_set9 _ hk9 hj9, if_neg (by omega)]; exact h2 j (by omega) hj9)
      refine ⟨⟨d1.me, d1.log, d1.syn, d1.up⟩, fun u => ?_⟩
      rw [d2 u]
      split
      · rfl
      · rename_i e
        show got (changedV w.Seen now.Unit k (now.Fields.get k)) u = _
        rw [c2, if_neg e]
theorem diff_one {old now : GSeen} (hu : old.Unit = now.Unit) (hn : old.Name = now.Name) {w : GWorld} (h : Up w.Seen) (hg : got w.Seen now.Unit = some old) : Kin w ((diffV old now).foldl foldV w) ∧ ∀ u, got ((diffV old now).foldl foldV w).Seen u = if now.Unit = u then some now else got w.Seen u := by
  have e : ({ old with Fields := now.Fields } : GSeen) = now := by rw [hu, hn]
  unfold diffV
  split
  · rename_i hf
    simp only [Bool.and_eq_true, beq_iff_eq, and_true] at hf
    have hff : old.Fields = now.Fields := by
      cases hO : old.Fields; cases hN : now.Fields
      rw [hO, hN] at hf
      simp only [A9int.mk.injEq]
      exact hf
    have heq : old = now := by rw [← e, ← hff]
    refine ⟨⟨rfl, rfl, rfl, h⟩, fun u => ?_⟩
    show got w.Seen u = _
    split
    · rename_i eu; rw [← eu, hg, heq]
    · rfl
  · obtain ⟨d1, d2⟩ := diff_go old now 9 0 w old (by omega) h hg (fun j hj => by omega) (fun j _ _ => rfl)
    refine ⟨d1, fun u => ?_⟩
    show got ((diffV_L0 old now 9 0 []).foldl foldV w).Seen u = _
    rw [d2 u, e]
    by_cases eu : u = now.Unit
    · rw [if_pos eu, if_pos eu.symm]
    · rw [if_neg eu, if_neg (Ne.symm eu)]
def goneOf (now : List GSeen) (x : GSeen) : List GMessage := if findV now x.Unit < 0 then [⟨5, [x.Unit], []⟩] else []
def newsOf (old : List GSeen) (x : GSeen) : List GMessage := if findV old x.Unit < 0 then [enterV x] else if (old.getD (findV old x.Unit).toNat default).Name = x.Name then diffV (old.getD (findV old x.Unit).toNat default) x else [enterV x]
theorem upd_is (old now : List GSeen) : updV old now = old.flatMap (goneOf now) ++ now.flatMap (newsOf old) := by
  have g0 : ∀ (l : List GSeen) (k : Nat) (out : List GMessage), updV_L0 now l k out = out ++ l.flatMap (goneOf now) := by
    intro l
    induction l with
    | nil => intro k out; rw [updV_L0]; simp
    | cons x l ih =>
      intro k out
      rw [updV_L0, List.flatMap_cons, goneOf]
      split
      · rw [ih, List.append_assoc]
      · rw [ih, List.nil_append]
  have g1 : ∀ (l : List GSeen) (k : Nat) (out : List GMessage), updV_L1 old l k out = out ++ l.flatMap (newsOf old) := by
    intro l
    induction l with
    | nil => intro k out; rw [updV_L1]; simp
    | cons x l ih =>
      intro k out
      rw [updV_L1, List.flatMap_cons, newsOf]
      split
      · rw [ih, List.append_assoc]
      · split
        · rw [ih, List.append_assoc]
        · rw [ih, List.append_assoc]
  unfold updV
  dsimp only
  rw [g1, g0, List.nil_append]
theorem find_neg (l : List GSeen) (u : Int) : findV l u < 0 ↔ got l u = none := by
  rcases find_is l u with ⟨h1, h2⟩ | ⟨k, h1, hk, h2, h3⟩
  · exact ⟨fun _ => h2, fun _ => h1⟩
  · rw [h1, h2]; exact ⟨fun h => by omega, fun h => by cases h⟩
theorem gones (now : List GSeen) (r : List GSeen) : ∀ (w : GWorld), Up w.Seen → w.Seen.length ≤ 16770000 → Kin w ((r.flatMap (goneOf now)).foldl foldV w) ∧ ((r.flatMap (goneOf now)).foldl foldV w).Seen.length ≤ 16770000 ∧ ∀ u, got ((r.flatMap (goneOf now)).foldl foldV w).Seen u = if (∃ x ∈ r, x.Unit = u) ∧ got now u = none then none else got w.Seen u := by
  induction r with
  | nil => intro w h hl; exact ⟨⟨rfl, rfl, rfl, h⟩, hl, fun u => by rw [if_neg (by rintro ⟨⟨x, hx, _⟩, _⟩; cases hx)]; rfl⟩
  | cons x r ih =>
    intro w h hl
    rw [List.flatMap_cons, List.foldl_append]
    by_cases hx : findV now x.Unit < 0
    · have hr : rightM (⟨5, [x.Unit], []⟩ : GMessage) = true := rfl
      have e1 : (goneOf now x).foldl foldV w = foldV w ⟨5, [x.Unit], []⟩ := by unfold goneOf; rw [if_pos hx]; rfl
      have e2 : foldV w (⟨5, [x.Unit], []⟩ : GMessage) = if findV w.Seen x.Unit ≥ 0 then ⟨w.Me, w.Seen.take (findV w.Seen x.Unit).toNat ++ w.Seen.drop (IntKind.i64.wrap (findV w.Seen x.Unit + 1)).toNat, w.Log, w.Synced⟩ else w := by rw [fold_at hr]; rfl
      have key : Kin w (foldV w ⟨5, [x.Unit], []⟩) ∧ (foldV w ⟨5, [x.Unit], []⟩).Seen.length ≤ 16770000 ∧ ∀ u, got (foldV w ⟨5, [x.Unit], []⟩).Seen u = if u = x.Unit then none else got w.Seen u := by
        rw [e2]
        split
        · rename_i hv
          obtain ⟨g1, _, g3⟩ := gone_got h hl _ hv
          refine ⟨⟨rfl, rfl, rfl, g1⟩, ?_, g3⟩
          simp only [List.length_append, List.length_take, List.length_drop]
          rcases find_is w.Seen x.Unit with ⟨h1, _⟩ | ⟨k, h1, hk, _⟩
          · omega
          · rw [h1, IntKind.wrap_i64]; omega
        · rename_i hv
          refine ⟨⟨rfl, rfl, rfl, h⟩, hl, fun u => ?_⟩
          split
          · rename_i e; rw [e]; exact (find_neg _ _).1 (by omega)
          · rfl
      rw [e1]
      obtain ⟨k1, k2, k3⟩ := key
      obtain ⟨q1, q2, q3⟩ := ih _ k1.up k2
      refine ⟨k1.trans q1, q2, fun u => ?_⟩
      rw [q3 u, k3 u]
      have hnone := (find_neg _ _).1 hx
      by_cases eu : u = x.Unit
      · have hc : (∃ y ∈ x :: r, y.Unit = u) ∧ got now u = none := ⟨⟨x, List.mem_cons_self, eu.symm⟩, by rw [eu]; exact hnone⟩
        rw [if_pos eu, if_pos hc]
        split <;> rfl
      · rw [if_neg eu]
        by_cases c : (∃ y ∈ r, y.Unit = u) ∧ got now u = none
        · rw [if_pos c, if_pos ⟨c.1.elim fun y hy => ⟨y, List.mem_cons_of_mem _ hy.1, hy.2⟩, c.2⟩]
        · rw [if_neg c, if_neg (fun c2 => c ⟨c2.1.elim fun y hy => ⟨y, (List.mem_cons.1 hy.1).resolve_left (fun e => eu (by rw [← hy.2, e])), hy.2⟩, c2.2⟩)]
    · have e1 : (goneOf now x).foldl foldV w = w := by unfold goneOf; rw [if_neg hx]; rfl
      rw [e1]
      obtain ⟨q1, q2, q3⟩ := ih w h hl
      refine ⟨q1, q2, fun u => ?_⟩
      rw [q3 u]
      have hsome : got now x.Unit ≠ none := fun e => hx ((find_neg _ _).2 e)
      by_cases c : (∃ y ∈ r, y.Unit = u) ∧ got now u = none
      · rw [if_pos c, if_pos ⟨c.1.elim fun y hy => ⟨y, List.mem_cons_of_mem _ hy.1, hy.2⟩, c.2⟩]
      · rw [if_neg c, if_neg (fun c2 => c ⟨c2.1.elim fun y hy => ⟨y, (List.mem_cons.1 hy.1).resolve_left (fun e => hsome (by rw [← e, hy.2]; exact c2.2)), hy.2⟩, c2.2⟩)]
theorem news (old : List GSeen) (ho : Up old) (r : List GSeen) : ∀ (w : GWorld), Up w.Seen → Up r → (∀ z ∈ r, nameOf z.Name = z.Name) → (∀ z ∈ r, got w.Seen z.Unit = got old z.Unit) →
    Kin w ((r.flatMap (newsOf old)).foldl foldV w) ∧ ∀ u, got ((r.flatMap (newsOf old)).foldl foldV w).Seen u = match got r u with | some s => some s | none => got w.Seen u := by
  induction r with
  | nil => intro w h _ _ _; exact ⟨⟨rfl, rfl, rfl, h⟩, fun u => rfl⟩
  | cons s r ih =>
    intro w h hr hn hg
    obtain ⟨p1, p2⟩ := List.pairwise_cons.1 hr
    rw [List.flatMap_cons, List.foldl_append]
    have key : Kin w ((newsOf old s).foldl foldV w) ∧ ∀ u, got ((newsOf old s).foldl foldV w).Seen u = if s.Unit = u then some s else got w.Seen u := by
      have hen := enter_one h (hn s List.mem_cons_self)
      unfold newsOf
      rcases find_is old s.Unit with ⟨h1, h2⟩ | ⟨k, h1, hk, h2, h3⟩
      · rw [if_pos h1]; exact hen
      · rw [if_neg (by omega), h1, Int.toNat_natCast, getD_at (List.getElem?_eq_getElem hk)]
        split
        · rename_i hnm
          exact diff_one h3 hnm h (by rw [hg s List.mem_cons_self, h2])
        · exact hen
    obtain ⟨k1, k2⟩ := key
    obtain ⟨q1, q2⟩ := ih _ k1.up p2 (fun z hz => hn z (List.mem_cons_of_mem _ hz)) (fun z hz => by
      rw [k2, if_neg (by have := p1 z hz; omega)]; exact hg z (List.mem_cons_of_mem _ hz))
    refine ⟨k1.trans q1, fun u => ?_⟩
    rw [q2 u, k2 u, got_cons]
    by_cases e : s.Unit = u
    · rw [if_pos e, if_pos e, got_none (fun x hx hu => by have := p1 x hx; omega)]
    · rw [if_neg e, if_neg e]
theorem upd_known {old now : List GSeen} (ho : Up old) (hn : Up now) (hnm : ∀ z ∈ now, nameOf z.Name = z.Name) (me : Int) (hl : old.length ≤ 40) : foldsV ⟨me, old, [], true⟩ (updV old now) = ⟨me, now, [], true⟩ := by
  show foldsV_L0 (updV old now) 0 _ = _
  rw [foldsV_is, upd_is, List.foldl_append]
  show List.foldl foldV (List.foldl foldV ⟨me, old, [], true⟩ (old.flatMap (goneOf now))) (now.flatMap (newsOf old)) = _
  obtain ⟨k1, k2, k3⟩ := gones now old ⟨me, old, [], true⟩ ho (by show old.length ≤ _; omega)
  generalize (old.flatMap (goneOf now)).foldl foldV ⟨me, old, [], true⟩ = v at *
  obtain ⟨q1, q2⟩ := news old ho now v k1.up hn hnm (fun z hz => by
    rw [k3, if_neg (fun c => by rw [got_mem hn hz rfl] at c; cases c.2)])
  have q := k1.trans q1
  generalize (now.flatMap (newsOf old)).foldl foldV v = z at *
  have hs : z.Seen = now := up_ext q.up hn (fun u => by
    rw [q2 u]
    cases hg : got now u with
    | some s => rfl
    | none =>
      dsimp only
      rw [k3 u]
      split
      · rfl
      · rename_i c
        show got old u = none
        cases ho2 : got old u with
        | none => rfl
        | some y => exact absurd ⟨⟨y, (got_some ho2).1, (got_some ho2).2⟩, hg⟩ c)
  have h1 := q.me; have h2 := q.log; have h3 := q.syn
  cases z
  simp only at hs h1 h2 h3
  rw [hs, h1, h2, h3]
theorem upd_none {l : List GSeen} (h : Up l) : updV l l = [] := by
  rw [upd_is]
  have f : ∀ x ∈ l, ∃ k : Nat, findV l x.Unit = (k : Int) ∧ ∃ hk : k < l.length, l[k] = x := fun x hx => by
    rcases find_is l x.Unit with ⟨h1, h2⟩ | ⟨k, h1, hk, h2, h3⟩
    · rw [got_mem h hx rfl] at h2; cases h2
    · exact ⟨k, h1, hk, up_one h (List.getElem_mem hk) hx h3⟩
  have e1 : l.flatMap (goneOf l) = [] := List.flatMap_eq_nil_iff.2 fun x hx => by
    obtain ⟨k, h1, _⟩ := f x hx
    unfold goneOf; rw [if_neg (by omega)]
  have e2 : l.flatMap (newsOf l) = [] := List.flatMap_eq_nil_iff.2 fun x hx => by
    obtain ⟨k, h1, hk, h2⟩ := f x hx
    unfold newsOf
    rw [if_neg (by omega), h1, Int.toNat_natCast, getD_at (List.getElem?_eq_getElem hk), h2, if_pos rfl]
    unfold diffV
    rw [if_pos (by simp)]
  rw [e1, e2]; rfl
theorem follows25_true (w : GWorld) (old now : List GSeen) (me : Int) : follows25 w old now me = true := by
  unfold follows25
  dsimp only
  split
  case isFalse => exact small25_true
  rename_i h
  have hok : few25 w = true ∧ named25 old = true ∧ named25 now = true := by
    unfold follows25_J15 at h
    split at h
    · rename_i h1
      split at h
      · rename_i h2; exact ⟨h1, h2, h⟩
      · cases h
    · cases h
  split
  · exact small25_true
  split
  · exact small25_true
  rename_i h1 h2
  split
  case isFalse => exact small25_true
  rename_i h3
  split
  case isFalse => exact small25_true
  rename_i h4
  have u1 := ((rightV_iff _).1 h3).1
  have u2 := ((rightV_iff _).1 h4).1
  have n1 := named25_is hok.2.1
  have n2 := named25_is hok.2.2
  rw [full_known w me u1 n1, if_pos ((same_is _ _).2 rfl), if_pos small25_true, upd_known u1 u2 n2 me (by omega), if_pos ((same_is _ _).2 rfl), upd_none u1, upd_none u2]
  simp
theorem follows25_yes (w : GWorld) (old : List GSeen) (o_f : Bool) (now : List GSeen) (n_f : Bool) (me : Int) : Ok Tryd.prog 3 [aGWorld w, .pv (.slc old.length o_f (old.flatMap encGSeen)), .pv (.slc now.length n_f (now.flatMap encGSeen)), I me] [] (B true) [] [] := by
  have h := follows25_ok w old o_f now n_f me
  rwa [follows25_true] at h
theorem stays25_yes (l : List GMessage) (l_f : Bool) (hw : ∀ m ∈ l, ∀ y ∈ m.L, InR y) : Ok Tryd.prog 4 [.pv (.slc l.length l_f (l.flatMap encGMessage))] [] (B true) [] [] := by
  have h := stays25_ok l l_f
  rwa [stays25_true l hw] at h

end Go.Proofs.YtbfmonajbfljmaaDoor

import Derived.Test.YtcbdecknbfabaaaLaw15u
namespace Go.Proofs.Ytcbdecknbfabaaa
open Go Go.RowKit Go.Proofs.YtcbdecknbfabaaaVm
attribute [local irreducible] opsWp AnswersE OpsS
set_option maxHeartbeats 400000
set_option maxRecDepth 100000
set_option linter.all false
theorem take14_step {a n : Int} (ha : InR a) (hn : InR n) (h0 : 0 ≤ n) : clampM n 0 (max a 0) = min (max a 0) n ∧ InR (IntKind.i64.wrap (n - min (max a 0) n)) ∧ 0 ≤ IntKind.i64.wrap (n - min (max a 0) n) ∧ (a ≤ min (max a 0) n ↔ ¬ (IntKind.i64.wrap (a - min (max a 0) n) > 0)) := by
  unfold InR at *
  unfold clampM
  simp only [IntKind.wrap_i64]
  refine ⟨by omega, by omega, by omega, ?_⟩
  omega
theorem take14_go2 : ∀ (l : List GShield) (k k' : Nat) (out : List GShield) (gone : List Int) (n : Int), (∀ x ∈ l, InR x.Left) → InR n → 0 ≤ n → take14_L0 l k out gone n = take14R_L0 l k' out gone n
  | [], k, k', out, gone, n, _, _, _ => by rw [take14_L0, take14R_L0]
  | x :: l, k, k', out, gone, n, hl, hn, h0 => by
    rw [take14_L0, take14R_L0]
    obtain ⟨h1, h2, h3, h4⟩ := take14_step (hl x (List.mem_cons_self ..)) hn h0
    have hl' : ∀ x ∈ l, InR x.Left := fun y hy => hl y (List.mem_cons_of_mem _ hy)
    rw [h1]
    by_cases h : x.Left ≤ min (max x.Left 0) n
    · rw [if_pos h, if_neg (h4.1 h)]
      exact take14_go2 l _ _ _ _ _ hl' h2 h3
    · rw [if_neg h, if_pos (Decidable.not_not.1 (fun h' => h (h4.2 h')))]
      exact take14_go2 l _ _ _ _ _ hl' h2 h3
theorem take14_eq {l : List GShield} {n : Int} (hl : ∀ x ∈ l, InR x.Left) (hn : InR n) : take14 l n = take14R l n := by
  unfold take14 take14R
  split
  · rfl
  · rw [take14_go2 l 0 0 [] [] n hl hn (by omega)]
theorem shields_eq (c : GContent) : ∀ (l : List GActive) (k : Nat) (s : List GShield), takeR_L0 c l k s = s ++ shieldsOf c 5 l k
  | [], k, s => by rw [takeR_L0, shieldsOf]; simp
  | x :: l, k, s => by
    rw [takeR_L0, shieldsOf, getUR_eq]
    have ih := shields_eq c l (k + 1)
    by_cases h1 : (getU c x.Aura).2 = true
    · by_cases h2 : (getU c x.Aura).1.Kind = 5
      · rw [if_pos h1, if_pos h2, if_pos ⟨h1, h2⟩, ih]; simp
      · rw [if_pos h1, if_neg h2, if_neg (fun h => h2 h.2), ih]
    · rw [if_neg h1, if_neg (fun h => h1 h.1), ih]
theorem shieldsOf_left {c : GContent} {kind : Int} : ∀ {l : List GActive} {k : Nat} {s : GShield}, s ∈ shieldsOf c kind l k → ∃ x ∈ l, s.Left = x.Left
  | [], k, s, h => by simp [shieldsOf] at h
  | x :: l, k, s, h => by
    rw [shieldsOf] at h
    have ih := @shieldsOf_left c kind l (k + 1) s
    split at h
    · rcases List.mem_cons.1 h with rfl | h
      · exact ⟨x, List.mem_cons_self .., rfl⟩
      · obtain ⟨y, hy, e⟩ := ih h; exact ⟨y, List.mem_cons_of_mem _ hy, e⟩
    · obtain ⟨y, hy, e⟩ := ih h; exact ⟨y, List.mem_cons_of_mem _ hy, e⟩
/-- what one place gets -/
theorem left_at (i : Nat) : ∀ (stay : List GShield) (k k' : Nat) (r : List GActive), (∀ s ∈ stay, 0 ≤ s.Aura ∧ s.Aura < r.length) → (take15_L0 stay k r)[i]? = (r[i]?).map (takeR_L2 i stay k')
  | [], k, k', r, _ => by
    rw [take15_L0]; cases r[i]? <;> simp [takeR_L2]
  | s :: stay, k, k', r, h => by
    have hs := h s (List.mem_cons_self ..)
    rw [take15_L0, left_at i stay (k + 1) (k' + 1) _ (fun y hy => by rw [List.length_set]; exact h y (List.mem_cons_of_mem _ hy))]
    by_cases e : s.Aura = i
    · have e' : s.Aura.toNat = i := by omega
      have hi : i < r.length := by omega
      rw [e', List.getElem?_set_self hi, List.getElem?_eq_getElem hi]
      simp only [Option.map_some, takeR_L2, if_pos e, List.getD_eq_getElem?_getD, List.getElem?_eq_getElem hi, Option.getD_some]
    · have e' : s.Aura.toNat ≠ i := by omega
      rw [List.getElem?_set_ne e']
      cases r[i]? with
      | none => rfl
      | some x => simp only [Option.map_some, takeR_L2, if_neg e]
theorem gone_at (i : Nat) : ∀ (g : List Int) (k : Nat) (b : Bool), takeR_L3 i g k b = (b || decide ((i : Int) ∈ g))
  | [], k, b => by simp [takeR_L3]
  | x :: g, k, b => by
    rw [takeR_L3]
    cases b with
    | true => simp [gone_at i g]
    | false =>
      rw [if_neg (by decide), gone_at i g]
      by_cases h : x = i
      · subst h; simp
      · have h' : ¬ (i : Int) = x := fun e => h e.symm
        simp [h, h']
theorem out_go (c : GContent) (l0 : List GActive) (n : Int) (sh : List GShield) (he : take14 (ofTake c l0 5 []) n = take14R sh n) : ∀ (l r : List GActive) (k : Nat) (out : List GActive), r.length = l.length → (∀ j, r[j]? = (l[j]?).map (takeR_L2 (k + j) (take14R sh n).1 0)) → take15_L1 c l0 n r k out = takeR_L1 n sh l k out
  | [], [], k, out, _, _ => by rw [take15_L1, takeR_L1]
  | [], _ :: _, k, out, h, _ => by cases h
  | _ :: _, [], k, out, h, _ => by cases h
  | x :: l, y :: r, k, out, h, hj => by
    have h0 := hj 0
    simp only [List.getElem?_cons_zero, Option.map_some, Nat.add_zero, Option.some.injEq] at h0
    have ih := out_go c l0 n sh he l r (k + 1)
    have hj' : ∀ j, r[j]? = (l[j]?).map (takeR_L2 (k + 1 + j) (take14R sh n).1 0) := fun j => by
      have := hj (j + 1)
      simp only [List.getElem?_cons_succ] at this
      rw [this, show k + (j + 1) = k + 1 + j by omega]
    have hl : r.length = l.length := by simpa using h
    rw [take15_L1, takeR_L1, he]
    simp only [gone_at, Bool.false_or, decide_eq_true_eq, ← h0]
    split
    · exact ih _ hl hj'
    · exact ih _ hl hj'
theorem take_eq {c : GContent} {l : List GActive} {n : Int} (hl : ∀ x ∈ l, InR x.Left) (hn : InR n) : take15 c l n = takeR c l n := by
  have hs : takeR_L0 c l 0 [] = ofTake c l 5 [] := by rw [shields_eq, ofTake_is]; rfl
  have hL : ∀ x ∈ ofTake c l 5 [], InR x.Left := fun x hx => by
    rw [ofTake_is] at hx
    obtain ⟨y, hy, e⟩ := shieldsOf_left hx
    rw [e]; exact hl y hy
  have he := take14_eq hL hn
  have hq : ∀ s ∈ (take14R (ofTake c l 5 []) n).1, 0 ≤ s.Aura ∧ s.Aura < l.length := fun s hs => by
    rw [← he] at hs
    obtain ⟨i, hi⟩ := List.getElem?_of_mem hs
    exact take_in hi
  have hj : ∀ j, (take15_L0 (take14R (ofTake c l 5 []) n).1 0 l)[j]? = (l[j]?).map (takeR_L2 (0 + j) (take14R (ofTake c l 5 []) n).1 0) := fun j => by rw [Nat.zero_add]; exact left_at j _ 0 0 l hq
  have ho := out_go c l n (ofTake c l 5 []) he l _ 0 [] (take15_L0_len (take14R (ofTake c l 5 []) n).1 0 l) hj
  unfold take15 takeR
  simp only [hs, he, ho]
theorem sum_go {c : GContent} (hc : Fits c) (kind : Int) : ∀ (l : List GActive) (k : Nat) (n : Int), (∀ x ∈ l, InR x.Stacks) → InR n → ofSum_L0 c kind l k n = sumR_L0 c kind l k n
  | [], k, n, _, _ => by rw [ofSum_L0, sumR_L0]
  | x :: l, k, n, hl, hn => by
    have hx := hl x (List.mem_cons_self ..)
    have hl' : ∀ x ∈ l, InR x.Stacks := fun y hy => hl y (List.mem_cons_of_mem _ hy)
    rw [ofSum_L0, sumR_L0]
    have f := (getU_fits hc x.Aura).2.2.2
    have hm : InR (mul1 (getU c x.Aura).1.Amount x.Stacks) := by rw [mul1_eq f hx]; unfold InR; omega
    have e : ofSum_J16 c kind n k x = sumR_J18 c kind n x ∧ InR (ofSum_J16 c kind n k x) := by
      unfold ofSum_J16 sumR_J18 sumF
      rw [getUR_eq, ← mul_same f hx, ← add_same hn hm]
      split
      · split
        · exact ⟨rfl, addM_in hn hm⟩
        · exact ⟨rfl, hn⟩
      · exact ⟨rfl, hn⟩
    simp only [← e.1]
    exact sum_go hc kind l (k + 1) _ hl' e.2
theorem sum_eq {c : GContent} (hc : Fits c) {l : List GActive} (hl : ∀ x ∈ l, InR x.Stacks) (kind : Int) : sum15 c l kind = sumR c l kind := by
  unfold sum15 ofSum sumR
  exact sum_go hc kind l 0 0 hl (by unfold InR; decide)
theorem has_go (c : GContent) (kind : Int) : ∀ (l : List GActive) (k k' : Nat) (b : Bool), ofHas_L0 c kind l k b = (b || (match hasR_L0 c kind l k' with | .inl r => r | .inr () => false))
  | [], k, k', b => by rw [ofHas_L0, hasR_L0]; simp
  | x :: l, k, k', b => by
    rw [ofHas_L0, hasR_L0, getUR_eq]
    have ih := has_go c kind l (k + 1) (k' + 1)
    unfold ofHas_J16 hasF
    by_cases h1 : (getU c x.Aura).2 = true
    · by_cases h2 : (getU c x.Aura).1.Kind = kind
      · rw [if_pos h1, if_pos h2, if_pos h1, if_pos h2, ih]; simp
      · rw [if_pos h1, if_neg h2, if_pos h1, if_neg h2, ih]
    · rw [if_neg h1, if_neg h1, ih]
theorem has_eq (c : GContent) (l : List GActive) (kind : Int) : has15 c l kind = hasR c l kind := by
  unfold has15 ofHas hasR
  simp only [has_go c kind l 0 0 false, Bool.false_or]
  cases hasR_L0 c kind l 0 <;> rfl
theorem sums15_true {c : GContent} (hc : Fits c) {l : List GActive} (hl : ∀ x ∈ l, InR x.Stacks ∧ InR x.Left) {kind n : Int} (hn : InR n) : sums15 c l kind n = true := by
  unfold sums15 sums15_J46
  rw [small15_true, take_eq (fun x hx => (hl x hx).2) hn, sum_eq hc (fun x hx => (hl x hx).1), has_eq]
  simp
theorem sums15_yes (c : GContent) (l : List GActive) (l_f : Bool) (kind n : Int) (hc : Fits c) (hl : ∀ x ∈ l, InR x.Stacks ∧ InR x.Left) (hn : InR n) : Ok Try.prog 6 [aGContent c, .pv (.slc l.length l_f (l.flatMap encGActive)), I kind, I n] [] (B true) [] [] := by
  have h := sums15_ok c l l_f kind n
  rwa [sums15_true hc hl hn] at h

end Go.Proofs.Ytcbdecknbfabaaa

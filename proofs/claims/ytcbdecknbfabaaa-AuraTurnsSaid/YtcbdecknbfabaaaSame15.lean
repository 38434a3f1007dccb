import Derived.Test.YtcbdecknbfabaaaSame09
namespace Go.Proofs.Ytcbdecknbfabaaa
open Go Go.RowKit Go.Proofs.YtcbdecknbfabaaaVm
attribute [local irreducible] opsWp AnswersE OpsS
set_option maxHeartbeats 400000
set_option maxRecDepth 100000
set_option linter.all false
theorem expireR_go (now : Int) : ∀ (l : List GActive) (k : Nat) (y n : List GActive), expireR_L0 now l k y n = (y ++ l.filter (fun x_ => staysA x_ now), n ++ l.filter fun x_ => !staysA x_ now)
  | [], k, y, n => by rw [expireR_L0]; simp
  | x :: l, k, y, n => by
    rw [expireR_L0]
    by_cases h : x.Until > now
    · have h2 : staysA x now = true := by simpa [staysA] using h
      rw [if_pos h, expireR_go now l]; simp [h2]
    · have h2 : staysA x now = false := by simp [staysA]; omega
      rw [if_neg h, expireR_go now l]; simp [h2]
theorem expire_eq (l : List GActive) (now : Int) : expire15 l now = expireR l now := by
  rw [expire15_is]; unfold expireR; rw [expireR_go]; simp
structure Fits (c : GContent) : Prop where
  au : ∀ x ∈ c.Auras, InR x.Ticks ∧ InR x.Every ∧ InR x.Stacks ∧ InR x.Amount
theorem getU_cases (c : GContent) (id : Int) : ((getU c id).2 = true ∧ (getU c id).1 ∈ c.Auras ∧ (getU c id).1.Id = id) ∨ getU c id = (⟨0, 0, 0, 0, 0, 0, false⟩, false) := by
  unfold getU findU
  rcases fidx_cases (fun x_ => isU x_ id) c.Auras with ⟨h, _⟩ | ⟨k, x, h, h2, h3, _⟩
  · rw [h, if_pos (by omega)]; exact .inr rfl
  · rw [h, if_neg (by omega)]
    have : c.Auras.getD ((k : Int).toNat) default = x := by rw [Int.toNat_natCast, List.getD_eq_getElem?_getD, h2]; rfl
    rw [this]
    exact .inl ⟨rfl, List.mem_of_getElem? h2, by simpa [isU, idU] using h3⟩
theorem getU_fits {c : GContent} (h : Fits c) (id : Int) : InR (getU c id).1.Ticks ∧ InR (getU c id).1.Every ∧ InR (getU c id).1.Stacks ∧ InR (getU c id).1.Amount := by
  rcases getU_cases c id with ⟨_, h1, _⟩ | h1
  · exact h.au _ h1
  · rw [h1]; unfold InR; decide
theorem tick_go {c : GContent} (hc : Fits c) (now : Int) : ∀ (n k : Nat) (r d : List GActive), (∀ x ∈ r, InR x.Next) → k + n = r.length → tick15_L0 c now n k r d = tickR_L0 c now n k r d
  | 0, k, r, d, _, _ => by rw [tick15_L0, tickR_L0]
  | n + 1, k, r, d, hr, hk => by
    have hm : r.getD k default ∈ r := by
      rw [List.getD_eq_getElem?_getD, List.getElem?_eq_getElem (by omega)]; exact List.getElem_mem _
    have e : addM (r.getD k default).Next (getU c (r.getD k default).Aura).1.Every = addR (r.getD k default).Next (getU c (r.getD k default).Aura).1.Every := add_same (hr _ hm) (getU_fits hc _).2.1
    rw [tick15_L0, tickR_L0]
    simp only [getUR_eq, ← e]
    rw [tick_go hc now n (k + 1) r d hr (by omega)]
    rw [tick_go hc now n (k + 1) (r.set k { r.getD k default with Next := addM (r.getD k default).Next (getU c (r.getD k default).Aura).1.Every }) _ (fun x hx => by
      rcases List.mem_or_eq_of_mem_set hx with h1 | h1
      · exact hr x h1
      · rw [h1]; exact addM_in (hr _ hm) (getU_fits hc _).2.1) (by simp; omega)]
theorem tick_eq {c : GContent} (hc : Fits c) {l : List GActive} (hl : ∀ x ∈ l, InR x.Next) (now : Int) : tick15 c l now = tickR c l now := by
  unfold tick15 tickR copiedR
  rw [tick_go hc now _ _ _ _ hl (by omega)]
theorem dispel_go (c : GContent) {n : Int} (hn : InR n) : ∀ (l : List GActive) (k k' : Nat) (y g : List GActive), n - g.length ≥ -9223372036854775808 → (partD_L0 l k y g c (n - g.length)).1 = (dispelR_L0 c n l k' y g).1 ∧ (partD_L0 l k y g c (n - g.length)).2.1 = (dispelR_L0 c n l k' y g).2
  | [], k, k', y, g, _ => by rw [partD_L0, dispelR_L0]; exact ⟨rfl, rfl⟩
  | x :: l, k, k', y, g, hg => by
    unfold InR at hn
    have hn' : InR n := by unfold InR; exact hn
    rw [partD_L0, dispelR_L0]
    unfold dispelF
    rw [getUR_eq]
    by_cases h1 : (getU c x.Aura).2 = true
    · simp only [if_pos h1]
      by_cases h2 : (getU c x.Aura).1.Harm = true
      · simp only [if_pos h2]
        by_cases h3 : n - (g.length : Int) < 1
        · simp only [if_pos h3]
          rw [if_pos trivial, if_neg (show ¬ (g.length : Int) < n by omega)]
          exact dispel_go c hn' l (k + 1) (k' + 1) (y ++ [x]) g hg
        · simp only [if_neg h3]
          rw [if_neg (by decide), if_pos (show (g.length : Int) < n by omega)]
          have e : IntKind.i64.wrap (n - (g.length : Int) - 1) = n - ((g ++ [x]).length : Int) := by simp only [IntKind.wrap_i64, List.length_append, List.length_cons, List.length_nil]; omega
          rw [e]
          exact dispel_go c hn' l (k + 1) (k' + 1) y (g ++ [x]) (by simp only [List.length_append, List.length_cons, List.length_nil]; omega)
      · simp only [if_neg h2]
        rw [if_pos trivial]
        exact dispel_go c hn' l (k + 1) (k' + 1) (y ++ [x]) g hg
    · simp only [if_neg h1]
      rw [if_pos trivial]
      exact dispel_go c hn' l (k + 1) (k' + 1) (y ++ [x]) g hg
theorem dispel_eq (c : GContent) (l : List GActive) {n : Int} (hn : InR n) : dispel15 c l n = dispelR c l n := by
  have h := dispel_go c hn l 0 0 [] [] (by unfold InR at hn; simp; omega)
  have e : n - (([] : List GActive).length : Int) = n := by simp
  rw [e] at h
  unfold dispel15 partD dispelR
  exact Prod.ext h.1 h.2
theorem leftA_eq {a : GAura} {n : Int} (ha : InR a.Amount) (hn : InR n) : leftA a n = leftR a n := by
  unfold leftA leftR; rw [mul_same ha hn]
theorem getD_set_self {l : List GActive} {k : Nat} (h : k < l.length) (y : GActive) : (l.set k y).getD k default = y := by
  rw [List.getD_eq_getElem?_getD, List.getElem?_set_self h]; rfl
theorem apply_go {c : GContent} (hc : Fits c) {l : List GActive} (hl : ∀ x ∈ l, InR x.Stacks) {id source now : Int} (hn : InR now) : ∀ (n k : Nat), k + n = l.length → (∀ y ∈ l.take k, isSame y id source = false) →
    (applyR_L0 c l id source now n k = .inr () ∧ fidx (fun x_ => isSame x_ id source) l = -1) ∨ (∃ (i : Nat) (x : GActive), fidx (fun x_ => isSame x_ id source) l = i ∧ l[i]? = some x ∧ applyR_L0 c l id source now n k = .inl (l.set i (renewed x (getU c id).1 now), 0))
  | 0, k, hk, hp => by
    left
    refine ⟨by rw [applyR_L0], ?_⟩
    exact fidx_none hp (by omega)
  | n + 1, k, hk, hp => by
    have hlt : k < l.length := by omega
    obtain ⟨x, hx⟩ : ∃ z_, l[k]? = some z_ := ⟨_, List.getElem?_eq_getElem hlt⟩
    have hd : l.getD k default = x := by rw [List.getD_eq_getElem?_getD, hx]; rfl
    have hm : x ∈ l := List.mem_of_getElem? hx
    rw [applyR_L0]
    simp only [copiedR, hd, getUR_eq, getD_set_self hlt, List.set_set, getD_set_self (show k < (l.set k _).length by simpa using hlt)]
    have rec_ : isSame x id source = false → _ := fun h => apply_go hc hl hn n (k + 1) (by omega) (fun y hy => take_all_snoc hp hx h y hy)
    by_cases h1 : x.Aura = id
    · rw [if_pos h1]
      by_cases h2 : x.Source = source
      · rw [if_pos h2]
        right
        have hs : isSame x id source = true := by simp [isSame, h1, h2]
        refine ⟨k, x, fidx_found hp hx hs, hx, ?_⟩
        have f := getU_fits hc id
        have e1 : addR x.Stacks 1 = addM x.Stacks 1 := (add_same (hl x hm) (by unfold InR; omega)).symm
        have e2 : addR now (getU c id).1.Ticks = addM now (getU c id).1.Ticks := (add_same hn f.1).symm
        have e3 : InR (min (addM x.Stacks 1) (getU c id).1.Stacks) := by
          have := addM_in (hl x hm) (show InR 1 by unfold InR; omega)
          have := f.2.2.1
          unfold InR at *; omega
        rw [e1, e2, ← leftA_eq f.2.2.2 e3]
        rfl
      · rw [if_neg h2]; exact rec_ (by simp [isSame, h1, h2])
    · rw [if_neg h1]; exact rec_ (by simp [isSame, h1])
theorem apply_eq {c : GContent} (hc : Fits c) {l : List GActive} (hl : ∀ x ∈ l, InR x.Stacks) {id source now : Int} (hn : InR now) : apply15 c l id source now = applyR c l id source now := by
  unfold apply15 applyR
  rw [getUR_eq]
  by_cases h1 : (getU c id).2 = true
  · rw [if_pos h1, if_pos h1]
    rcases apply_go hc hl hn (id := id) (source := source) l.length 0 (by omega) (by simp) with ⟨e1, e2⟩ | ⟨i, x, e1, e2, e3⟩
    · rw [Nat.sub_zero, e1, e2]
      dsimp only
      rw [if_neg (by omega)]
      by_cases h2 : (l.length : Int) ≥ 16
      · rw [if_pos h2, if_pos h2]
      · rw [if_neg h2, if_neg h2]
        have f := getU_fits hc id
        have hid : (getU c id).1.Id = id := by
          rcases getU_cases c id with ⟨_, _, h⟩ | h
          · exact h
          · rw [h] at h1; cases h1
        have e3 : addR now (getU c id).1.Ticks = addM now (getU c id).1.Ticks := (add_same hn f.1).symm
        have e4 : addR now (getU c id).1.Every = addM now (getU c id).1.Every := (add_same hn f.2.1).symm
        rw [e3, e4, ← leftA_eq f.2.2.2 (show InR 1 by unfold InR; omega)]
        unfold first15 copiedR
        rw [hid]
        split <;> rfl
    · rw [Nat.sub_zero, e3, e1]
      dsimp only
      rw [if_pos (by omega)]
      have hd : l.getD ((i : Int).toNat) default = x := by rw [Int.toNat_natCast, List.getD_eq_getElem?_getD, e2]; rfl
      rw [hd, Int.toNat_natCast]
  · rw [if_neg h1, if_neg h1]
theorem right_go1 (l : List GActive) (x : GActive) : ∀ (n k : Nat), (rightR15_L1 l x n k = .inr () ∧ ∀ j, k ≤ j → j < k + n → ¬ ((l.getD j default).Aura = x.Aura ∧ (l.getD j default).Source = x.Source)) ∨ (rightR15_L1 l x n k = .inl false ∧ ∃ j, k ≤ j ∧ j < k + n ∧ (l.getD j default).Aura = x.Aura ∧ (l.getD j default).Source = x.Source)
  | 0, k => .inl ⟨by rw [rightR15_L1], fun j h1 h2 => by omega⟩
  | n + 1, k => by
    rw [rightR15_L1]
    have next : ¬ ((l.getD k default).Aura = x.Aura ∧ (l.getD k default).Source = x.Source) → ((rightR15_L1 l x n (k + 1) = .inr () ∧ ∀ j, k ≤ j → j < k + (n + 1) → ¬ ((l.getD j default).Aura = x.Aura ∧ (l.getD j default).Source = x.Source)) ∨ (rightR15_L1 l x n (k + 1) = .inl false ∧ ∃ j, k ≤ j ∧ j < k + (n + 1) ∧ (l.getD j default).Aura = x.Aura ∧ (l.getD j default).Source = x.Source)) := fun h => by
      rcases right_go1 l x n (k + 1) with ⟨a, b⟩ | ⟨a, j, b1, b2, b3⟩
      · refine .inl ⟨a, fun j h1 h2 => ?_⟩
        by_cases e : j = k
        · rw [e]; exact h
        · exact b j (by omega) (by omega)
      · exact .inr ⟨a, j, by omega, by omega, b3⟩
    by_cases h1 : (l.getD k default).Aura = x.Aura
    · rw [if_pos h1]
      by_cases h2 : (l.getD k default).Source = x.Source
      · rw [if_pos h2]; exact .inr ⟨rfl, k, by omega, by omega, h1, h2⟩
      · rw [if_neg h2]; exact next fun h => h2 h.2
    · rw [if_neg h1]; exact next fun h => h1 h.1
theorem right_go0 (c : GContent) (l : List GActive) : ∀ (r : List GActive) (k : Nat), r = l.drop k → right15_L0 c r k ((l.take k).map fun y => (y.Aura, y.Source)) = rightR15_L0 c l r k
  | [], k, _ => by rw [right15_L0, rightR15_L0]
  | x :: r, k, hr => by
    have hk : k < l.length := by
      have := congrArg List.length hr; simp at this; omega
    have hx : l[k]? = some x := by
      have := congrArg (·[0]?) hr; simpa using this.symm
    have hr2 : r = l.drop (k + 1) := by
      have := congrArg List.tail hr; simpa using this
    rw [right15_L0, rightR15_L0, getUR_eq, Nat.sub_zero]
    have hmem : (x.Aura, x.Source) ∈ ((l.take k).map fun y => (y.Aura, y.Source)) ↔ ∃ j, 0 ≤ j ∧ j < 0 + k ∧ (l.getD j default).Aura = x.Aura ∧ (l.getD j default).Source = x.Source := by
      rw [List.mem_map]
      constructor
      · rintro ⟨y, hy, e⟩
        obtain ⟨j, hj, rfl⟩ := List.mem_iff_getElem.1 hy
        rw [List.length_take] at hj
        refine ⟨j, by omega, by omega, ?_⟩
        rw [List.getElem_take] at e
        rw [List.getD_eq_getElem?_getD, List.getElem?_eq_getElem (by omega)]
        exact ⟨congrArg Prod.fst e, congrArg Prod.snd e⟩
      · rintro ⟨j, _, hj, e1, e2⟩
        rw [List.getD_eq_getElem?_getD, List.getElem?_eq_getElem (by omega)] at e1 e2
        refine ⟨l[j], List.mem_iff_getElem.2 ⟨j, by rw [List.length_take]; omega, List.getElem_take⟩, ?_⟩
        exact Prod.ext e1 e2
    have hnext : ((l.take k).map fun y => (y.Aura, y.Source)) ++ [(x.Aura, x.Source)] = (l.take (k + 1)).map fun y => (y.Aura, y.Source) := by
      rw [List.take_add_one, hx]; simp
    rw [hnext, right_go0 c l r (k + 1) hr2]
    have key : (if (x.Aura, x.Source) ∈ ((l.take k).map fun y => (y.Aura, y.Source)) then (Sum.inl false : Sum Bool Unit) else rightR15_L0 c l r (k + 1)) = (match rightR15_L1 l x k 0 with | .inl r_ => .inl r_ | .inr () => rightR15_L0 c l r (k + 1)) := by
      rcases right_go1 l x k 0 with ⟨a, b⟩ | ⟨a, j, b⟩
      · rw [a, if_neg (fun h => by obtain ⟨j, h1, h2, h3⟩ := hmem.1 h; exact b j h1 h2 h3)]
      · rw [a, if_pos (hmem.2 ⟨j, b⟩)]
    rw [key]
    rfl
theorem right_eq (c : GContent) (l : List GActive) : right15 c l = rightR15 c l := by
  unfold right15 rightR15
  rw [rightR9_eq, ← right_go0 c l l 0 (by simp)]
  rfl
theorem turns15_true {c : GContent} (hc : Fits c) {l : List GActive} (hl : ∀ x ∈ l, InR x.Stacks ∧ InR x.Next) {id source now : Int} (hi : InR id) (hn : InR now) : turns15 c l id source now = true := by
  unfold turns15 turns15_J69 turns15_J111
  rw [small15_true, apply_eq hc (fun x hx => (hl x hx).1) hn, expire_eq, tick_eq hc (fun x hx => (hl x hx).2), dispel_eq c l hi, right_eq]
  simp
theorem turns15_yes (c : GContent) (l : List GActive) (l_f : Bool) (id source now : Int) (hc : Fits c) (hl : ∀ x ∈ l, InR x.Stacks ∧ InR x.Next) (hi : InR id) (hn : InR now) : Ok Try.prog 3 [aGContent c, .pv (.slc l.length l_f (l.flatMap encGActive)), I id, I source, I now] [] (B true) [] [] := by
  have h := turns15_ok c l l_f id source now
  rwa [turns15_true hc hl hi hn] at h
end Go.Proofs.Ytcbdecknbfabaaa

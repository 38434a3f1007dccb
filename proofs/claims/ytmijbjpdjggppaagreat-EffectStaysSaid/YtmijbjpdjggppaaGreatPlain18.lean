import Derived.Test.YtmijbjpdjggppaaGreatLaw18
namespace Go.Proofs.YtmijbjpdjggppaaGreat
open Go Go.RowKit Go.Proofs.YtmijbjpdjggppaaGreatVm
attribute [local irreducible] opsWp AnswersE OpsS
set_option maxHeartbeats 400000
set_option maxRecDepth 100000
set_option linter.all false
theorem small18_true : small18 = true := by decide +kernel
theorem moreS_fine (n p : Int) : 0 ≤ moreS n p ∧ InR (moreS n p) := by
  unfold moreS partM InR
  rw [if_neg (by omega)]
  generalize (IntKind.i64.wrap (sideM n * sideM (addM 100 p))).tdiv 100 = q
  simp only [IntKind.wrap_i64]
  omega
theorem allS_two (n a b : Int) : allS n [a, b] = moreS (moreS n a) b := rfl
theorem allS_one (n a : Int) : allS n [a] = moreS n a := rfl
theorem take14_rest : ∀ (l : List GShield) (k : Nat) (left : List GShield) (gone : List Int) (n : Int), InR n → 0 ≤ n → 0 ≤ (take14_L0 l k left gone n).2.2 ∧ (take14_L0 l k left gone n).2.2 ≤ n
  | [], k, left, gone, n, hn, h0 => by rw [take14_L0]; exact ⟨h0, Int.le_refl _⟩
  | x :: l, k, left, gone, n, hn, h0 => by
    rw [take14_L0]
    have hk : 0 ≤ clampM n 0 (max x.Left 0) ∧ clampM n 0 (max x.Left 0) ≤ n := by unfold clampM; omega
    have e : IntKind.i64.wrap (n - clampM n 0 (max x.Left 0)) = n - clampM n 0 (max x.Left 0) := by unfold InR at hn; simp only [IntKind.wrap_i64]; omega
    rw [e]
    have hi : InR (n - clampM n 0 (max x.Left 0)) := by unfold InR at *; omega
    split
    · have h := take14_rest l (k + 1) left (gone ++ [x.Aura]) _ hi (by omega); omega
    · have h := take14_rest l (k + 1) (left ++ [⟨x.Aura, IntKind.i64.wrap (x.Left - clampM n 0 (max x.Left 0))⟩]) gone _ hi (by omega); omega
theorem take15_rest (c : GContent) (l : List GActive) {n : Int} (hn : InR n) (h0 : 0 ≤ n) : 0 ≤ (take15 c l n).2 ∧ (take15 c l n).2 ≤ n := by
  show 0 ≤ (take14 (ofTake c l 5 []) n).2.1 ∧ (take14 (ofTake c l 5 []) n).2.1 ≤ n
  unfold take14
  split
  · exact ⟨Int.le_refl _, h0⟩
  · exact take14_rest _ _ _ _ _ hn h0
theorem hurt_is {u : GUnit} {n : Int} (hr : Right u) : (hurtM u n).2 = clampM n 0 u.Health ∧ (hurtM u n).1 = { u with Health := u.Health - clampM n 0 u.Health, Casting := if u.Health - clampM n 0 u.Health < 1 then 0 else u.Casting } ∧ 0 ≤ clampM n 0 u.Health ∧ clampM n 0 u.Health ≤ u.Health := by
  have h := hr
  unfold Right at h
  have hc : 0 ≤ clampM n 0 u.Health ∧ clampM n 0 u.Health ≤ u.Health := by unfold clampM; omega
  have e : IntKind.i64.wrap (u.Health - clampM n 0 u.Health) = u.Health - clampM n 0 u.Health := by rw [IntKind.wrap_i64]; omega
  unfold hurtM
  rw [if_pos hr]
  simp only [e]
  exact ⟨trivial, trivial, hc⟩
/-- a unit that is right, and the same one -/
def SameU (u v : GUnit) : Prop := Right v ∧ v.Id = u.Id ∧ v.At = u.At
theorem hurt_keep {u : GUnit} (n : Int) (hr : Right u) : SameU u (hurtM u n).1 := by
  obtain ⟨_, e, h1, h2⟩ := hurt_is (n := n) hr
  rw [e]
  refine ⟨?_, rfl, rfl⟩
  unfold Right at hr ⊢; simp only; split <;> omega
theorem heal_keep {u : GUnit} (n : Int) (hr : Right u) : SameU u (healM u n).1 ∧ u.Health ≤ (healM u n).1.Health := by
  have h := hr
  unfold Right at h
  unfold healM
  split
  · have e0 : IntKind.i64.wrap (u.MaxHealth - u.Health) = u.MaxHealth - u.Health := by rw [IntKind.wrap_i64]; omega
    have hc : 0 ≤ clampM n 0 (u.MaxHealth - u.Health) ∧ clampM n 0 (u.MaxHealth - u.Health) ≤ u.MaxHealth - u.Health := by unfold clampM; omega
    have e : IntKind.i64.wrap (u.Health + clampM n 0 (u.MaxHealth - u.Health)) = u.Health + clampM n 0 (u.MaxHealth - u.Health) := by rw [IntKind.wrap_i64]; omega
    simp only [e0, e]
    refine ⟨⟨?_, rfl, rfl⟩, by omega⟩
    unfold Right; simp only; omega
  · exact ⟨⟨hr, rfl, rfl⟩, Int.le_refl _⟩
theorem gain_keep {u : GUnit} (n : Int) (hr : Right u) : SameU u (gainM u n).1 ∧ (gainM u n).1.Health = u.Health := by
  have h := hr
  unfold Right at h
  unfold gainM
  split
  · have e0 : IntKind.i64.wrap (u.MaxPower - u.Power) = u.MaxPower - u.Power := by rw [IntKind.wrap_i64]; omega
    have hc : 0 ≤ clampM n 0 (u.MaxPower - u.Power) ∧ clampM n 0 (u.MaxPower - u.Power) ≤ u.MaxPower - u.Power := by unfold clampM; omega
    have e : IntKind.i64.wrap (u.Power + clampM n 0 (u.MaxPower - u.Power)) = u.Power + clampM n 0 (u.MaxPower - u.Power) := by rw [IntKind.wrap_i64]; omega
    simp only [e0, e]
    refine ⟨⟨?_, rfl, rfl⟩, trivial⟩
    unfold Right; simp only; omega
  · exact ⟨⟨hr, rfl, rfl⟩, rfl⟩
/-- what effects and ticks keep -/
structure Good18 (c : GContent) (u : GActor) (x : Gactor) : Prop where
  co : x.content = c
  un : SameU u.Unit x.Actor.Unit
  na : x.Actor.Name = u.Name
  row : Row15 c x.Actor.Auras
  lef : Left15 x.Actor.Auras
theorem SameU.trans {u v w : GUnit} (h : SameU u v) (h' : SameU v w) : SameU u w := ⟨h'.1, h'.2.1.trans h.2.1, h'.2.2.trans h.2.2⟩
theorem hit_good {c : GContent} {u : GActor} {x : Gactor} (h : Good18 c u x) (n : Int) (l : List Int) : Good18 c u (hitX x n l).2 := by
  have hx := h.co
  subst hx
  exact ⟨rfl, h.un.trans (hurt_keep _ h.un.1), h.na, (row_take h.row h.lef _).1, (row_take h.row h.lef _).2⟩
theorem cureN_good {c : GContent} {u : GActor} {x : Gactor} (h : Good18 c u x) (n : Int) (l : List Int) : Good18 c u (cureN x n l).2 := ⟨h.co, h.un.trans (heal_keep _ h.un.1).1, h.na, h.row, h.lef⟩
theorem tick_good {c : GContent} {u : GActor} {x : Gactor} (h : Good18 c u x) (a : GAura) (n : Int) : Good18 c u (tickX x a n).2.2 := by
  unfold tickX
  split
  · exact hit_good h _ _
  · split
    · exact cureN_good h _ _
    · exact h
theorem ticks_good {c : GContent} {u : GActor} : ∀ (l : List GActive) (k : Nat) (out : List GBlow) (x : Gactor), Good18 c u x → Good18 c u (tickE_L0 c l k out x).2
  | [], k, out, x, h => by rw [tickE_L0]; exact h
  | y :: l, k, out, x, h => by
    rw [tickE_L0]
    split
    · exact h
    · split <;> exact ticks_good l _ _ _ (tick_good h _ _)
theorem row_keys {c : GContent} {l r : List GActive} (hl : r.length = l.length) (hk : ∀ i : Nat, (r.getD i default).Aura = (l.getD i default).Aura ∧ (r.getD i default).Source = (l.getD i default).Source ∧ (r.getD i default).Stacks = (l.getD i default).Stacks ∧ (r.getD i default).Left = (l.getD i default).Left) (h : Row15 c l) (hf : Left15 l) : Row15 c r ∧ Left15 r := by
  have hm : ∀ x ∈ r, ∃ y ∈ l, x.Aura = y.Aura ∧ x.Source = y.Source ∧ x.Stacks = y.Stacks ∧ x.Left = y.Left := fun x hx => by
    obtain ⟨i, hi, e⟩ := List.mem_iff_getElem.1 hx
    have := hk i
    rw [List.getD_eq_getElem?_getD, List.getElem?_eq_getElem hi, Option.getD_some, e, List.getD_eq_getElem?_getD, List.getElem?_eq_getElem (by omega : i < l.length), Option.getD_some] at this
    exact ⟨_, List.getElem_mem (by omega), this⟩
  refine ⟨⟨by rw [hl]; exact h.len, fun x hx => ?_, ?_⟩, fun x hx => ?_⟩
  · obtain ⟨y, hy, e1, _, e3, e4⟩ := hm x hx
    rw [e1, e3, e4]; exact h.each y hy
  · have : r.map (fun x => (x.Aura, x.Source)) = l.map fun x => (x.Aura, x.Source) := by
      apply List.ext_getElem?
      intro i
      rw [List.getElem?_map, List.getElem?_map]
      by_cases hi : i < l.length
      · have := hk i
        rw [List.getD_eq_getElem?_getD, List.getElem?_eq_getElem (by omega : i < r.length), Option.getD_some, List.getD_eq_getElem?_getD, List.getElem?_eq_getElem hi, Option.getD_some] at this
        rw [List.getElem?_eq_getElem (by omega : i < r.length), List.getElem?_eq_getElem hi]
        simp [this.1, this.2.1]
      · rw [List.getElem?_eq_none (by omega), List.getElem?_eq_none (by omega)]
    rw [this]; exact h.one
  · obtain ⟨y, hy, _, _, _, e4⟩ := hm x hx
    rw [e4]; exact hf y hy
theorem tick15_keys (c : GContent) (now : Int) : ∀ (n k : Nat) (r d : List GActive) (i : Nat), ((tick15_L0 c now n k r d).1.getD i default).Aura = (r.getD i default).Aura ∧ ((tick15_L0 c now n k r d).1.getD i default).Source = (r.getD i default).Source ∧ ((tick15_L0 c now n k r d).1.getD i default).Stacks = (r.getD i default).Stacks ∧ ((tick15_L0 c now n k r d).1.getD i default).Left = (r.getD i default).Left
  | 0, k, r, d, i => by rw [tick15_L0]; exact ⟨rfl, rfl, rfl, rfl⟩
  | n + 1, k, r, d, i => by
    rw [tick15_L0]
    have h := tick15_keys c now n (k + 1)
    have hs : ∀ v : Int, ((r.set k { (r.getD k default) with Next := v }).getD i default).Aura = (r.getD i default).Aura ∧ ((r.set k { (r.getD k default) with Next := v }).getD i default).Source = (r.getD i default).Source ∧ ((r.set k { (r.getD k default) with Next := v }).getD i default).Stacks = (r.getD i default).Stacks ∧ ((r.set k { (r.getD k default) with Next := v }).getD i default).Left = (r.getD i default).Left := fun v => by
      by_cases e : k = i
      · subst e
        by_cases hk : k < r.length
        · simp only [List.getD_eq_getElem?_getD, List.getElem?_set_self hk, Option.getD_some, and_self]
        · rw [List.set_eq_of_length_le (by omega)]; exact ⟨rfl, rfl, rfl, rfl⟩
      · simp only [List.getD_eq_getElem?_getD, List.getElem?_set_ne e, and_self]
    repeat' split
    · obtain ⟨a1, a2, a3, a4⟩ := h (r.set k { (r.getD k default) with Next := addM (r.getD k default).Next (getU c (r.getD k default).Aura).1.Every }) (d ++ [r.getD k default]) i
      obtain ⟨b1, b2, b3, b4⟩ := hs (addM (r.getD k default).Next (getU c (r.getD k default).Aura).1.Every)
      exact ⟨a1.trans b1, a2.trans b2, a3.trans b3, a4.trans b4⟩
    all_goals exact h _ _ _
theorem tickE_good {c : GContent} {to : GActor} (now : Int) (hu : Right to.Unit) (h : Row15 c to.Auras) (hf : Left15 to.Auras) : Good18 c to ⟨(tickE c to now).1, c⟩ := by
  unfold tickE
  rw [ofX_is]
  split
  · obtain ⟨r1, r2⟩ := row_keys (tick15_len c to.Auras now).1 (fun i => tick15_keys c now _ _ _ _ i) h hf
    have g := ticks_good (c := c) (u := to) (tick15 c to.Auras now).2 0 [] ⟨⟨to.Unit, to.Name, (tick15 c to.Auras now).1, to.Cools, to.Casting⟩, c⟩ ⟨rfl, ⟨hu, rfl, rfl⟩, rfl, r1, r2⟩
    split
    rename_i out x hx
    simp only [hx] at g
    rw [expire15_is]
    exact ⟨rfl, g.un, g.na, row_sub List.filter_sublist g.row, fun y hy => g.lef y (List.mem_filter.1 hy).1⟩
  · exact ⟨rfl, ⟨hu, rfl, rfl⟩, rfl, h, hf⟩
theorem dispel_sub : ∀ (l : List GActive) (k : Nat) (y n : List GActive) (c : GContent) (m : Int), ∃ z, (partD_L0 l k y n c m).1 = y ++ z ∧ z.Sublist l
  | [], k, y, n, c, m => ⟨[], by rw [partD_L0]; simp, List.Sublist.refl _⟩
  | x :: l, k, y, n, c, m => by
    rw [partD_L0]
    split
    · obtain ⟨z, e, hz⟩ := dispel_sub l (k + 1) (y ++ [x]) n (dispelF x c m).2.1 (dispelF x c m).2.2
      exact ⟨x :: z, by rw [e]; simp, hz.cons₂ x⟩
    · obtain ⟨z, e, hz⟩ := dispel_sub l (k + 1) y (n ++ [x]) (dispelF x c m).2.1 (dispelF x c m).2.2
      exact ⟨z, e, hz.cons x⟩
theorem dispel15_sub (c : GContent) (l : List GActive) (n : Int) : (dispel15 c l n).1.Sublist l := by
  obtain ⟨z, e, hz⟩ := dispel_sub l 0 [] [] c n
  have : (dispel15 c l n).1 = z := by simpa [dispel15, partD] using e
  rw [this]; exact hz
/-- what an effect does -/
structure Did (c : GContent) (to : GActor) (e : GEffect) (x : GActor) (b : GBlow) : Prop where
  good : Good18 c to ⟨x, c⟩
  more : e.Kind ≠ 1 → to.Unit.Health ≤ x.Unit.Health
  hurt : e.Kind = 1 → 0 ≤ b.Kept ∧ 0 ≤ b.Done ∧ b.Kept + b.Done ≤ b.Amount ∧ InR b.Amount ∧ x.Unit.Health = to.Unit.Health - b.Done ∧ (b.Kept + b.Done < b.Amount → x.Unit.Health ≤ 0)
theorem doX_did {c : GContent} (hr : right9 c = true) (from_ : GActor) {to : GActor} (e : GEffect) (now : Int) (hu : Right to.Unit) (h : Row15 c to.Auras) (hf : Left15 to.Auras) : Did c to e (doX c from_ to e now).1 (doX c from_ to e now).2 := by
  have h0 : Good18 c to ⟨to, c⟩ := ⟨rfl, ⟨hu, rfl, rfl⟩, rfl, h, hf⟩
  unfold doX doX_J22
  rw [ofX_is]
  split
  rename_i x b hx
  split at hx
  · rename_i h1
    split at hx
    · rename_i hk
      cases hx
      have hA := moreS_fine (moreS e.Amount (sum15 c from_.Auras 3)) (sum15 c to.Auras 4)
      have hT := take15_rest c to.Auras hA.2 hA.1
      have hH := hurt_is (n := (take15 c to.Auras (moreS (moreS e.Amount (sum15 c from_.Auras 3)) (sum15 c to.Auras 4))).2) hu
      have hI := hA.2
      unfold InR at hI
      refine ⟨?_, fun hn => absurd hk hn, fun _ => ?_⟩
      · have g := hit_good h0 e.Amount [sum15 c from_.Auras 3, sum15 c to.Auras 4]
        exact ⟨rfl, g.un, g.na, g.row, g.lef⟩
      · have e1 : IntKind.i64.wrap (moreS (moreS e.Amount (sum15 c from_.Auras 3)) (sum15 c to.Auras 4) - (take15 c to.Auras (moreS (moreS e.Amount (sum15 c from_.Auras 3)) (sum15 c to.Auras 4))).2) = moreS (moreS e.Amount (sum15 c from_.Auras 3)) (sum15 c to.Auras 4) - (take15 c to.Auras (moreS (moreS e.Amount (sum15 c from_.Auras 3)) (sum15 c to.Auras 4))).2 := by simp only [IntKind.wrap_i64]; omega
        show 0 ≤ IntKind.i64.wrap (moreS (moreS e.Amount (sum15 c from_.Auras 3)) (sum15 c to.Auras 4) - (take15 c to.Auras (moreS (moreS e.Amount (sum15 c from_.Auras 3)) (sum15 c to.Auras 4))).2) ∧ 0 ≤ (hurtM to.Unit (take15 c to.Auras (moreS (moreS e.Amount (sum15 c from_.Auras 3)) (sum15 c to.Auras 4))).2).2 ∧ IntKind.i64.wrap (moreS (moreS e.Amount (sum15 c from_.Auras 3)) (sum15 c to.Auras 4) - (take15 c to.Auras (moreS (moreS e.Amount (sum15 c from_.Auras 3)) (sum15 c to.Auras 4))).2) + (hurtM to.Unit (take15 c to.Auras (moreS (moreS e.Amount (sum15 c from_.Auras 3)) (sum15 c to.Auras 4))).2).2 ≤ moreS (moreS e.Amount (sum15 c from_.Auras 3)) (sum15 c to.Auras 4) ∧ InR (moreS (moreS e.Amount (sum15 c from_.Auras 3)) (sum15 c to.Auras 4)) ∧ (hurtM to.Unit (take15 c to.Auras (moreS (moreS e.Amount (sum15 c from_.Auras 3)) (sum15 c to.Auras 4))).2).1.Health = to.Unit.Health - (hurtM to.Unit (take15 c to.Auras (moreS (moreS e.Amount (sum15 c from_.Auras 3)) (sum15 c to.Auras 4))).2).2 ∧ (IntKind.i64.wrap (moreS (moreS e.Amount (sum15 c from_.Auras 3)) (sum15 c to.Auras 4) - (take15 c to.Auras (moreS (moreS e.Amount (sum15 c from_.Auras 3)) (sum15 c to.Auras 4))).2) + (hurtM to.Unit (take15 c to.Auras (moreS (moreS e.Amount (sum15 c from_.Auras 3)) (sum15 c to.Auras 4))).2).2 < moreS (moreS e.Amount (sum15 c from_.Auras 3)) (sum15 c to.Auras 4) → (hurtM to.Unit (take15 c to.Auras (moreS (moreS e.Amount (sum15 c from_.Auras 3)) (sum15 c to.Auras 4))).2).1.Health ≤ 0)
        rw [e1, hH.1, hH.2.1]
        generalize moreS (moreS e.Amount (sum15 c from_.Auras 3)) (sum15 c to.Auras 4) = A at *
        generalize (take15 c to.Auras A).2 = r at *
        have hu' := hu
        unfold Right at hu'
        have hk2 : clampM r 0 to.Unit.Health = min r to.Unit.Health := by unfold clampM; omega
        rw [hk2]
        exact ⟨by omega, by omega, by omega, hA.2, rfl, fun hlt => by show to.Unit.Health - min r to.Unit.Health ≤ 0; omega⟩
    · rename_i hk
      have hno : ¬ e.Kind = 1 := hk
      repeat' split at hx
      · cases hx
        refine ⟨⟨rfl, (heal_keep _ hu).1, rfl, h, hf⟩, fun _ => (heal_keep _ hu).2, fun k => absurd k hno⟩
      · cases hx
        refine ⟨⟨rfl, (gain_keep _ hu).1, rfl, h, hf⟩, fun _ => Int.le_of_eq (gain_keep _ hu).2.symm, fun k => absurd k hno⟩
      · cases hx
        have hl : Good18 c to (layD ⟨from_, now⟩ ⟨to, c⟩ e).2 ∧ (layD ⟨from_, now⟩ ⟨to, c⟩ e).2.Actor.Unit = to.Unit := by
          rw [layD_is]
          unfold layD_J14
          simp only
          split
          · rename_i h9
            rcases row_apply hr h hf e.Aura from_.Unit.Id now with ⟨_, z⟩ | ⟨_, ⟨_, r1, r2, _⟩ | ⟨z, _⟩⟩
            · rw [z] at h9; cases h9
            · exact ⟨⟨rfl, ⟨hu, rfl, rfl⟩, rfl, r1, r2⟩, rfl⟩
            · rw [z] at h9; cases h9
          · exact ⟨h0, rfl⟩
        exact ⟨⟨rfl, hl.1.un, hl.1.na, hl.1.row, hl.1.lef⟩, fun _ => by show to.Unit.Health ≤ (layD ⟨from_, now⟩ ⟨to, c⟩ e).2.Actor.Unit.Health; rw [hl.2]; exact Int.le_refl _, fun k => absurd k hno⟩
      · cases hx
        exact ⟨⟨rfl, ⟨hu, rfl, rfl⟩, rfl, row_sub (dispel15_sub _ _ _) h, fun y hy => hf y ((dispel15_sub _ _ _).subset hy)⟩, fun _ => Int.le_refl _, fun k => absurd k hno⟩
      · cases hx
        exact ⟨⟨rfl, ⟨hu, rfl, rfl⟩, rfl, h, hf⟩, fun _ => Int.le_refl _, fun k => absurd k hno⟩
  · cases hx
    exact ⟨⟨rfl, ⟨hu, rfl, rfl⟩, rfl, h, hf⟩, fun _ => Int.le_refl _, fun _ => ⟨Int.le_refl _, Int.le_refl _, Int.le_refl _, (by show InR 0; unfold InR; decide), by simp, fun k => absurd k (by simp)⟩⟩
theorem J84_ok {c : GContent} (hr : right9 c = true) (from_ : GActor) {to : GActor} (e : GEffect) (now : Int) (hu : Right to.Unit) (h : Row15 c to.Auras) (hf : Left15 to.Auras) : stays18_J84 c from_ now to e = .inr () := by
  have d := doX_did hr from_ e now hu h hf
  have hx := d.good.un.1
  unfold Right at hx hu
  simp only at hx
  unfold stays18_J84
  by_cases hk : e.Kind = 1
  · obtain ⟨a1, a2, a3, a4, a5, a6⟩ := d.hurt hk
    unfold InR at a4
    rw [if_pos hk, if_neg (by omega), if_neg (by omega)]
    have e1 : IntKind.i64.wrap (IntKind.i64.wrap ((doX c from_ to e now).2.Amount - (doX c from_ to e now).2.Kept) - (doX c from_ to e now).2.Done) = (doX c from_ to e now).2.Amount - (doX c from_ to e now).2.Kept - (doX c from_ to e now).2.Done := by simp only [IntKind.wrap_i64]; omega
    have e2 : IntKind.i64.wrap (to.Unit.Health - (doX c from_ to e now).1.Unit.Health) = (doX c from_ to e now).2.Done := by simp only [IntKind.wrap_i64]; omega
    rw [e1, e2, if_neg (by omega), if_pos rfl]
    by_cases hb : (doX c from_ to e now).2.Amount - (doX c from_ to e now).2.Kept - (doX c from_ to e now).2.Done > 0
    · rw [if_pos hb, if_neg (by have := a6 (by omega); omega), if_pos hk]
    · rw [if_neg hb, if_pos hk]
  · rw [if_neg hk, if_neg hk, if_neg (by have := d.more hk; omega)]
theorem stays18_go {c : GContent} (hr : right9 c = true) (from_ : GActor) (now : Int) : ∀ (l : List GEffect) (k : Nat) (to : GActor), Right to.Unit → Row15 c to.Auras → Left15 to.Auras → stays18_L0 c from_ now l k to = .inr ()
  | [], k, to, _, _, _ => by rw [stays18_L0]
  | e :: l, k, to, hu, h, hf => by
    have d := (doX_did hr from_ e now hu h hf).good
    have t := tickE_good now d.un.1 d.row d.lef
    have at' : (tickE c (doX c from_ to e now).1 now).1.Unit.At = to.Unit.At := t.un.2.2.trans d.un.2.2
    rw [stays18_L0, J84_ok hr from_ e now hu h hf]
    dsimp only
    rw [if_pos d.un.1, if_pos ((right15_iff _ _).2 ⟨hr, d.row⟩), if_pos t.un.1, if_pos ((right15_iff _ _).2 ⟨hr, t.row⟩), if_pos d.un.2.1, if_pos d.na, at', if_pos (by simp)]
    exact stays18_go hr from_ now l (k + 1) _ t.un.1 t.row t.lef
theorem stays18_true (c : GContent) (from_ to : GActor) (l : List GEffect) (now : Int) (hf : Left15 to.Auras) : stays18 c from_ to l now = true := by
  unfold stays18
  rw [small18_true]
  dsimp only
  split
  case isFalse => rfl
  split
  case isTrue => rfl
  split
  case isFalse => rfl
  rename_i hu
  split
  case isFalse => rfl
  rename_i h3
  obtain ⟨hr, h⟩ := (right15_iff c _).1 h3
  rw [stays18_go hr from_ now l 0 to hu h hf]
theorem stays18_yes (c : GContent) (from_ to : GActor) (l : List GEffect) (l_f : Bool) (now : Int) (hf : Left15 to.Auras) : Ok Tryz.prog 3 [aGContent c, aGActor from_, aGActor to, .pv (.slc l.length l_f (l.flatMap encGEffect)), I now] [] (B true) [] [] := by
  have h := stays18_ok c from_ to l l_f now
  rwa [stays18_true c from_ to l now hf] at h

end Go.Proofs.YtmijbjpdjggppaaGreat

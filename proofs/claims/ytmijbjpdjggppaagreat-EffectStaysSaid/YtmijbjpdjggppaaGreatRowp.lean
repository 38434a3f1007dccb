import Derived.Test.YtmijbjpdjggppaaGreatRows
import Derived.Test.YtmijbjpdjggppaaGreatVmZ
import Derived.Test.YtmijbjpdjggppaaGreatFits15
import Derived.WalkKit
namespace Go.Proofs.YtmijbjpdjggppaaGreat
open Go Go.RowKit Go.Proofs.YtmijbjpdjggppaaGreatVm
set_option linter.all false
set_option maxHeartbeats 400000
/-- a row that is right, beside its content -/
structure Row15 (c : GContent) (l : List GActive) : Prop where
  len : l.length ≤ 16
  each : ∀ x ∈ l, (getU c x.Aura).2 = true ∧ (1 ≤ x.Stacks ∧ x.Stacks ≤ (getU c x.Aura).1.Stacks) ∧ 0 ≤ x.Left
  one : (l.map fun x => (x.Aura, x.Source)).Nodup
theorem right15_go (c : GContent) : ∀ (l : List GActive) (k : Nat) (had : List (Int × Int)),
    (right15_L0 c l k had = .inr () ∧ (∀ x ∈ l, (getU c x.Aura).2 = true ∧ (1 ≤ x.Stacks ∧ x.Stacks ≤ (getU c x.Aura).1.Stacks) ∧ 0 ≤ x.Left) ∧ (l.map fun x => (x.Aura, x.Source)).Nodup ∧ ∀ x ∈ l, (x.Aura, x.Source) ∉ had) ∨
    (right15_L0 c l k had = .inl false ∧ ¬ ((∀ x ∈ l, (getU c x.Aura).2 = true ∧ (1 ≤ x.Stacks ∧ x.Stacks ≤ (getU c x.Aura).1.Stacks) ∧ 0 ≤ x.Left) ∧ (l.map fun x => (x.Aura, x.Source)).Nodup ∧ ∀ x ∈ l, (x.Aura, x.Source) ∉ had))
  | [], k, had => by rw [right15_L0]; left; simp
  | x :: l, k, had => by
    rw [right15_L0]
    by_cases h1 : (getU c x.Aura).2 = true
    case neg => rw [if_neg h1]; exact .inr ⟨rfl, fun h => h1 (h.1 x (List.mem_cons_self ..)).1⟩
    by_cases h2 : x.Stacks < 1
    case pos => rw [if_pos h1, if_pos h2]; exact .inr ⟨rfl, fun h => by have := (h.1 x (List.mem_cons_self ..)).2.1.1; omega⟩
    by_cases h3 : x.Stacks > (getU c x.Aura).1.Stacks
    case pos => rw [if_pos h1, if_neg h2, if_pos h3]; exact .inr ⟨rfl, fun h => by have := (h.1 x (List.mem_cons_self ..)).2.1.2; omega⟩
    by_cases h4 : x.Left < 0
    case pos => rw [if_pos h1, if_neg h2, if_neg h3, if_pos h4]; exact .inr ⟨rfl, fun h => by have := (h.1 x (List.mem_cons_self ..)).2.2; omega⟩
    by_cases h5 : (x.Aura, x.Source) ∈ had
    case pos => rw [if_pos h1, if_neg h2, if_neg h3, if_neg h4, if_pos h5]; exact .inr ⟨rfl, fun h => h.2.2 x (List.mem_cons_self ..) h5⟩
    rw [if_pos h1, if_neg h2, if_neg h3, if_neg h4, if_neg h5]
    rcases right15_go c l (k + 1) (had ++ [(x.Aura, x.Source)]) with ⟨e, a, b, d⟩ | ⟨e, f⟩
    · left
      refine ⟨e, fun y hy => ?_, ?_, fun y hy => ?_⟩
      · rcases List.mem_cons.1 hy with rfl | hy
        · exact ⟨h1, ⟨by omega, by omega⟩, by omega⟩
        · exact a y hy
      · rw [List.map_cons, List.nodup_cons]
        refine ⟨fun hm => ?_, b⟩
        obtain ⟨y, hy, ey⟩ := List.mem_map.1 hm
        exact d y hy (by rw [ey]; simp)
      · rcases List.mem_cons.1 hy with rfl | hy
        · exact h5
        · exact fun hm => d y hy (List.mem_append_left _ hm)
    · right
      refine ⟨e, fun ⟨a, b, d⟩ => f ⟨fun y hy => a y (List.mem_cons_of_mem _ hy), ?_, fun y hy hm => ?_⟩⟩
      · rw [List.map_cons, List.nodup_cons] at b; exact b.2
      · rw [List.map_cons, List.nodup_cons] at b
        rcases List.mem_append.1 hm with hm | hm
        · exact d y (List.mem_cons_of_mem _ hy) hm
        · rw [← List.mem_singleton.1 hm] at b; exact b.1 (List.mem_map.2 ⟨y, hy, rfl⟩)
theorem right15_iff (c : GContent) (l : List GActive) : right15 c l = true ↔ right9 c = true ∧ Row15 c l := by
  unfold right15
  by_cases h1 : right9 c = true
  case neg => rw [if_neg h1]; exact ⟨(fun h => by cases h), fun h => absurd h.1 h1⟩
  rw [if_pos h1]
  by_cases h2 : (l.length : Int) > 16
  case pos => rw [if_pos h2]; exact ⟨(fun h => by cases h), fun h => by have := h.2.len; omega⟩
  rw [if_neg h2]
  rcases right15_go c l 0 [] with ⟨e, a, b, d⟩ | ⟨e, f⟩
  · rw [e]; exact ⟨fun _ => ⟨h1, by omega, a, b⟩, fun _ => rfl⟩
  · rw [e]; exact ⟨(fun h => by cases h), fun h => absurd ⟨h.2.each, h.2.one, fun _ _ => by simp⟩ f⟩
def Left15 (l : List GActive) : Prop := ∀ x ∈ l, InR x.Left
theorem getU_at {c : GContent} (h : right9 c = true) {x : GAura} (hx : x ∈ c.Auras) : getU c x.Id = (x, true) := by
  rcases getU_cases c x.Id with ⟨h1, h2, h3⟩ | h1
  · exact Prod.ext (Good.one ((right_iff c).1 h).au _ h2 x hx h3) h1
  · unfold getU findU at h1
    rcases fidx_cases (fun x_ => isU x_ x.Id) c.Auras with ⟨_, h3⟩ | ⟨k, y, h2, h3, h4, _⟩
    · have := h3 x hx; simp [isU, idU] at this
    · rw [h2, if_neg (by omega)] at h1
      simp at h1
theorem getU_right {c : GContent} (h : right9 c = true) {id : Int} (hi : (getU c id).2 = true) : aura9 (getU c id).1 = true ∧ (getU c id).1.Id = id := by
  rcases getU_cases c id with ⟨_, h2, h3⟩ | h1
  · exact ⟨(Good.mem ((right_iff c).1 h).au _ h2).2, h3⟩
  · rw [h1] at hi; cases hi
theorem leftA_fine {a : GAura} (h : aura9 a = true) {n : Int} (h0 : 0 ≤ n) (h1 : n ≤ 100) : 0 ≤ leftA a n ∧ InR (leftA a n) := by
  have f := (aura_facts h).2.2
  unfold leftA
  split
  · rename_i hk
    have g := f hk
    have hp := Int.mul_nonneg g.1 h0
    rw [mul1_eq (by unfold InR; omega) (by unfold InR; omega)]
    unfold InR; omega
  · unfold InR; omega
theorem renewed_row {x : GActive} {a : GAura} {now : Int} (h : aura9 a = true) (h1 : 1 ≤ x.Stacks) (h2 : x.Stacks ≤ a.Stacks) :
    (renewed x a now).Aura = x.Aura ∧ (renewed x a now).Source = x.Source ∧ (renewed x a now).Stacks = min (x.Stacks + 1) a.Stacks ∧ 0 ≤ (renewed x a now).Left ∧ InR (renewed x a now).Left := by
  have f := aura_facts h
  have e : addM x.Stacks 1 = x.Stacks + 1 := by rw [addM_eq (by unfold InR; omega) (by unfold InR; omega)]; omega
  have e3 := leftA_fine h (n := min (x.Stacks + 1) a.Stacks) (by omega) (by omega)
  unfold renewed
  rw [e]
  exact ⟨rfl, rfl, rfl, e3.1, e3.2⟩
theorem first_row {a : GAura} {source now : Int} (h : aura9 a = true) :
    (first15 a source now).Aura = a.Id ∧ (first15 a source now).Source = source ∧ (first15 a source now).Stacks = 1 ∧ 0 ≤ (first15 a source now).Left ∧ InR (first15 a source now).Left := by
  have e3 := leftA_fine h (n := 1) (by omega) (by omega)
  unfold first15
  split <;> exact ⟨rfl, rfl, rfl, e3.1, e3.2⟩
theorem isSame_iff {x : GActive} {id source : Int} : isSame x id source = true ↔ x.Aura = id ∧ x.Source = source := by
  unfold isSame; split <;> simp_all
theorem row_apply {c : GContent} (hr : right9 c = true) {l : List GActive} (h : Row15 c l) (hf : Left15 l) (id source now : Int) :
    ((getU c id).2 = false ∧ (apply15 c l id source now).2 = 5) ∨ ((getU c id).2 = true ∧ (((apply15 c l id source now).2 = 0 ∧ Row15 c (apply15 c l id source now).1 ∧ Left15 (apply15 c l id source now).1 ∧ ((apply15 c l id source now).1.length = l.length ∨ (apply15 c l id source now).1.length = l.length + 1)) ∨ ((apply15 c l id source now).2 = 4 ∧ ¬ (l.length : Int) < 16))) := by
  unfold apply15
  by_cases h1 : (getU c id).2 = true
  case neg => rw [if_neg h1]; exact .inl ⟨by simpa using h1, rfl⟩
  obtain ⟨g1, g2⟩ := getU_right hr h1
  right
  refine ⟨h1, ?_⟩
  rw [if_pos h1]
  rcases fidx_cases (fun x_ => isSame x_ id source) l with ⟨e, hno⟩ | ⟨k, x, e, hk, hx, _⟩
  · rw [e, if_neg (by omega)]
    by_cases h2 : (l.length : Int) ≥ 16
    · rw [if_pos h2]; exact .inr ⟨rfl, by omega⟩
    · rw [if_neg h2]
      have f := first_row (source := source) (now := now) g1
      have s := (aura_facts g1).2.1
      left
      refine ⟨rfl, ⟨?_, fun y hy => ?_, ?_⟩, fun y hy => ?_, .inr (by simp)⟩
      · simp only [List.length_append, List.length_cons, List.length_nil]; omega
      · rcases List.mem_append.1 hy with hy | hy
        · exact h.each y hy
        · rw [List.mem_singleton.1 hy, f.1, g2, f.2.2.1]
          exact ⟨h1, ⟨by omega, by omega⟩, f.2.2.2.1⟩
      · rw [List.map_append, List.nodup_append]
        refine ⟨h.one, by simp, fun a ha b hb e => ?_⟩
        simp only [List.map_cons, List.map_nil, List.mem_singleton] at hb
        obtain ⟨y, hy, ey⟩ := List.mem_map.1 ha
        have := hno y hy
        rw [hb] at e
        rw [e, f.1, f.2.1, g2, Prod.mk.injEq] at ey
        rw [isSame_iff.2 ey] at this; cases this
      · rcases List.mem_append.1 hy with hy | hy
        · exact hf y hy
        · rw [List.mem_singleton.1 hy]; exact f.2.2.2.2
  · rw [e, if_pos (by omega), Int.toNat_natCast, List.getD_eq_getElem?_getD, hk, Option.getD_some]
    obtain ⟨xa, xs⟩ := isSame_iff.1 hx
    have hm := List.mem_of_getElem? hk
    have p := h.each x hm
    rw [xa] at p
    have f := renewed_row (now := now) g1 p.2.1.1 p.2.1.2
    have s := (aura_facts g1).2.1
    left
    refine ⟨rfl, ⟨by simpa using h.len, fun y hy => ?_, ?_⟩, fun y hy => ?_, .inl (by simp)⟩
    · rcases List.mem_or_eq_of_mem_set hy with hy | rfl
      · exact h.each y hy
      · rw [f.1, xa, f.2.2.1]
        exact ⟨h1, ⟨by omega, by omega⟩, f.2.2.2.1⟩
    · rw [List.map_set, f.1, f.2.1]
      have hk' := (List.getElem?_eq_some_iff.1 hk)
      have : (l.map fun x => (x.Aura, x.Source)).set k (x.Aura, x.Source) = l.map fun x => (x.Aura, x.Source) := by
        apply List.ext_getElem? 
        intro i
        by_cases hi : k = i
        · subst hi
          rw [List.getElem?_set_self (by simpa using hk'.1), List.getElem?_map, hk]; rfl
        · rw [List.getElem?_set_ne hi]
      rw [this]; exact h.one
    · rcases List.mem_or_eq_of_mem_set hy with hy | rfl
      · exact hf y hy
      · exact f.2.2.2.2
theorem row_sub {c : GContent} {l r : List GActive} (hs : r.Sublist l) (h : Row15 c l) : Row15 c r :=
  ⟨Nat.le_trans hs.length_le h.len, fun x hx => h.each x (hs.subset hx), (hs.map _).nodup h.one⟩
theorem parts_len (p : GActive → Bool) : ∀ (l : List GActive), (l.filter p).length + (l.filter fun x => !p x).length = l.length
  | [] => rfl
  | x :: l => by
    have := parts_len p l
    by_cases h : p x = true <;> simp [List.filter_cons, h] <;> omega
theorem row_left {c : GContent} {l : List GActive} (h : Row15 c l) (i : Nat) {v : Int} (hv : 0 ≤ v) : Row15 c (l.set i { l.getD i default with Left := v }) := by
  by_cases hi : i < l.length
  case neg => rw [List.set_eq_of_length_le (by omega)]; exact h
  have hg : l.getD i default = l[i] := by rw [List.getD_eq_getElem?_getD, List.getElem?_eq_getElem hi]; rfl
  refine ⟨by simpa using h.len, fun y hy => ?_, ?_⟩
  · rcases List.mem_or_eq_of_mem_set hy with hy | rfl
    · exact h.each y hy
    · have := h.each l[i] (List.getElem_mem hi)
      rw [hg]
      exact ⟨this.1, this.2.1, hv⟩
  · have : (l.set i { l.getD i default with Left := v }).map (fun x => (x.Aura, x.Source)) = l.map fun x => (x.Aura, x.Source) := by
      rw [List.map_set, hg]
      apply List.ext_getElem?
      intro j
      by_cases hj : i = j
      · subst hj
        rw [List.getElem?_set_self (by simpa using hi), List.getElem?_map, List.getElem?_eq_getElem hi]; rfl
      · rw [List.getElem?_set_ne hj]
    rw [this]; exact h.one
theorem left_left {l : List GActive} (h : Left15 l) (i : Nat) {v : Int} (hv : InR v) : Left15 (l.set i { l.getD i default with Left := v }) := fun y hy => by
  rcases List.mem_or_eq_of_mem_set hy with hy | rfl
  · exact h y hy
  · exact hv
theorem take14_left : ∀ (l : List GShield) (k : Nat) (left : List GShield) (gone : List Int) (n : Int), (∀ s ∈ l, 0 ≤ s.Left ∧ InR s.Left) → (∀ s ∈ left, 0 ≤ s.Left ∧ InR s.Left) → ∀ s ∈ (take14_L0 l k left gone n).1, 0 ≤ s.Left ∧ InR s.Left
  | [], k, left, gone, n, _, hs => by rw [take14_L0]; exact hs
  | x :: l, k, left, gone, n, hl, hs => by
    rw [take14_L0]
    have hl' : ∀ s ∈ l, 0 ≤ s.Left ∧ InR s.Left := fun y hy => hl y (List.mem_cons_of_mem _ hy)
    split
    · exact take14_left l _ _ _ _ hl' hs
    · rename_i h
      refine take14_left l _ _ _ _ hl' fun s hm => ?_
      rcases List.mem_append.1 hm with hm | hm
      · exact hs s hm
      · rw [List.mem_singleton.1 hm]
        have := hl x (List.mem_cons_self ..)
        unfold InR at *
        have hc : 0 ≤ clampM n 0 (max x.Left 0) := by unfold clampM; omega
        simp only [IntKind.wrap_i64]
        omega
theorem take15_sub (c : GContent) (l : List GActive) (n : Int) : ∀ (r : List GActive) (k : Nat) (out : List GActive), ∃ z, take15_L1 c l n r k out = out ++ z ∧ z.Sublist r
  | [], k, out => ⟨[], by rw [take15_L1]; simp, List.Sublist.refl _⟩
  | x :: r, k, out => by
    rw [take15_L1]
    split
    · obtain ⟨z, e, hz⟩ := take15_sub c l n r (k + 1) out
      exact ⟨z, e, hz.cons x⟩
    · obtain ⟨z, e, hz⟩ := take15_sub c l n r (k + 1) (out ++ [x])
      exact ⟨x :: z, by rw [e]; simp, hz.cons₂ x⟩
theorem row_put {c : GContent} : ∀ (s : List GShield) (k : Nat) (r : List GActive), (∀ x ∈ s, 0 ≤ x.Left ∧ InR x.Left) → Row15 c r → Left15 r → Row15 c (take15_L0 s k r) ∧ Left15 (take15_L0 s k r)
  | [], k, r, _, h, hf => by rw [take15_L0]; exact ⟨h, hf⟩
  | x :: s, k, r, hs, h, hf => by
    rw [take15_L0]
    have hx := hs x (List.mem_cons_self ..)
    exact row_put s (k + 1) _ (fun y hy => hs y (List.mem_cons_of_mem _ hy)) (row_left h _ hx.1) (left_left hf _ hx.2)
theorem row_take {c : GContent} {l : List GActive} (h : Row15 c l) (hf : Left15 l) (n : Int) : Row15 c (take15 c l n).1 ∧ Left15 (take15 c l n).1 := by
  have hs : ∀ s ∈ (take14 (ofTake c l 5 []) n).1, 0 ≤ s.Left ∧ InR s.Left := by
    have h0 : ∀ s ∈ ofTake c l 5 [], 0 ≤ s.Left ∧ InR s.Left := fun s hs => by
      rw [ofTake_is] at hs
      obtain ⟨x, hx, e⟩ := shieldsOf_left hs
      rw [e]; exact ⟨(h.each x hx).2.2, hf x hx⟩
    unfold take14
    split
    · exact h0
    · exact take14_left _ 0 [] [] n h0 (fun s hs => by cases hs)
  obtain ⟨r1, r2⟩ := row_put (take14 (ofTake c l 5 []) n).1 0 l hs h hf
  obtain ⟨z, e, hz⟩ := take15_sub c l n (take15_L0 (take14 (ofTake c l 5 []) n).1 0 l) 0 []
  unfold take15
  dsimp only
  rw [e]
  exact ⟨row_sub hz r1, fun x hx => r2 x (hz.subset hx)⟩

end Go.Proofs.YtmijbjpdjggppaaGreat

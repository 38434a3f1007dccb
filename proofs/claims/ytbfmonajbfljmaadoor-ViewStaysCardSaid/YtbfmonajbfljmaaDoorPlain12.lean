import Derived.Test.YtbfmonajbfljmaaDoorLaw25
namespace Go.Proofs.YtbfmonajbfljmaaDoor
open Go Go.RowKit Go.Proofs.YtbfmonajbfljmaaDoorVm
attribute [local irreducible] opsWp AnswersE OpsS
set_option maxHeartbeats 400000
set_option maxRecDepth 100000
set_option linter.all false
theorem sameMR_L0_iff (a b : GMessage) (hl : a.L.length = b.L.length) : ∀ (n k : Nat), k + n = a.L.length →
    (sameMR_L0 a b n k = .inr () ↔ a.L.drop k = b.L.drop k) ∧ (sameMR_L0 a b n k ≠ .inr () → sameMR_L0 a b n k = .inl false)
  | 0, k, h => by
    rw [sameMR_L0, List.drop_eq_nil_of_le (by omega), List.drop_eq_nil_of_le (by omega)]; simp
  | n + 1, k, h => by
    have ih := sameMR_L0_iff a b hl n (k + 1) (by omega)
    have ha : k < a.L.length := by omega
    have hb : k < b.L.length := by omega
    have ea : a.L.getD k default = a.L[k] := by rw [List.getD_eq_getElem?_getD, List.getElem?_eq_getElem ha, Option.getD_some]
    have eb : b.L.getD k default = b.L[k] := by rw [List.getD_eq_getElem?_getD, List.getElem?_eq_getElem hb, Option.getD_some]
    rw [sameMR_L0, List.drop_eq_getElem_cons ha, List.drop_eq_getElem_cons hb, ea, eb]
    split
    · rename_i h1; simp only [List.cons.injEq, h1, true_and]; exact ih
    · rename_i h1; exact ⟨⟨fun h => (by cases h), fun h => absurd (List.cons.inj h).1 h1⟩, fun _ => rfl⟩
theorem sameMR_iff (a b : GMessage) : sameMR a b = true ↔ a = b := by
  have e : a = b ↔ a.Do = b.Do ∧ a.Text = b.Text ∧ a.L = b.L := by
    cases a; cases b; simp only [GMessage.mk.injEq]; constructor
    · rintro ⟨h1, h2, h3⟩; exact ⟨h1, h3, h2⟩
    · rintro ⟨h1, h2, h3⟩; exact ⟨h1, h3, h2⟩
  rw [e]
  unfold sameMR
  split
  · rename_i h1
    split
    · rename_i h2
      split
      · rename_i h3
        have h := sameMR_L0_iff a b (by omega) (a.L.length - 0) 0 (by omega)
        simp only [List.drop_zero] at h
        split
        · rename_i r hr
          have h4 := h.2 (by rw [hr]; intro h; cases h)
          rw [hr] at h4; cases h4
          have h5 : ¬ a.L = b.L := fun h6 => by have := h.1.2 h6; rw [hr] at this; cases this
          simp [h5]
        · rename_i hr
          simp [h1, h2, h.1.1 hr]
      · rename_i h3
        have : ¬ a.L = b.L := fun h6 => h3 (by rw [h6])
        simp [this]
    · rename_i h2; simp [h2]
  · rename_i h1; simp [h1]
def bodyM (m : GMessage) : List UInt8 := by8 m.Do :: (m.L.flatMap VV ++ m.Text)
/-- so many numbers, from a place on -/
def rdN (b : List UInt8) : Nat → Nat → Option (List Int × Nat)
  | 0, k => some ([], k)
  | n + 1, k => match rd (b.drop k) with
    | none => none
    | some (v, s) => match rdN b n (k + s) with
      | none => none
      | some (l, j) => some (uf v :: l, j)
theorem decM_L0_is {b : List UInt8} (hb : b.length ≤ 9223372036854775807) : ∀ (n k : Nat) (o : List Int) (a : Nat), a ≤ b.length →
    decM_L0 b n k o (a : Int) = match rdN b n a with
      | none => .inl (⟨0, [], []⟩, 2)
      | some (l, j) => .inr (o ++ l, (j : Int))
  | 0, k, o, a, h => by simp [decM_L0, rdN]
  | n + 1, k, o, a, h => by
    rw [decM_L0, readI_is hb h, rdN]
    unfold rI
    cases h1 : rd (b.drop a) with
    | none => rfl
    | some p =>
      obtain ⟨v, s⟩ := p
      have h2 := rd_some h1
      rw [List.length_drop] at h2
      simp only [if_true]
      rw [decM_L0_is hb n (k + 1) _ (a + s) (by omega)]
      cases rdN b n (a + s) with
      | none => rfl
      | some q => simp
theorem rdN_some : ∀ {b : List UInt8} (n k : Nat) {l : List Int} {j : Nat}, rdN b n k = some (l, j) → k ≤ b.length → l.length = n ∧ (∀ y ∈ l, InR y) ∧ b.drop k = l.flatMap VV ++ b.drop j ∧ j ≤ b.length
  | b, 0, k, l, j, h, hk => by
    simp only [rdN, Option.some.injEq, Prod.mk.injEq] at h
    obtain ⟨rfl, rfl⟩ := h
    exact ⟨rfl, by simp, by simp, hk⟩
  | b, n + 1, k, l, j, h, hk => by
    rw [rdN] at h
    cases h1 : rd (b.drop k) with
    | none => rw [h1] at h; cases h
    | some p =>
      obtain ⟨v, s⟩ := p
      rw [h1] at h
      simp only at h
      obtain ⟨g1, g2, g3, g4⟩ := rd_some h1
      rw [List.length_drop] at g4
      cases h2 : rdN b n (k + s) with
      | none => rw [h2] at h; cases h
      | some q =>
        obtain ⟨l', j'⟩ := q
        rw [h2] at h
        simp only [Option.some.injEq, Prod.mk.injEq] at h
        obtain ⟨rfl, rfl⟩ := h
        obtain ⟨i1, i2, i3, i4⟩ := rdN_some n (k + s) h2 (by omega)
        have e : VV (uf v) = v7 9 v := by unfold VV; rw [fd_uf (by omega)]; rfl
        refine ⟨by simp [i1], ?_, ?_, i4⟩
        · intro y hy
          rcases List.mem_cons.1 hy with rfl | hy
          · exact uf_in (by omega) (by omega)
          · exact i2 y hy
        · rw [g2, List.drop_drop, i3, List.flatMap_cons, e, List.append_assoc]
theorem rdN_of {b : List UInt8} : ∀ (l : List Int) (k : Nat) (r : List UInt8), (∀ y ∈ l, InR y) → b.drop k = l.flatMap VV ++ r → rdN b l.length k = some (l, k + (l.flatMap VV).length)
  | [], k, r, _, _ => by simp [rdN]
  | x :: l, k, r, h, hd => by
    have hx := h x (List.mem_cons_self ..)
    have h1 := fd_in hx
    rw [List.length_cons, rdN, hd, List.flatMap_cons, List.append_assoc]
    rw [show VV x = v7 9 (fd x).toNat from rfl, rd_v7 (by omega)]
    simp only
    have hd2 : b.drop (k + (VV x).length) = l.flatMap VV ++ r := by
      rw [← List.drop_drop, hd, List.flatMap_cons, List.append_assoc, List.drop_left]
    rw [show (v7 9 (fd x).toNat).length = (VV x).length from rfl, rdN_of l (k + (VV x).length) r (fun y hy => h y (List.mem_cons_of_mem _ hy)) hd2]
    simp only
    rw [Int.toNat_of_nonneg h1.1, uf_fd, List.length_append, Nat.add_assoc]; rfl
theorem right_do {m : GMessage} (h : rightM m = true) : 1 ≤ m.Do ∧ m.Do ≤ 10 ∧ (sizeM m.Do).1 = m.L.length := by
  unfold rightM at h
  split at h
  · rename_i h1
    split at h
    · rename_i h2
      unfold sizeM at h1
      split at h1
      · cases h1
      · split at h1
        · cases h1
        · exact ⟨by omega, by omega, h2.symm⟩
    · cases h
  · cases h
theorem flat_len10 : ∀ l : List Int, (l.flatMap VV).length ≤ 10 * l.length
  | [] => by simp
  | x :: l => by
    have := flat_len10 l
    have h2 := VV_len x
    rw [List.flatMap_cons, List.length_append, List.length_cons]; omega
theorem bodyM_len {m : GMessage} (h : rightM m = true) : (bodyM m).length ≤ 200 := by
  have h1 := rightM_len h
  have h2 := flat_len10 m.L
  unfold bodyM
  rw [List.length_cons, List.length_append]; omega
theorem decM_body {m : GMessage} (h : rightM m = true) (hl : ∀ y ∈ m.L, InR y) : decM (bodyM m) = (m, 0) := by
  have hb := bodyM_len h
  obtain ⟨d1, d2, d3⟩ := right_do h
  have e8 : ((by8 m.Do).toNat : Int) = m.Do := by rw [by8_toNat]; omega
  have hw : IntKind.i64.wrap (((bodyM m).getD 0 default).toNat : Int) = m.Do := by
    rw [show (bodyM m).getD 0 default = by8 m.Do from rfl, e8, IntKind.wrap_i64]; omega
  unfold decM
  rw [if_neg (by unfold bodyM; rw [List.length_cons]; omega), hw, d3]
  have e1 := decM_L0_is (b := bodyM m) (by omega) ((m.L.length : Int).toNat - 0) 0 [] 1 (by unfold bodyM; rw [List.length_cons]; omega)
  rw [show ((1 : Nat) : Int) = 1 from rfl] at e1
  have e2 := rdN_of (b := bodyM m) m.L 1 m.Text hl rfl
  rw [e1, Int.toNat_natCast, Nat.sub_zero, e2]
  simp only [List.nil_append, Int.toNat_natCast]
  have e3 : (bodyM m).drop (1 + (m.L.flatMap VV).length) = m.Text := by
    unfold bodyM; rw [Nat.add_comm, List.drop_succ_cons, List.drop_left]
  rw [e3]
  cases m with
  | mk D L T => simp only at *; rw [if_pos h]
theorem decM_ok2 {b : List UInt8} (hb : b.length ≤ 9223372036854775807) (h : (decM b).2 = 0) : rightM (decM b).1 = true ∧ (∀ y ∈ (decM b).1.L, InR y) ∧ bodyM (decM b).1 = b := by
  cases b with
  | nil => exact absurd h (by decide)
  | cons d rest =>
    have hd := d.toNat_lt
    have hb8 : by8 (d.toNat : Int) = d := by rw [by8_lt (by omega)]; apply UInt8.toNat_inj.1; rw [UInt8.toNat_ofNat']; omega
    have hw : IntKind.i64.wrap ((((d :: rest).getD 0 default).toNat : Int)) = (d.toNat : Int) := by
      rw [List.getD_cons_zero, IntKind.wrap_i64]; omega
    have e1 := decM_L0_is hb ((sizeM (d.toNat : Int)).1.toNat - 0) 0 [] 1 (by rw [List.length_cons]; omega)
    rw [show ((1 : Nat) : Int) = 1 from rfl] at e1
    unfold decM at h ⊢
    rw [if_neg (by rw [List.length_cons]; omega), hw, e1] at h ⊢
    cases h2 : rdN (d :: rest) ((sizeM (d.toNat : Int)).1.toNat - 0) 1 with
    | none => rw [h2] at h; exact absurd h (show ¬ (2 : Int) = 0 by decide)
    | some q =>
      obtain ⟨l, j⟩ := q
      obtain ⟨i1, i2, i3, i4⟩ := rdN_some _ _ h2 (by rw [List.length_cons]; omega)
      rw [h2] at h
      simp only [List.nil_append, Int.toNat_natCast] at h ⊢
      split at h
      · rename_i hr
        rw [if_pos hr]
        refine ⟨hr, i2, ?_⟩
        unfold bodyM
        simp only
        rw [hb8, ← i3]; rfl
      · exact absurd h (show ¬ (2 : Int) = 0 by decide)
theorem decM_bad (b : List UInt8) : (decM b).2 = 0 ∨ decM b = (⟨0, [], []⟩, 2) := by
  unfold decM
  split
  · exact .inr rfl
  · split
    · rename_i r hr; exact .inr (decM_L0_inl _ _ _ _ _ _ hr)
    · split
      · exact .inl rfl
      · exact .inr rfl

end Go.Proofs.YtbfmonajbfljmaaDoor

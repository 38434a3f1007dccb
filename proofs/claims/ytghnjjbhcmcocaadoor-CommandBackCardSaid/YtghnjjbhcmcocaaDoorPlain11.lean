import Derived.Test.YtghnjjbhcmcocaaDoorNames11
namespace Go.Proofs.YtghnjjbhcmcocaaDoor
open Go Go.RowKit Go.Proofs.YtghnjjbhcmcocaaDoorVm
attribute [local irreducible] opsWp AnswersE OpsS
set_option maxHeartbeats 400000
set_option maxRecDepth 100000
set_option linter.all false
theorem two_iff (d : Int) : two d = true ↔ d = 2 ∨ d = 3 ∨ d = 5 ∨ d = 6 := by
  unfold two
  repeat' split
  all_goals simp
  all_goals omega
theorem shape_is (d : Int) : shape d = (decide (d = 1), two d, decide (1 ≤ d ∧ d ≤ 7)) := by
  have h2 := two_iff d
  by_cases h : two d = true
  · have h3 := h2.1 h
    rw [h]
    rcases h3 with rfl | rfl | rfl | rfl <;> decide
  · have h3 : ¬ (d = 2 ∨ d = 3 ∨ d = 5 ∨ d = 6) := fun h4 => h (h2.2 h4)
    rw [Bool.eq_false_iff.2 h]
    unfold shape shape_J11 shape_J15
    simp only
    by_cases h1 : d = 1
    · subst h1; decide
    · by_cases h4 : d = 4
      · subst h4; decide
      · by_cases h7 : d = 7
        · subst h7; decide
        · have e : decide (d = 1) = false := by simp [h1]
          have e2 : decide (1 ≤ d ∧ d ≤ 7) = false := by simp; omega
          rw [e, e2, if_neg h1, if_neg (show ¬ d = 2 by omega), if_neg (show ¬ d = 3 by omega), if_neg (show ¬ d = 5 by omega), show (d == 6) = false by simp; omega, if_neg h4, show (d == 7) = false by simp; omega]
          rfl
/-- a right command -/
def Rt (c : GCommand) : Prop := 1 ≤ c.Do ∧ c.Do ≤ 7 ∧ (two c.Do = true ∨ (c.A = 0 ∧ c.B = 0)) ∧ (c.Do = 1 ∧ nameC c.Text = true ∨ c.Do ≠ 1 ∧ c.Text = [])
theorem rightC_iff (c : GCommand) : rightC c = true ↔ Rt c := by
  unfold rightC rightC_J14 Rt
  simp only [shape_is]
  by_cases h1 : 1 ≤ c.Do ∧ c.Do ≤ 7
  · rw [if_pos (show decide (1 ≤ c.Do ∧ c.Do ≤ 7) = true from decide_eq_true h1)]
    by_cases h2 : two c.Do = true
    · rw [if_pos h2, if_neg (by decide)]
      have : c.Do ≠ 1 := by have := (two_iff _).1 h2; omega
      simp [h1.1, h1.2, h2, this]
    · rw [if_neg h2]
      by_cases h3 : c.A = 0
      · rw [if_pos h3]
        by_cases h4 : c.B = 0
        · by_cases h5 : c.Do = 1
          · simp [h1.1, h1.2, h2, h3, h4, h5]
          · simp [h1.1, h1.2, h2, h3, h4, h5]
        · simp [h2, h3, h4]
      · simp [h2, h3]
  · have e : decide (1 ≤ c.Do ∧ c.Do ≤ 7) = false := decide_eq_false h1
    rw [e]
    simp only [Bool.false_eq_true, if_false, Bool.not_false, if_true, false_iff]
    rintro ⟨h2, h3, _⟩; exact h1 ⟨h2, h3⟩
theorem rightR_iff (c : GCommand) : rightR c = true ↔ Rt c := by
  unfold rightR rightR_J3 Rt
  by_cases h1 : c.Do < 1
  · rw [if_pos h1]; simp; omega
  · rw [if_neg h1]
    by_cases h7 : c.Do > 7
    · rw [if_pos h7]; simp; omega
    · rw [if_neg h7]
      have h1' : 1 ≤ c.Do := by omega
      have h7' : c.Do ≤ 7 := by omega
      by_cases h2 : two c.Do = true
      · rw [if_pos h2]
        have : c.Do ≠ 1 := by have := (two_iff _).1 h2; omega
        simp [h1', h7', h2, this]
      · rw [if_neg h2]
        by_cases h3 : c.A = 0
        · rw [if_pos h3]
          by_cases h4 : c.B = 0
          · rw [if_pos h4]
            by_cases h5 : c.Do = 1
            · simp [h1', h7', h2, h3, h4, h5, name_same]
            · simp [h1', h7', h2, h3, h4, h5]
          · simp [h2, h3, h4]
        · simp [h2, h3]
theorem right_same (c : GCommand) : rightC c = rightR c := by rw [Bool.eq_iff_iff, rightC_iff, rightR_iff]
/-- a number's bytes -/
def VV (n : Int) : List UInt8 := v7 9 (fd n).toNat
def body (c : GCommand) : List UInt8 := if two c.Do = true then by8 c.Do :: c.Text ++ VV c.A ++ VV c.B else by8 c.Do :: c.Text
theorem encC_is {c : GCommand} (ha : InR c.A) (hb : InR c.B) : encC c = if rightC c = true then (body c, 0) else ([], 1) := by
  unfold encC
  split
  · simp only
    congr 1
    unfold encC_J19 body
    rw [shape_is]
    simp only
    split
    · rw [putI_eq _ hb, putI_eq _ ha]; rfl
    · rfl
  · rfl
theorem encR_is {c : GCommand} (ha : InR c.A) (hb : InR c.B) : encR c = if rightC c = true then (body c, 0) else ([], 1) := by
  unfold encR
  rw [right_same]
  split
  · simp only
    congr 1
    unfold encR_J17 body
    split
    · rw [intR_eq _ hb, intR_eq _ ha]; rfl
    · rfl
  · rfl
/-- a number read from a place on -/
def rI (b : List UInt8) (k : Nat) : Int × Int × Int := match rd (b.drop k) with
  | none => (0, (k : Int), 2)
  | some (n, s) => (uf n, ((k + s : Nat) : Int), 0)
theorem rd_pos {b : List UInt8} {n s : Nat} (h : rd b = some (n, s)) : 0 < s := by
  have h1 := (rd_some h).2.2.1
  have h2 := v7_len 9 n; omega
theorem readI_is {b : List UInt8} (hb : b.length ≤ 140737488355328) {k : Nat} (hk : k ≤ b.length) : readI b (k : Int) = rI b k := by
  unfold readI read rI
  rw [if_neg (show ¬ (k : Int) < 0 by omega), if_neg (show ¬ (k : Int) > b.length by omega), Int.toNat_natCast, take_is]
  cases h : rd (b.drop k) with
  | none => simp only [if_true]; rfl
  | some p =>
    obtain ⟨n, s⟩ := p
    have h0 := rd_pos h
    have h1 := rd_some h
    rw [List.length_drop] at h1
    simp only
    rw [if_neg (by omega)]
    simp only
    rw [unfo_eq (by omega) (by omega), show IntKind.i64.wrap ((k : Int) + (s : Int)) = ((k + s : Nat) : Int) by rw [IntKind.wrap_i64]; omega]
theorem half_odd {n : Int} (h0 : 0 ≤ n) (h : n < 18446744073709551616) : IntKind.i64.wrap (IntKind.i64.wrap (0 - IntKind.i64.wrap (IntKind.u64.wrap (n / 2))) - 1) = -(n / 2) - 1 := by
  have h1 : IntKind.u64.wrap (n / 2) = n / 2 := by rw [u64_is]; omega
  rw [h1]
  have h2 : 0 ≤ n / 2 ∧ n / 2 < 9223372036854775808 := by omega
  generalize n / 2 = m at h2 ⊢
  have h3 : IntKind.i64.wrap m = m := wrap_lt (by omega) (by omega)
  have h4 : IntKind.i64.wrap (0 - m) = -m := by rw [Int.zero_sub]; exact wrap_lt (by omega) (by omega)
  rw [h3, h4]
  exact wrap_lt (by omega) (by omega)
theorem half_even {n : Int} (h0 : 0 ≤ n) (h : n < 18446744073709551616) : IntKind.i64.wrap (IntKind.u64.wrap (n / 2)) = n / 2 := by
  have h1 : IntKind.u64.wrap (n / 2) = n / 2 := by rw [u64_is]; omega
  rw [h1]
  exact wrap_lt (by omega) (by omega)
theorem readRI_is {b : List UInt8} (hb : b.length ≤ 140737488355328) {k : Nat} (hk : k ≤ b.length) : readRI b (k : Int) = rI b k := by
  unfold readRI rI
  rw [readR_is b hb k hk]
  cases h : rd (b.drop k) with
  | none => simp only [Bool.false_eq_true, if_false]
  | some p =>
    obtain ⟨n, s⟩ := p
    have h1 := (rd_some h).1
    simp only [if_true]
    rw [Int.tmod_eq_emod_of_nonneg (by omega), Int.tdiv_eq_ediv_of_nonneg (by omega)]
    unfold uf
    split
    · rw [half_odd (by omega) (by omega)]
    · rw [half_even (by omega) (by omega)]
theorem rI_VV {n : Int} (h : InR n) (b r : List UInt8) (k : Nat) (hd : b.drop k = VV n ++ r) : rI b k = (n, ((k + (VV n).length : Nat) : Int), 0) := by
  have h1 := fd_in h
  unfold rI
  rw [hd, VV, rd_v7 (by omega)]
  simp only
  rw [Int.toNat_of_nonneg h1.1, uf_fd]
theorem rI_ok {b : List UInt8} {k : Nat} (h : (rI b k).2.2 = 0) : InR (rI b k).1 ∧ b.drop k = VV (rI b k).1 ++ b.drop (k + (VV (rI b k).1).length) ∧ (rI b k).2.1 = ((k + (VV (rI b k).1).length : Nat) : Int) ∧ k + (VV (rI b k).1).length ≤ b.length := by
  unfold rI at h ⊢
  cases h2 : rd (b.drop k) with
  | none => rw [h2] at h; simp at h
  | some p =>
    obtain ⟨n, s⟩ := p
    obtain ⟨h3, h4, h5, h6⟩ := rd_some h2
    have hp := rd_pos h2
    simp only
    have e : VV (uf n) = v7 9 n := by unfold VV; rw [fd_uf (by omega)]; rfl
    rw [e, ← h5]
    rw [List.drop_drop] at h4
    rw [List.length_drop] at h6
    exact ⟨uf_in (by omega) (by omega), h4, rfl, by omega⟩
theorem rI_in (b : List UInt8) (k : Nat) : InR (rI b k).1 := by
  by_cases h : (rI b k).2.2 = 0
  · exact (rI_ok h).1
  · unfold rI at h ⊢
    cases h2 : rd (b.drop k) with
    | none => simp only; unfold InR; omega
    | some p => rw [h2] at h; exact absurd rfl h
theorem rI_next (b : List UInt8) (k : Nat) (hk : k ≤ b.length) : ∃ j : Nat, (rI b k).2.1 = (j : Int) ∧ j ≤ b.length := by
  by_cases h : (rI b k).2.2 = 0
  · obtain ⟨_, _, h3, h4⟩ := rI_ok h
    exact ⟨_, h3, h4⟩
  · unfold rI at h ⊢
    cases h2 : rd (b.drop k) with
    | none => exact ⟨k, rfl, hk⟩
    | some p => rw [h2] at h; exact absurd rfl h
theorem pair_ok2 {b : List UInt8} (hb : b.length ≤ 140737488355328) (h : (pair b).2.2 = true) : InR (pair b).1 ∧ InR (pair b).2.1 ∧ b = VV (pair b).1 ++ VV (pair b).2.1 := by
  have e0 := readI_is hb (Nat.zero_le _)
  obtain ⟨j, hj, hj2⟩ := rI_next b 0 (Nat.zero_le _)
  rw [Int.natCast_zero] at e0
  unfold pair at h ⊢
  rw [e0] at h ⊢
  by_cases h1 : (rI b 0).2.2 = 0
  · rw [if_pos h1] at h ⊢
    have e1 := readI_is hb hj2
    rw [hj, e1] at h ⊢
    by_cases h2 : (rI b j).2.2 = 0
    · rw [if_pos h2] at h ⊢
      simp only [beq_iff_eq] at h ⊢
      obtain ⟨a1, a2, a3, a4⟩ := rI_ok h1
      obtain ⟨b1, b2, b3, b4⟩ := rI_ok h2
      refine ⟨a1, b1, ?_⟩
      rw [a3] at hj
      have hj3 : j = (VV (rI b 0).1).length := by omega
      rw [List.drop_zero, Nat.zero_add, ← hj3] at a2
      rw [b3] at h
      rw [List.drop_eq_nil_of_le (i := j + _) (by omega), List.append_nil] at b2
      rw [← b2]; exact a2
    · rw [if_neg h2] at h; cases h
  · rw [if_neg h1] at h; cases h
theorem pair_of {x y : Int} (hx : InR x) (hy : InR y) (hb : (VV x ++ VV y).length ≤ 140737488355328) : pair (VV x ++ VV y) = (x, y, true) := by
  have e0 := readI_is hb (Nat.zero_le _)
  rw [Int.natCast_zero, rI_VV hx (VV x ++ VV y) (VV y) 0 (by simp)] at e0
  unfold pair
  rw [e0]
  simp only [if_true]
  have e1 := readI_is hb (k := 0 + (VV x).length) (by rw [List.length_append]; omega)
  rw [rI_VV hy (VV x ++ VV y) [] (0 + (VV x).length) (by rw [Nat.zero_add, List.drop_left, List.append_nil])] at e1
  rw [e1]
  simp
theorem VV_len (n : Int) : (VV n).length ≤ 10 := (v7_len 9 _).2
theorem body_len {c : GCommand} (h : Rt c) : (body c).length ≤ 100 := by
  have h1 := rightC_len ((rightC_iff c).2 h)
  have ha := VV_len c.A; have hb := VV_len c.B
  unfold body; split
  · simp only [List.length_append, List.length_cons]; omega
  · simp only [List.length_cons]; omega
theorem decC_cons (d : UInt8) (rest : List UInt8) : decC (d :: rest) =
    (let D : Int := d.toNat
     let p : GCommand × Bool := if D = 1 then (⟨D, rest, 0, 0⟩, true) else if two D = true then (⟨D, [], (pair rest).1, (pair rest).2.1⟩, (pair rest).2.2) else (⟨D, [], 0, 0⟩, rest.length == 0)
     if p.2 = true then (if rightC p.1 = true then (p.1, 0) else (⟨0, [], 0, 0⟩, 2)) else (⟨0, [], 0, 0⟩, 2)) := by
  have hd := d.toNat_lt
  have e : IntKind.i64.wrap (d.toNat : Int) = (d.toNat : Int) := by rw [IntKind.wrap_i64]; omega
  unfold decC
  rw [if_neg (by simp only [List.length_cons]; omega)]
  simp only [decC_J38, decC_J28, List.getD_cons_zero, List.drop_succ_cons, List.drop_zero, e, shape_is, decide_eq_true_eq]
  by_cases h1 : (d.toNat : Int) = 1
  · simp [h1]
  · by_cases h2 : two (d.toNat : Int) = true
    · simp [h1, h2]
    · have : (((rest.length : Int)) == 0) = (rest.length == 0) := by rw [Bool.eq_iff_iff]; simp
      simp [h1, h2, this]
theorem decC_ok2 {load : List UInt8} (hl : load.length ≤ 140737488355328) : (decC load).2 = 0 → Rt (decC load).1 ∧ InR (decC load).1.A ∧ InR (decC load).1.B ∧ body (decC load).1 = load := by
  cases load with
  | nil => intro h; exact absurd h (by decide)
  | cons d rest =>
    simp only [List.length_cons] at hl
    have hd := d.toNat_lt
    have hb8 : by8 (d.toNat : Int) = d := by rw [by8_lt (by omega)]; apply UInt8.toNat_inj.1; rw [UInt8.toNat_ofNat']; omega
    have z : InR 0 := by unfold InR; omega
    rw [decC_cons]
    simp only
    by_cases h1 : (d.toNat : Int) = 1
    · have h2 : ¬ two (d.toNat : Int) = true := by rw [two_iff]; omega
      rw [if_pos h1]
      simp only [if_true]
      split
      · rename_i h3
        intro _
        refine ⟨(rightC_iff _).1 h3, z, z, ?_⟩
        unfold body; simp only; rw [if_neg h2, hb8]
      · intro h; cases h
    · rw [if_neg h1]
      by_cases h2 : two (d.toNat : Int) = true
      · rw [if_pos h2]
        simp only
        split
        · rename_i hp
          split
          · rename_i h3
            intro _
            obtain ⟨q1, q2, q3⟩ := pair_ok2 (by omega) hp
            refine ⟨(rightC_iff _).1 h3, q1, q2, ?_⟩
            unfold body; simp only; rw [if_pos h2, hb8, List.cons_append, List.cons_append, List.nil_append, ← q3]
          · intro h; cases h
        · intro h; cases h
      · rw [if_neg h2]
        simp only
        split
        · rename_i hp
          have hr : rest = [] := List.eq_nil_of_length_eq_zero (by simpa using hp)
          split
          · rename_i h3
            intro _
            refine ⟨(rightC_iff _).1 h3, z, z, ?_⟩
            unfold body; simp only; rw [if_neg h2, hb8, hr]
          · intro h; cases h
        · intro h; cases h
theorem decC_bad (load : List UInt8) : (decC load).2 = 0 ∨ decC load = (⟨0, [], 0, 0⟩, 2) := by
  unfold decC
  split
  · exact .inr rfl
  · dsimp only
    split
    · split
      · exact .inl rfl
      · exact .inr rfl
    · exact .inr rfl
theorem decC_body {c : GCommand} (h : Rt c) (ha : InR c.A) (hb : InR c.B) : decC (body c) = (c, 0) := by
  have hr := (rightC_iff c).2 h
  obtain ⟨d1, d7, hab, ht⟩ := h
  have e8 : ((by8 c.Do).toNat : Int) = c.Do := by rw [by8_toNat]; omega
  have hla := VV_len c.A; have hlb := VV_len c.B
  cases c with
  | mk D T A B =>
  simp only at *
  unfold body; simp only
  by_cases h2 : two D = true
  · have h1 : D ≠ 1 := by have := (two_iff _).1 h2; omega
    have hT : T = [] := by rcases ht with ⟨h3, _⟩ | ⟨_, h3⟩; exact absurd h3 h1; exact h3
    subst hT
    rw [if_pos h2, List.cons_append, List.cons_append, List.nil_append, decC_cons]
    simp only [e8]
    rw [if_neg h1, if_pos h2, pair_of ha hb (by rw [List.length_append]; omega)]
    simp only [if_true]
    rw [if_pos hr]
  · obtain ⟨rfl, rfl⟩ := hab.resolve_left h2
    rw [if_neg h2, decC_cons]
    simp only [e8]
    by_cases h1 : D = 1
    · rw [if_pos h1]
      simp only [if_true]
      rw [if_pos hr]
    · have hT : T = [] := by rcases ht with ⟨h3, _⟩ | ⟨_, h3⟩; exact absurd h3 h1; exact h3
      subst hT
      rw [if_neg h1, if_neg h2]
      simp only [List.length_nil, Nat.beq_refl, beq_self_eq_true, if_true]
      rw [if_pos hr]
theorem decC_more {c : GCommand} (h : Rt c) (ha : InR c.A) (hb : InR c.B) : decC (body c ++ [0]) = (⟨0, [], 0, 0⟩, 2) := by
  rcases decC_bad (body c ++ [0]) with h1 | h1
  · exfalso
    have hl := body_len h
    obtain ⟨q1, q2, q3, q4⟩ := decC_ok2 (by rw [List.length_append]; simp only [List.length_cons, List.length_nil]; omega) h1
    generalize (decC (body c ++ [0])).1 = x at q1 q2 q3 q4
    have hd : decC (body x) = (x, 0) := decC_body q1 q2 q3
    obtain ⟨d1, d7, hab, ht⟩ := h
    obtain ⟨x1, x7, xab, xt⟩ := q1
    have e8 : ((by8 c.Do).toNat : Int) = c.Do := by rw [by8_toNat]; omega
    have x8 : ((by8 x.Do).toNat : Int) = x.Do := by rw [by8_toNat]; omega
    -- the same first byte
    have hD : x.Do = c.Do := by
      have : by8 x.Do = by8 c.Do := by
        have h3 := congrArg (fun l : List UInt8 => l.getD 0 0) q4
        unfold body at h3
        split at h3 <;> split at h3 <;> simpa using h3
      rw [← x8, ← e8, this]
    unfold body at q4
    rw [hD] at q4
    by_cases h2 : two c.Do = true
    · have h0 : c.Do ≠ 1 := by have := (two_iff _).1 h2; omega
      have hT : c.Text = [] := by rcases ht with ⟨h3, _⟩ | ⟨_, h3⟩; exact absurd h3 h0; exact h3
      have xT : x.Text = [] := by rcases xt with ⟨h3, _⟩ | ⟨_, h3⟩; exact absurd (hD ▸ h3) h0; exact h3
      rw [if_pos h2, if_pos h2, hT, xT] at q4
      simp only [List.cons_append, List.nil_append, List.cons.injEq, true_and, List.append_assoc] at q4
      -- prefix codes
      have p1 := rI_VV q2 (VV x.A ++ VV x.B) (VV x.B) 0 (by simp)
      have p2 := rI_VV ha (VV x.A ++ VV x.B) (VV c.B ++ [0]) 0 (by rw [List.drop_zero, q4])
      rw [p1] at p2
      have eA : x.A = c.A := congrArg Prod.fst p2
      rw [eA] at q4
      have q5 := List.append_cancel_left q4
      have p3 := rI_VV q3 (VV x.B) [] 0 (by simp)
      have p4 := rI_VV hb (VV x.B) [0] 0 (by rw [List.drop_zero, q5])
      rw [p3] at p4
      have eB : x.B = c.B := congrArg Prod.fst p4
      rw [eB] at q5
      have := congrArg List.length q5
      simp only [List.length_append, List.length_cons, List.length_nil] at this
      omega
    · rw [if_neg h2, if_neg h2] at q4
      simp only [List.cons_append, List.cons.injEq, true_and] at q4
      rcases xt with ⟨h3, h4⟩ | ⟨_, h4⟩
      · rw [nameC_iff] at h4
        have := h4.2.2 0 (by rw [q4]; simp)
        exact absurd this (by decide +kernel)
      · rw [h4] at q4
        have := congrArg List.length q4
        simp at this
  · exact h1
theorem decR_body {c : GCommand} (h : Rt c) (ha : InR c.A) (hb : InR c.B) : decR (body c) = (c, 0) := by
  have hr := (rightC_iff c).2 h
  have hlen := body_len h
  have henc := encR_is ha hb
  rw [if_pos hr] at henc
  obtain ⟨d1, d7, hab, ht⟩ := h
  have e8 : ((by8 c.Do).toNat : Int) = c.Do := by rw [by8_toNat]; omega
  have hw : IntKind.i64.wrap ((by8 c.Do).toNat : Int) = c.Do := by rw [e8, IntKind.wrap_i64]; omega
  have hne : ¬ ((body c).length : Int) = 0 := by unfold body; split <;> simp only [List.length_cons, List.length_append] <;> omega
  have hg : (body c).getD 0 default = by8 c.Do := by unfold body; split <;> rfl
  have key : decR_J29 (body c) (decR_J22 (body c)) = c := by
    have e22 : decR_J22 (body c) = ⟨c.Do, c.Text, 0, 0⟩ := by
      unfold decR_J22
      rw [hg, hw]
      split
      · rename_i h1
        have h2 : ¬ two c.Do = true := by rw [two_iff]; omega
        unfold body; rw [if_neg h2]; rfl
      · rename_i h1
        rcases ht with ⟨h3, _⟩ | ⟨_, h3⟩
        · exact absurd h3 h1
        · rw [h3]
    rw [e22]
    unfold decR_J29
    simp only
    split
    · rename_i h2
      have h1 : c.Do ≠ 1 := by have := (two_iff _).1 h2; omega
      have hT : c.Text = [] := by rcases ht with ⟨h3, _⟩ | ⟨_, h3⟩; exact absurd h3 h1; exact h3
      have eb : body c = by8 c.Do :: (VV c.A ++ VV c.B) := by unfold body; rw [if_pos h2, hT]; rfl
      have r1 := readRI_is (b := body c) (by omega) (k := 1) (by rw [eb]; simp)
      rw [rI_VV ha (body c) (VV c.B) 1 (by rw [eb]; rfl)] at r1
      have r2 := readRI_is (b := body c) (by omega) (k := 1 + (VV c.A).length) (by rw [eb]; simp only [List.length_cons, List.length_append]; omega)
      rw [rI_VV hb (body c) [] (1 + (VV c.A).length) (by rw [eb, Nat.add_comm, List.drop_succ_cons, List.drop_left, List.append_nil])] at r2
      rw [show ((1 : Nat) : Int) = 1 from rfl] at r1
      rw [r1]
      simp only
      rw [r2]
    · rename_i h2
      obtain ⟨h3, h4⟩ := hab.resolve_left h2
      cases c; simp only at *; subst h3; subst h4; rfl
  unfold decR
  rw [if_neg hne]
  simp only
  rw [key, henc]
  simp
theorem decR_bad {load : List UInt8} (hl : load.length ≤ 2048) : decR load = (⟨0, [], 0, 0⟩, 2) ∨ ∃ x, decR load = (x, 0) ∧ Rt x ∧ InR x.A ∧ InR x.B ∧ body x = load := by
  unfold decR
  split
  · exact .inl rfl
  · rename_i hne
    simp only
    have h0 : InR 0 := by unfold InR; omega
    have hin : InR (decR_J29 load (decR_J22 load)).A ∧ InR (decR_J29 load (decR_J22 load)).B := by
      have h22 : (decR_J22 load).A = 0 ∧ (decR_J22 load).B = 0 := by unfold decR_J22; split <;> exact ⟨rfl, rfl⟩
      unfold decR_J29
      split
      · simp only
        have r1 := readRI_is (b := load) (by omega) (k := 1) (by omega)
        rw [show ((1 : Nat) : Int) = 1 from rfl] at r1
        obtain ⟨j, hj, hj2⟩ := rI_next load 1 (by omega)
        have r2 := readRI_is (b := load) (by omega) hj2
        rw [r1, hj, r2]
        exact ⟨rI_in _ _, rI_in _ _⟩
      · rw [h22.1, h22.2]; exact ⟨h0, h0⟩
    have he := encR_is hin.1 hin.2
    generalize decR_J29 load (decR_J22 load) = x at hin he ⊢
    rw [he]
    by_cases hr : rightC x = true
    · rw [if_pos hr]
      simp only [if_true]
      split
      · rename_i h3
        exact .inr ⟨x, rfl, (rightC_iff x).1 hr, hin.1, hin.2, h3⟩
      · exact .inl rfl
    · rw [if_neg hr]
      exact .inl rfl
theorem dec_same {load : List UInt8} (hl : load.length ≤ 2048) : decC load = decR load := by
  rcases decC_bad load with h | h
  · obtain ⟨q1, q2, q3, q4⟩ := decC_ok2 (by omega) h
    have h1 := decC_body q1 q2 q3
    have h2 := decR_body q1 q2 q3
    rw [q4] at h1 h2
    rw [h1, h2, h1]
  · rcases decR_bad hl with h2 | ⟨x, h2, q1, q2, q3, q4⟩
    · rw [h, h2]
    · have h3 := decC_body q1 q2 q3
      rw [q4, h] at h3
      have := congrArg Prod.snd h3
      exact absurd this (by simp)
theorem reads11_true (load : List UInt8) : reads11 load = true := by
  unfold reads11
  split
  · exact small11_true
  · rename_i h
    rw [if_pos small11_true, dec_same (by omega)]
    simp
theorem writes11_true {c : GCommand} (s : List UInt8) (wc : wfGCommand c) : writes11 c s = true := by
  obtain ⟨_, _, ha, hb⟩ := wc
  unfold writes11
  split
  · exact small11_true
  · rw [if_pos small11_true, encC_is ha hb, encR_is ha hb, right_same, name_same]
    simp
theorem back11_true {c d : GCommand} (load : List UInt8) (wc : wfGCommand c) (wd : wfGCommand d) (wl : load.length ≤ 140737488355328) : back11 c d load = true := by
  obtain ⟨_, ct, ca, cb⟩ := wc
  obtain ⟨_, dt, da, db⟩ := wd
  unfold maxLen at ct dt
  unfold back11
  split
  · exact small11_true
  · rename_i hlen
    have hl : load.length ≤ 140737488355328 := wl
    have ec := encC_is ca cb
    have ed := encC_is da db
    have h43 : back11_J43 c d = .inr () := by
      unfold back11_J43
      rw [ec, ed]
      by_cases hc : rightC c = true
      · simp only [hc, if_true]
        by_cases hd : rightC d = true
        · simp only [hd, if_true]
          have e : (body c == body d) = ((c.Do == d.Do) && ((c.Text == d.Text) && ((c.A == d.A) && ((c.B == d.B) && true)))) := by
            rw [Bool.eq_iff_iff]
            constructor
            · intro h
              have h1 := eq_of_beq h
              have h2 := decC_body ((rightC_iff c).1 hc) ca cb
              rw [h1, decC_body ((rightC_iff d).1 hd) da db] at h2
              have h3 := congrArg Prod.fst h2
              simp only at h3
              subst h3; simp
            · intro h
              simp only [Bool.and_eq_true, beq_iff_eq, and_true] at h
              obtain ⟨h1, h2, h3, h4⟩ := h
              have : c = d := by cases c; cases d; simp_all
              subst this; simp
          rw [e]
          simp
        · simp [hd]
      · simp [hc]
    rw [h43]
    simp only
    have h67 : back11_J67 c = .inr () := by
      unfold back11_J67
      rw [ec]
      by_cases hc : rightC c = true
      · have hR := (rightC_iff c).1 hc
        have hbl := body_len hR
        simp only [hc, if_true, decC_body hR ca cb, decC_more hR ca cb]
        simp
        omega
      · simp [hc]
    rw [h67]
    simp only
    rcases decC_bad load with h | h
    · rw [if_pos h, if_pos small11_true]
      obtain ⟨q1, q2, q3, q4⟩ := decC_ok2 hl h
      rw [encC_is q2 q3, if_pos ((rightC_iff _).2 q1)]
      simp [q4]
    · rw [h]
      simp [back11_J106, h, small11_true]
theorem reads11_yes (load : List UInt8) (load_f : Bool) : Ok Tryd.prog 4 [.pv (.slc load.length load_f (encY load))] [] (B true) [] [] := by
  have h := reads11_ok load load_f; rw [reads11_true] at h; exact h
theorem writes11_yes (c : GCommand) (s : List UInt8) (wc : wfGCommand c) (ws : s.length ≤ maxLen) : Ok Tryd.prog 3 [aGCommand c, .pv (.str s)] [] (B true) [] [] := by
  have h := writes11_ok c s (by have := wc.2.1; unfold maxLen at this; omega) (by unfold maxLen at ws; omega); rw [writes11_true s wc] at h; exact h
theorem back11_yes (c d : GCommand) (load : List UInt8) (load_f : Bool) (wc : wfGCommand c) (wd : wfGCommand d) (wl : load.length ≤ 140737488355328) : Ok Tryd.prog 5 [aGCommand c, aGCommand d, .pv (.slc load.length load_f (encY load))] [] (B true) [] [] := by
  have h := back11_ok c d load load_f (by have := wc.2.1; unfold maxLen at this; omega) (by have := wd.2.1; unfold maxLen at this; omega); rw [back11_true load wc wd wl] at h; exact h

end Go.Proofs.YtghnjjbhcmcocaaDoor

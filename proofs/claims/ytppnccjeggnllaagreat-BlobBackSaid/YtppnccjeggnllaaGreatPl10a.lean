import Derived.Test.YtppnccjeggnllaaGreatNumk
namespace Go.Proofs.YtppnccjeggnllaaGreat
open Go Go.RowKit Go.Proofs.YtppnccjeggnllaaGreatVm
attribute [local irreducible] zY zaM OpsS
set_option maxHeartbeats 400000
set_option maxRecDepth 100000
set_option linter.all false
def rdN (b : List UInt8) : Nat → Nat → Option (List Int × Nat)
 | 0, k => some ([], k)
 | n + 1, k => match rd (b.drop k) with
  | none => none
  | some (v, s) => match rdN b n (k + s) with
   | none => none
   | some (l, j) => some (uf v :: l, j)
theorem zk3 : ∀ {b : List UInt8} (n k : Nat) {l : List Int} {j : Nat}, rdN b n k = some (l, j) → k ≤ b.length → l.length = n ∧ (∀ y ∈ l, InR y) ∧ b.drop k = l.flatMap VV ++ b.drop j ∧ j ≤ b.length
 | b, 0, k, l, j, h, hk => by
  simp only [rdN, Option.some.injEq, Prod.mk.injEq] at h
  obtain ⟨rfl, rfl⟩ := h
  exact ⟨rfl, by simp, by simp, hk⟩
 | b, n + 1, k, l, j, h, hk => by
  rw [rdN] at h
  cases h1 : rd (b.drop k) with
  | none => rw [h1] at h; cases h
  | some p =>
   obtain ⟨v, s⟩ := p
   rw [h1] at h
   simp only at h
   obtain ⟨g1, g2, g3, g4⟩ := zfm h1
   rw [List.length_drop] at g4
   cases h2 : rdN b n (k + s) with
   | none => rw [h2] at h; cases h
   | some q =>
    obtain ⟨l', j'⟩ := q
    rw [h2] at h
    simp only [Option.some.injEq, Prod.mk.injEq] at h
    obtain ⟨rfl, rfl⟩ := h
    obtain ⟨i1, i2, i3, i4⟩ := zk3 n (k + s) h2 (by omega)
    have e : VV (uf v) = v7 9 v := by unfold VV; rw [zrN (by omega)]; rfl
    refine ⟨by simp [i1], ?_, ?_, i4⟩
    ·intro y hy
     rcases List.mem_cons.1 hy with rfl | hy
     ·exact zrL (by omega) (by omega)
     ·exact i2 y hy
    ·rw [g2, List.drop_drop, i3, List.flatMap_cons, e, List.append_assoc]
theorem zqj {b : List UInt8} : ∀ (l : List Int) (k : Nat) (r : List UInt8), (∀ y ∈ l, InR y) → b.drop k = l.flatMap VV ++ r → rdN b l.length k = some (l, k + (l.flatMap VV).length)
 | [], k, r, _, _ => by simp [rdN]
 | x :: l, k, r, h, hd => by
  have hx := h x (List.mem_cons_self ..)
  have h1 := zrm hx
  rw [List.length_cons, rdN, hd, List.flatMap_cons, List.append_assoc]
  rw [show VV x = v7 9 (fd x).toNat from rfl, zrC (by omega)]
  simp only
  have hd2 : b.drop (k + (VV x).length) = l.flatMap VV ++ r := by
   rw [← List.drop_drop, hd, List.flatMap_cons, List.append_assoc, List.drop_left]
  rw [show (v7 9 (fd x).toNat).length = (VV x).length from rfl, zqj l (k + (VV x).length) r (fun y hy => h y (List.mem_cons_of_mem _ hy)) hd2]
  simp only
  rw [Int.toNat_of_nonneg h1.1, zrM, List.length_append, Nat.add_assoc]; rfl

def BB (l : List Int) : List UInt8 := v7 9 l.length ++ l.flatMap VV
def mg : List UInt8 := [66, 82, 87, 49]
theorem zoq (b : List UInt8) (n : Nat) (h : n < 18446744073709551616) : put b (n : Int) = b ++ v7 9 n := by
 have := (zoa 9 b n (Nat.lt_of_lt_of_le h (by decide)) h (n : Int) rfl).1
 unfold put; exact this
theorem zoJ (b : List UInt8) (n : Nat) (h : n < 9223372036854775808) : putU b (n : Int) = b ++ v7 9 n := by
 unfold putU
 rw [show max (n : Int) 0 = (n : Int) by omega, zd2, show (n : Int) % 18446744073709551616 = (n : Int) by omega]
 exact zoq b n (by omega)
theorem zhi : ∀ (l : List Int) (k : Nat) (b : List UInt8), (∀ y ∈ l, InR y) → zbp l k b = b ++ l.flatMap VV
 | [], k, b, _ => by rw [zbp]; simp
 | x :: l, k, b, h => by
  have h1 := zrm (h x (List.mem_cons_self ..))
  have h2 := zoq b (fd x).toNat (by omega)
  rw [Int.toNat_of_nonneg h1.1] at h2
  rw [zbp, zqN (h x (List.mem_cons_self ..)), h2, zhi l _ _ (fun y hy => h y (List.mem_cons_of_mem _ hy)), List.flatMap_cons, List.append_assoc]; rfl
theorem zpR (b : List UInt8) (l : List Int) (h : ∀ y ∈ l, InR y) (hn : l.length ≤ 1400000) : zji b l = b ++ BB l := by
 unfold zji BB
 dsimp only
 rw [zoJ b l.length (by omega), zhi _ _ _ h, List.append_assoc]
theorem zrG (n : Int) : 1 ≤ (VV n).length := (zgz 9 _).1
theorem zm5 : ∀ l : List Int, l.length ≤ (l.flatMap VV).length
 | [] => by simp
 | x :: l => by
  have h1 := zm5 l
  have h2 := zrG x
  rw [List.flatMap_cons, List.length_append, List.length_cons]; omega
def rdB (b : List UInt8) (k : Nat) : Option (List Int × Nat) := match rd (b.drop k) with
 | none => none
 | some (n, s) => if n ≤ b.length then rdN b n (k + s) else none
theorem zgK {b : List UInt8} (hb : b.length ≤ 9223372036854775807) (at_ : Int) : ∀ (n k : Nat) (o : List Int) (a : Nat), a ≤ b.length →
  (rdN b n a = none → ∃ r, zat b at_ n k o (a : Int) = .inl r ∧ r.2.2 ≠ 0) ∧ ∀ l j, rdN b n a = some (l, j) → zat b at_ n k o (a : Int) = .inr (o ++ l, (j : Int))
 | 0, k, o, a, h => by
  refine ⟨fun h1 => by simp [rdN] at h1, fun l j h1 => ?_⟩
  simp only [rdN, Option.some.injEq, Prod.mk.injEq] at h1
  obtain ⟨rfl, rfl⟩ := h1
  simp [zat]
 | n + 1, k, o, a, h => by
  rw [zat, zpM hb h, rdN]
  unfold rI
  cases h1 : rd (b.drop a) with
  | none =>
   dsimp only
   rw [if_neg (by decide)]
   exact ⟨fun _ => ⟨_, rfl, show ¬ ((2 : Int) = 0) by decide⟩, fun l j h2 => by cases h2⟩
  | some p =>
   obtain ⟨v, s⟩ := p
   have h2 := zfm h1
   rw [List.length_drop] at h2
   dsimp only
   rw [if_pos rfl]
   obtain ⟨i1, i2⟩ := zgK hb at_ n (k + 1) (o ++ [uf (v : Int)]) (a + s) (by omega)
   cases h3 : rdN b n (a + s) with
   | none => exact ⟨fun _ => i1 h3, fun l j h4 => by cases h4⟩
   | some q =>
    refine ⟨(fun h4 => by cases h4), fun l j h4 => ?_⟩
    obtain ⟨l', j'⟩ := q
    simp only [Option.some.injEq, Prod.mk.injEq] at h4
    obtain ⟨rfl, rfl⟩ := h4
    rw [i2 l' j' h3, List.append_assoc]; rfl
theorem zpH {b : List UInt8} (hb : b.length ≤ 9223372036854775807) {k : Nat} (hk : k ≤ b.length) : zcB b (k : Int) = match rd (b.drop k) with
 | none => (0, (k : Int), 2)
 | some (n, s) => if (n : Int) > 9223372036854775807 then (0, (k : Int), 2) else ((n : Int), ((k + s : Nat) : Int), 0) := by
 unfold zcB read
 rw [if_neg (show ¬ (k : Int) < 0 by omega), if_neg (show ¬ (k : Int) > b.length by omega), Int.toNat_natCast, znG]
 cases h : rd (b.drop k) with
 | none => simp only [if_true]; rfl
 | some p =>
  obtain ⟨n, s⟩ := p
  have h0 := zmJ h
  have h1 := zfm h
  rw [List.length_drop] at h1
  simp only
  rw [if_neg (show ¬ (s : Int) = 0 by omega)]
  simp only
  rw [if_pos trivial]
  by_cases h2 : (n : Int) > 9223372036854775807
  ·rw [if_pos h2, if_pos h2]
  ·rw [if_neg h2, if_neg h2, zb1 (by omega) (by omega), show IntKind.i64.wrap ((k : Int) + (s : Int)) = ((k + s : Nat) : Int) by rw [IntKind.wrap_i64]; omega]
theorem zmW {b : List UInt8} (hb : b.length ≤ 9223372036854775807) {k : Nat} (hk : k ≤ b.length) :
  (rdB b k = none → (za6 b (k : Int) (b.length : Int)).2.2 ≠ 0) ∧ ∀ l j, rdB b k = some (l, j) → za6 b (k : Int) (b.length : Int) = (l, (j : Int), 0) := by
 unfold za6 cntP rdB
 have hu := zpH hb hk
 cases h : rd (b.drop k) with
 | none =>
  rw [h] at hu
  dsimp only at hu
  rw [hu]
  dsimp only
  rw [if_neg (show ¬ ((2 : Int) = 0) by decide), if_neg (show ¬ ((2 : Int) = 0) by decide)]
  exact ⟨fun _ => show ¬ ((2 : Int) = 0) by decide, fun l j h1 => by cases h1⟩
 | some p =>
  obtain ⟨n, s⟩ := p
  have h1 := zfm h
  rw [List.length_drop] at h1
  rw [h] at hu
  dsimp only at hu ⊢
  by_cases h2 : (n : Int) > 9223372036854775807
  ·rw [if_pos h2] at hu
   rw [hu]
   dsimp only
   rw [if_neg (show ¬ ((2 : Int) = 0) by decide), if_neg (show ¬ ((2 : Int) = 0) by decide), if_neg (show ¬ n ≤ b.length by omega)]
   exact ⟨fun _ => show ¬ ((2 : Int) = 0) by decide, fun l j h1 => by cases h1⟩
  ·rw [if_neg h2] at hu
   rw [hu]
   dsimp only
   rw [if_pos (show ((0 : Int) = 0) from rfl)]
   by_cases h3 : (n : Int) > (b.length : Int)
   ·rw [if_pos h3]
    dsimp only
    rw [if_neg (show ¬ ((3 : Int) = 0) by decide), if_neg (show ¬ n ≤ b.length by omega)]
    exact ⟨fun _ => show ¬ ((3 : Int) = 0) by decide, fun l j h1 => by cases h1⟩
   ·rw [if_neg h3]
    dsimp only
    rw [if_pos (show ((0 : Int) = 0) from rfl), if_pos (show n ≤ b.length by omega)]
    obtain ⟨i1, i2⟩ := zgK hb (k : Int) n 0 [] (k + s) (by omega)
    rw [show ((n : Int).toNat - 0) = n by omega]
    refine ⟨fun h4 => ?_, fun l j h4 => ?_⟩
    ·obtain ⟨r, h5, h6⟩ := i1 h4
     rw [h5]; exact h6
    ·rw [i2 l j h4]; rfl
theorem zpI {b : List UInt8} {k : Nat} {l : List Int} {j : Nat} (h : rdB b k = some (l, j)) : (∀ y ∈ l, InR y) ∧ b.drop k = BB l ++ b.drop j ∧ l.length ≤ b.length ∧ k + (BB l).length = j := by
 unfold rdB at h
 cases h1 : rd (b.drop k) with
 | none => rw [h1] at h; cases h
 | some p =>
  obtain ⟨n, s⟩ := p
  rw [h1] at h
  dsimp only at h
  split at h
  case isFalse => cases h
  rename_i h2
  obtain ⟨g1, g2, g3, g4⟩ := zfm h1
  rw [List.length_drop] at g4
  have hp := zmJ h1
  obtain ⟨i1, i2, i3, i4⟩ := zk3 n (k + s) h (by omega)
  rw [List.drop_drop, i3] at g2
  have e : BB l = v7 9 n ++ l.flatMap VV := by unfold BB; rw [i1]
  refine ⟨i2, by rw [e, List.append_assoc]; exact g2, by omega, ?_⟩
  have g5 := congrArg List.length g2
  have g6 := congrArg List.length i3
  rw [e]
  simp only [List.length_append, List.length_drop] at g5 g6 ⊢
  omega
theorem zrv {b : List UInt8} {k : Nat} {l : List Int} {r : List UInt8} (h : ∀ y ∈ l, InR y) (hl : l.length ≤ b.length) (hb : b.length < 18446744073709551616) (hd : b.drop k = BB l ++ r) : rdB b k = some (l, k + (BB l).length) := by
 unfold rdB
 rw [show rd (b.drop k) = some (l.length, (v7 9 l.length).length) by rw [hd, BB, List.append_assoc]; exact zrC (by omega) _]
 dsimp only
 rw [if_pos hl]
 have h2 : b.drop (k + (v7 9 l.length).length) = l.flatMap VV ++ r := by
  rw [← List.drop_drop, hd, BB, List.append_assoc, List.drop_left]
 rw [zqj l _ r h h2]
 unfold BB
 rw [List.length_append, Nat.add_assoc]
def decB (b : List UInt8) : Option (List Int) := if b.take 4 = mg then (match rdB b 4 with
 | none => none
 | some (l, j) => if j = b.length then some l else none) else none
theorem zrt (l : List Int) : l.length < (BB l).length := by
 have h1 := zm5 l
 have h2 := (zgz 9 l.length).1
 unfold BB; rw [List.length_append]; omega
theorem zm1 {b : List UInt8} {l : List Int} (h : decB b = some l) : b = mg ++ BB l ∧ ∀ y ∈ l, InR y := by
 unfold decB at h
 split at h
 case isFalse => cases h
 rename_i h1
 cases h2 : rdB b 4 with
 | none => rw [h2] at h; cases h
 | some p =>
  obtain ⟨l', j⟩ := p
  rw [h2] at h
  dsimp only at h
  split at h
  case isFalse => cases h
  rename_i h3
  cases h
  obtain ⟨g1, g2, g3, g4⟩ := zpI h2
  refine ⟨?_, g1⟩
  rw [h3, List.drop_length, List.append_nil] at g2
  rw [← g2, ← h1, List.take_append_drop]
theorem zkI {l : List Int} (h : ∀ y ∈ l, InR y) (hl : (BB l).length < 18446744073709551000) : decB (mg ++ BB l) = some l := by
 unfold decB
 have h1 := zrt l
 have h0 : (mg ++ BB l).length = 4 + (BB l).length := by rw [List.length_append]; rfl
 rw [if_pos (show (mg ++ BB l).take 4 = mg from rfl), zrv (b := mg ++ BB l) (k := 4) (r := []) h (by omega) (by omega) (by rw [List.append_nil]; rfl)]
 dsimp only
 rw [if_pos (by omega)]
end Go.Proofs.YtppnccjeggnllaaGreat

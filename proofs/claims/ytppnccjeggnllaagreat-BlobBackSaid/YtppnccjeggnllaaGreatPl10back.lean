import Derived.Test.YtppnccjeggnllaaGreatLaw10b
namespace Go.Proofs.YtppnccjeggnllaaGreat
open Go Go.RowKit Go.Proofs.YtppnccjeggnllaaGreatVm
attribute [local irreducible] zY zaM OpsS
set_option maxHeartbeats 400000
set_option maxRecDepth 100000
set_option linter.all false
theorem znF (a b : zG) : zex a b = true ↔ a = b := by
 obtain ⟨a1, a2, a3, a4, a5, a6, a7, a8⟩ := a
 obtain ⟨b1, b2, b3, b4, b5, b6, b7, b8⟩ := b
 unfold zex
 simp only [zG.mk.injEq]
 by_cases h : a8 = b8
 ·rw [if_pos h]
  by_cases h2 : (a1 == b1 && (a2 == b2 && (a3 == b3 && (a4 == b4 && (a5 == b5 && (a6 == b6 && true)))))) = true
  ·rw [if_pos h2]
   simp only [Bool.and_eq_true, beq_iff_eq, and_true] at h2
   simp only [beq_iff_eq]
   exact ⟨fun h3 => ⟨h2.1, h2.2.1, h2.2.2.1, h2.2.2.2.1, h2.2.2.2.2.1, h2.2.2.2.2.2, h3, h⟩, fun h3 => h3.2.2.2.2.2.2.1⟩
  ·rw [if_neg h2]
   refine ⟨(fun h3 => by cases h3), fun h3 => absurd ?_ h2⟩
   simp only [Bool.and_eq_true, beq_iff_eq, and_true]
   exact ⟨h3.1, h3.2.1, h3.2.2.1, h3.2.2.2.1, h3.2.2.2.2.1, h3.2.2.2.2.2.1⟩
 ·rw [if_neg h]
  exact ⟨(fun h3 => by cases h3), fun h3 => absurd h3.2.2.2.2.2.2.2 h⟩
theorem zob (a b : GFoe) : ze5 a b = true ↔ a = b := by
 obtain ⟨a1, a2, a3, a4, a5, a6, a7, a8⟩ := a
 obtain ⟨b1, b2, b3, b4, b5, b6, b7, b8⟩ := b
 unfold ze5
 simp only [GFoe.mk.injEq]
 by_cases h2 : (a1 == b1 && (a2 == b2 && (a3 == b3 && (a4 == b4 && (a5 == b5 && (a8 == b8 && true)))))) = true
 ·rw [if_pos h2]
  simp only [Bool.and_eq_true, beq_iff_eq, and_true] at h2
  by_cases h : a6 = b6
  ·rw [if_pos h]
   exact ⟨fun h3 => ⟨h2.1, h2.2.1, h2.2.2.1, h2.2.2.2.1, h2.2.2.2.2.1, h, of_decide_eq_true h3, h2.2.2.2.2.2⟩, fun h3 => decide_eq_true h3.2.2.2.2.2.2.1⟩
  ·rw [if_neg h]
   exact ⟨(fun h3 => by cases h3), fun h3 => absurd h3.2.2.2.2.2.1 h⟩
 ·rw [if_neg h2]
  refine ⟨(fun h3 => by cases h3), fun h3 => absurd ?_ h2⟩
  simp only [Bool.and_eq_true, beq_iff_eq, and_true]
  exact ⟨h3.1, h3.2.1, h3.2.2.1, h3.2.2.2.1, h3.2.2.2.2.1, h3.2.2.2.2.2.2.2⟩
theorem zpD {α : Type} [Inhabited α] {l : List α} {k : Nat} (h : k < l.length) : l.drop k = l.getD k default :: l.drop (k + 1) := by
 rw [List.drop_eq_getElem_cons h, List.getD_eq_getElem?_getD, List.getElem?_eq_getElem h]; rfl
theorem zkJ {α : Type} [Inhabited α] {eq : α → α → Bool} (he : ∀ x y, eq x y = true ↔ x = y) {L0 : List α → Nat → Sum Bool Unit} {s2 : List α} (h0 : ∀ k, L0 [] k = .inr ()) (h1 : ∀ x l k, L0 (x :: l) k = if eq x (s2.getD k default) = true then L0 l (k + 1) else .inl false) : ∀ (l : List α) (k : Nat), k + l.length = s2.length → (L0 l k = .inr () ↔ l = s2.drop k) ∧ ∀ r, L0 l k = .inl r → r = false
 | [], k, hk => by
  rw [h0]
  exact ⟨⟨fun _ => by rw [List.drop_eq_nil_of_le (by simp only [List.length_nil] at hk; omega)], fun _ => rfl⟩, fun r h => by cases h⟩
 | x :: l, k, hk => by
  rw [List.length_cons] at hk
  obtain ⟨i1, i2⟩ := zkJ he h0 h1 l (k + 1) (by omega)
  rw [h1, zpD (show k < s2.length by omega)]
  by_cases h : eq x (s2.getD k default) = true
  ·rw [if_pos h]
   refine ⟨?_, i2⟩
   rw [i1, (he _ _).1 h]
   exact ⟨fun h2 => by rw [← h2], fun h2 => (List.cons.inj h2).2⟩
  ·rw [if_neg h]
   exact ⟨⟨(fun h2 => by cases h2), fun h2 => absurd ((he _ _).2 (List.cons.inj h2).1) h⟩, fun r h2 => by cases h2; rfl⟩
theorem zkM (a b : List zG) : zdh a b (fun x1_ x2_ => zex x1_ x2_) = true ↔ a = b := by
 unfold zdh
 by_cases h : (a.length : Int) = b.length
 ·rw [if_pos h]
  obtain ⟨h1, h2⟩ := zkJ (eq := fun x1_ x2_ => zex x1_ x2_) znF (L0 := zaI b (fun x1_ x2_ => zex x1_ x2_)) (s2 := b) (fun _ => by rw [zaI]) (fun _ _ _ => by rw [zaI]) a 0 (by omega)
  rw [List.drop_zero] at h1
  rw [← h1]
  cases h3 : zaI b (fun x1_ x2_ => zex x1_ x2_) a 0 with
  | inl r => rw [h2 r h3]; exact ⟨(fun h => by cases h), (fun h => by cases h)⟩
  | inr u => exact ⟨fun _ => rfl, fun _ => rfl⟩
 ·rw [if_neg h]
  exact ⟨(fun h => by cases h), fun h2 => absurd (by rw [h2]) h⟩
theorem zke (a b : List GFoe) : zdy a b (fun x1_ x2_ => ze5 x1_ x2_) = true ↔ a = b := by
 unfold zdy
 by_cases h : (a.length : Int) = b.length
 ·rw [if_pos h]
  obtain ⟨h1, h2⟩ := zkJ (eq := fun x1_ x2_ => ze5 x1_ x2_) zob (L0 := zaE b (fun x1_ x2_ => ze5 x1_ x2_)) (s2 := b) (fun _ => by rw [zaE]) (fun _ _ _ => by rw [zaE]) a 0 (by omega)
  rw [List.drop_zero] at h1
  rw [← h1]
  cases h3 : zaE b (fun x1_ x2_ => ze5 x1_ x2_) a 0 with
  | inl r => rw [h2 r h3]; exact ⟨(fun h => by cases h), (fun h => by cases h)⟩
  | inr u => exact ⟨fun _ => rfl, fun _ => rfl⟩
 ·rw [if_neg h]
  exact ⟨(fun h => by cases h), fun h2 => absurd (by rw [h2]) h⟩
theorem zf1 (a b : zu) : zcU a b = true ↔ a = b := by
 obtain ⟨a1, a2, a3, ⟨a4, a5, a6⟩, ⟨a7, a8⟩, ⟨a9, a10⟩⟩ := a
 obtain ⟨b1, b2, b3, ⟨b4, b5, b6⟩, ⟨b7, b8⟩, ⟨b9, b10⟩⟩ := b
 unfold zcU zc5
 simp only [zu.mk.injEq, zax.mk.injEq, GPos.mk.injEq]
 rw [← zkM a1 b1, ← zke a3 b3]
 grind
theorem zos {c : zu} (hc : ∀ y ∈ fC c, InR y) (hl : (flat c).length ≤ 1400000) : enc c = if za5 c = true then (mg ++ BB (fC c), 0) else ([], 1) := by
 unfold enc
 rw [zfq] at hl ⊢
 rw [zpR _ _ hc hl]; rfl
theorem zqU {c : zu} (hc : ∀ y ∈ fC c, InR y) (hl : (flat c).length ≤ 1400000) (hr : za5 c = true) : dec (mg ++ BB (fC c)) = (c, 0) := by
 rw [zfq] at hl
 have hb := zqx (l := fC c)
 have h0 : (mg ++ BB (fC c)).length = 4 + (BB (fC c)).length := by rw [List.length_append]; rfl
 rw [zmQ (by omega), zkI hc (by omega)]
 dsimp only
 rw [zhN (by omega)]
 dsimp only
 rw [if_pos rfl, if_pos hr]
theorem zqY {b : List UInt8} (hb : b.length ≤ 16000000) (h : (dec b).2 = 0) : za5 (dec b).1 = true ∧ (∀ y ∈ fC (dec b).1, InR y) ∧ b = mg ++ BB (fC (dec b).1) := by
 have h1 := zmQ hb
 cases h2 : decB b with
 | none => rw [h2] at h1; rw [h1] at h; exact absurd h (show ¬ ((2 : Int) = 0) by decide)
 | some l =>
  rw [h2] at h1
  dsimp only at h1
  by_cases h3 : (zbN l).2 = true
  ·rw [if_pos h3] at h1
   by_cases h4 : za5 (zbN l).1 = true
   ·rw [if_pos h4] at h1
    rw [h1]
    dsimp only
    obtain ⟨h5, h6⟩ := zm1 h2
    rcases zkp l with h7 | ⟨_, h7⟩
    ·rw [h7] at h3; cases h3
    ·rw [← h7]; exact ⟨h4, h6, h5⟩
   ·rw [if_neg h4] at h1; rw [h1] at h; exact absurd h (show ¬ ((1 : Int) = 0) by decide)
  ·rw [if_neg h3] at h1; rw [h1] at h; exact absurd h (show ¬ ((2 : Int) = 0) by decide)
theorem zrb {b : List UInt8} (hb : b.length ≤ 16000000) (h : ¬ (dec b).2 = 0) : (dec b).1 = zjR ∧ ((dec b).2 = 1 ∨ (dec b).2 = 2) := by
 have h1 := zmQ hb
 cases h2 : decB b with
 | none => rw [h2] at h1; rw [h1]; exact ⟨rfl, .inr rfl⟩
 | some l =>
  rw [h2] at h1
  dsimp only at h1
  by_cases h3 : (zbN l).2 = true
  ·rw [if_pos h3] at h1
   by_cases h4 : za5 (zbN l).1 = true
   ·rw [if_pos h4] at h1; rw [h1] at h; exact absurd rfl h
   ·rw [if_neg h4] at h1; rw [h1]; exact ⟨rfl, .inl rfl⟩
  ·rw [if_neg h3] at h1; rw [h1]; exact ⟨rfl, .inr rfl⟩
theorem zrA {c d : zu} (hc : (fC c).length ≤ 1400000) (hd : (fC d).length ≤ 1400000) (h : fC c = fC d) : c = d := by
 have h1 := zhN (c := c) (by omega)
 have h2 := zhN (c := d) (by omega)
 rw [h, h2] at h1
 exact (Prod.mk.inj h1).1.symm
theorem zru {l m : List Int} (hl : ∀ y ∈ l, InR y) (hm : ∀ y ∈ m, InR y) (hs : l.length ≤ 1400000) (hs2 : m.length ≤ 1400000) (h : BB l = BB m) : l = m := by
 have b1 := zqx (l := l)
 have b2 := zqx (l := m)
 have h1 := zkI hl (by omega)
 have h2 := zkI hm (by omega)
 rw [h, h2] at h1
 exact (Option.some.inj h1).symm
theorem zkz {c d : zu} {b : List UInt8} (wc : zcZ c) (wd : zcZ d) : zbW c d b = true := by
 unfold zbW zcG
 dsimp only
 by_cases f1 : few9 c = true
 ·rw [if_pos f1]
  by_cases f2 : few9 d = true
  ·rw [if_pos f2]
   by_cases hb : (b.length : Int) > 4096
   ·rw [if_pos hb]; exact zc7
   ·rw [if_neg hb]
    have lc := (zbD f1).2
    have ld := (zbD f2).2
    have ic := zrw wc
    have id := zrw wd
    have ec := zos ic lc
    have ed := zos id ld
    have e1 : (((enc c).2 : Int) == 0) = za5 c := by
     rw [ec]
     by_cases h : za5 c = true
     ·rw [if_pos h, h]; rfl
     ·rw [if_neg h]; simp only [Bool.not_eq_true] at h; rw [h]; rfl
    rw [if_pos e1]
    have j1 : zbg c = .inr () := by
     unfold zbg
     by_cases h : za5 c = true
     ·rw [if_pos h] at ec
      rw [ec]
      dsimp only
      rw [if_pos rfl, zqU ic lc h]
      dsimp only
      rw [if_pos rfl, if_pos ((zf1 c c).2 rfl)]
     ·rw [if_neg h] at ec
      rw [ec, if_neg (show ¬ ((1 : Int) = 0) by decide)]
    have j2 : zbf c d = .inr () := by
     unfold zbf
     by_cases h : za5 c = true
     ·rw [if_pos h] at ec
      by_cases g : za5 d = true
      ·rw [if_pos g] at ed
       rw [ec, ed]
       dsimp only
       rw [if_pos rfl, if_pos rfl]
       rw [zfq] at lc ld
       rw [if_pos ?_]
       by_cases k : c = d
       ·rw [k, (zf1 d d).2 rfl]; exact beq_iff_eq.2 rfl
       ·have k1 : zcU c d = false := by
         cases h5 : zcU c d with
         | false => rfl
         | true => exact absurd ((zf1 c d).1 h5) k
        rw [k1]
        cases h5 : (mg ++ BB (fC c) == mg ++ BB (fC d)) with
        | false => rfl
        | true => exact absurd (zrA lc ld (zru ic id lc ld (List.append_cancel_left (beq_iff_eq.1 h5)))) k
      ·rw [if_neg g] at ed
       rw [ec, ed]
       dsimp only
       rw [if_pos rfl, if_neg (show ¬ ((1 : Int) = 0) by decide)]
     ·rw [if_neg h] at ec
      rw [ec, if_neg (show ¬ ((1 : Int) = 0) by decide)]
    rw [j1, j2]
    dsimp only
    by_cases h : (dec b).2 = 0
    ·obtain ⟨h1, h2, h3⟩ := zqY (by omega) h
     have ek := zos h2 (zbn h1).2
     rw [if_pos h1, ← h3] at ek
     rw [if_pos h, if_pos zc7, if_pos h1, ek]
     dsimp only
     rw [if_pos rfl]
     exact beq_iff_eq.2 rfl
    ·rw [if_neg h]
     obtain ⟨h1, h2⟩ := zrb (b := b) (by omega) h
     unfold zbm
     rw [if_pos zc7, h1, if_pos (show zcU zjR (⟨[], [], [], (⟨0, 0, []⟩ : zax), (⟨0, 0⟩ : GPos), (⟨0, 0⟩ : GPos)⟩ : zu) = true from (zf1 zjR zjR).2 rfl)]
     rcases h2 with h2 | h2
     ·rw [if_pos h2]
     ·rw [h2, if_neg (by decide)]; rfl
  ·rw [if_neg f2]; exact zc7
 ·rw [if_neg f1]; exact zc7
theorem zmc (c d : zu) (b : List UInt8) (b_f : Bool) (wc : zcZ c) (wd : zcZ d) : Ok Tryz.prog 6 [z1 c, z1 d, .pv (.slc b.length b_f (encY b))] [] (B true) [] [] := by
 have h := zow c d b b_f
 rwa [zkz wc wd] at h

end Go.Proofs.YtppnccjeggnllaaGreat

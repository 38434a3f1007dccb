import Derived.Test.YtppnccjeggnllaaGreatLaw10w
namespace Go.Proofs.YtppnccjeggnllaaGreat
open Go Go.RowKit Go.Proofs.YtppnccjeggnllaaGreatVm
attribute [local irreducible] zY zas OpsS
set_option maxHeartbeats 400000
set_option maxRecDepth 100000
set_option linter.all false
def fE (e : zaJ) : List Int := [e.Kind, e.Amount, e.Aura]
def fL (l : zcc) : List Int := [l.Phase, l.When, l.Arg, l.Do, l.Value]
def fP (p : zbD) : List Int := [p.Item, p.Weight]
def fb (b : Bool) : List Int := [zdm b]
def fU (a : zaI) : List Int := [a.Id, a.Kind, a.Ticks, a.Every, a.Stacks, a.Amount] ++ fb a.Harm
def fR {α : Type} (f : α → List Int) (l : List α) : List Int := (l.length : Int) :: l.flatMap f
def fA (a : zI) : List Int := [a.Id, a.Cast, a.Cool, a.Charges, a.Range, a.Cost] ++ (fb a.Sight ++ fR fE a.Effects)
def fF (f : GFoe) : List Int := [f.Id, f.Health, f.Hit, f.Every, f.Reach, f.Drops] ++ (fR fL f.Script ++ fR fP f.Hoard)
def fC (c : zA) : List Int := fR fA c.Abilities ++ (fR fU c.Auras ++ (fR fF c.Foes ++ ([c.Map.W, c.Map.H] ++ (fR fb c.Map.Wall ++ [c.Door.X, c.Door.Y, c.Lair.X, c.Lair.Y]))))
theorem zft {α : Type} {L0 : List α → Nat → List Int → List Int} {W : List Int → α → List Int} {f : α → List Int} (h0 : ∀ k o, L0 [] k o = o) (h1 : ∀ x l k o, L0 (x :: l) k o = L0 l (k + 1) (W o x)) (hW : ∀ o x, W o x = o ++ f x) : ∀ (l : List α) (k : Nat) (o : List Int), L0 l k o = o ++ l.flatMap f
 | [], k, o => by rw [h0]; simp
 | x :: l, k, o => by rw [h1, hW, zft h0 h1 hW l, List.flatMap_cons, List.append_assoc]
theorem ztk (o : List Int) (l : List zaJ) : ziB o l = o ++ fR fE l := by
 unfold ziB fR; dsimp only
 rw [zft (L0 := zbg) (W := effW) (f := fE) (fun _ _ => by rw [zbg]) (fun _ _ _ _ => by rw [zbg]) (fun _ _ => rfl), List.append_assoc]; rfl
theorem zsg (o : List Int) (l : List zcc) : ze9 o l = o ++ fR fL l := by
 unfold ze9 fR; dsimp only
 rw [zft (L0 := zbf) (W := zjN) (f := fL) (fun _ _ => by rw [zbf]) (fun _ _ _ _ => by rw [zbf]) (fun _ _ => rfl), List.append_assoc]; rfl
theorem ztg (o : List Int) (l : List zbD) : zhM o l = o ++ fR fP l := by
 unfold zhM fR; dsimp only
 rw [zft (L0 := zbi) (W := zgc) (f := fP) (fun _ _ => by rw [zbi]) (fun _ _ _ _ => by rw [zbi]) (fun _ _ => rfl), List.append_assoc]; rfl
theorem zsQ (o : List Int) (l : List Bool) : zel o l = o ++ fR fb l := by
 unfold zel fR; dsimp only
 rw [zft (L0 := zbd) (W := zjE) (f := fb) (fun _ _ => by rw [zbd]) (fun _ _ _ _ => by rw [zbd]) (fun _ _ => rfl), List.append_assoc]; rfl
theorem zsP (o : List Int) (l : List zaI) : zbt o l = o ++ fR fU l := by
 unfold zbt fR; dsimp only
 rw [zft (L0 := zbe) (W := zjK) (f := fU) (fun _ _ => by rw [zbe]) (fun _ _ _ _ => by rw [zbe]) (fun _ _ => rfl), List.append_assoc]; rfl
theorem zuh (o : List Int) (a : zI) : ablW o a = o ++ fA a := by
 unfold ablW fA; rw [ztk, List.append_assoc]; rfl
theorem zup (o : List Int) (f : GFoe) : foeW o f = o ++ fF f := by
 unfold foeW fF; rw [ztg, zsg, List.append_assoc, List.append_assoc]
theorem zrP (l : List zI) : zae l = fR fA l := by
 unfold zae fR; dsimp only
 rw [zft (L0 := zaO) (W := ablW) (f := fA) (fun _ _ => by rw [zaO]) (fun _ _ _ _ => by rw [zaO]) zuh]; rfl
theorem zth (o : List Int) (l : List GFoe) : zb2 o l = o ++ fR fF l := by
 unfold zb2 fR; dsimp only
 rw [zft (L0 := zbh) (W := foeW) (f := fF) (fun _ _ => by rw [zbh]) (fun _ _ _ _ => by rw [zbh]) zup, List.append_assoc]; rfl
theorem zkF (c : zA) : flat c = fC c := by
 unfold flat fC
 rw [zsQ, zth, zsP, zrP]
 simp only [List.append_assoc]


theorem zsv (b : Bool) : InR (zdm b) := by cases b <;> (unfold InR zdm; decide)
theorem zuR {n : Nat} (h : n ≤ 140737488355328) : InR (n : Int) := by unfold InR; omega
theorem znu {α : Type} {f : α → List Int} {l : List α} (hl : l.length ≤ 140737488355328) (h : ∀ x ∈ l, ∀ y ∈ f x, InR y) : ∀ y ∈ fR f l, InR y := by
 intro y hy
 unfold fR at hy
 rcases List.mem_cons.1 hy with rfl | hy
 ·exact zuR hl
 ·obtain ⟨x, hx, hy⟩ := List.mem_flatMap.1 hy
  exact h x hx y hy
theorem zvl {c : zA} (h : zd0 c) : ∀ y ∈ fC c, InR y := by
 have hfb : ∀ b : Bool, ∀ y ∈ fb b, InR y := by
  intro b y hy
  simp only [fb, List.mem_cons, List.not_mem_nil, or_false] at hy
  rw [hy]; exact zsv b
 obtain ⟨⟨a1, a2⟩, ⟨u1, u2⟩, ⟨f1, f2⟩, ⟨g1, g2, g3⟩, ⟨d1, d2⟩, ⟨l1, l2⟩⟩ := h
 have hE : ∀ e, zeE e → ∀ y ∈ fE e, InR y := by
  rintro e ⟨h1, h2, h3⟩ y hy
  simp only [fE, List.mem_cons, List.not_mem_nil, or_false] at hy
  rcases hy with rfl | rfl | rfl <;> assumption
 have hL : ∀ e, zhC e → ∀ y ∈ fL e, InR y := by
  rintro e ⟨h1, h2, h3, h4, h5⟩ y hy
  simp only [fL, List.mem_cons, List.not_mem_nil, or_false] at hy
  rcases hy with rfl | rfl | rfl | rfl | rfl <;> assumption
 have hP : ∀ e, zfQ e → ∀ y ∈ fP e, InR y := by
  rintro e ⟨h1, h2⟩ y hy
  simp only [fP, List.mem_cons, List.not_mem_nil, or_false] at hy
  rcases hy with rfl | rfl <;> assumption
 intro y hy
 unfold fC at hy
 simp only [List.mem_append] at hy
 rcases hy with hy | hy | hy | hy | hy | hy
 ·refine znu a2 (fun x hx y hy => ?_) y hy
  obtain ⟨h1, h2, h3, h4, h5, h6, h7, h8⟩ := a1 x hx
  unfold fA at hy
  simp only [List.mem_append, List.mem_cons, List.not_mem_nil, or_false] at hy
  rcases hy with (rfl | rfl | rfl | rfl | rfl | rfl) | hy | hy
  iterate 6 assumption
  ·exact hfb _ y hy
  ·exact znu h8 (fun e he => hE e (h7 e he)) y hy
 ·refine znu u2 (fun x hx y hy => ?_) y hy
  obtain ⟨h1, h2, h3, h4, h5, h6⟩ := u1 x hx
  unfold fU at hy
  simp only [List.mem_append, List.mem_cons, List.not_mem_nil, or_false] at hy
  rcases hy with (rfl | rfl | rfl | rfl | rfl | rfl) | hy
  iterate 6 assumption
  ·exact hfb _ y hy
 ·refine znu f2 (fun x hx y hy => ?_) y hy
  obtain ⟨h1, h2, h3, h4, h5, ⟨h6, h7⟩, ⟨h8, h9⟩, h10⟩ := f1 x hx
  unfold fF at hy
  simp only [List.mem_append, List.mem_cons, List.not_mem_nil, or_false] at hy
  rcases hy with (rfl | rfl | rfl | rfl | rfl | rfl) | hy | hy
  iterate 6 assumption
  ·exact znu h7 (fun e he => hL e (h6 e he)) y hy
  ·exact znu h9 (fun e he => hP e (h8 e he)) y hy
 ·simp only [List.mem_cons, List.not_mem_nil, or_false] at hy
  rcases hy with rfl | rfl <;> assumption
 ·exact znu g3 (fun e _ => hfb e) y hy
 ·simp only [List.mem_cons, List.not_mem_nil, or_false] at hy
  rcases hy with rfl | rfl | rfl | rfl <;> assumption
end Go.Proofs.YtppnccjeggnllaaGreat
namespace Go.Proofs.YtppnccjeggnllaaGreat
open Go Go.RowKit Go.Proofs.YtppnccjeggnllaaGreatVm
attribute [local irreducible] zY zas OpsS
set_option maxHeartbeats 400000
set_option maxRecDepth 100000
set_option linter.all false
def Good {α : Type} (id : α → Int) (right : α → Bool) : List α → Nat → Int → Prop
 | [], _, _ => True
 | x :: l, k, last => k ≠ 64 ∧ last < id x ∧ right x = true ∧ Good id right l (k + 1) (id x)
section
variable {α : Type} {id : α → Int} {right : α → Bool}
theorem Good.take : ∀ {l : List α} {k : Nat} {last : Int} (n : Nat), Good id right l k last → Good id right (l.take n) k last
 | [], _, _, n, h => by simp [Good]
 | x :: l, k, last, 0, h => trivial
 | x :: l, k, last, n + 1, h => ⟨h.1, h.2.1, h.2.2.1, Good.take n h.2.2.2⟩
theorem Good.mem : ∀ {l : List α} {k : Nat} {last : Int}, Good id right l k last → ∀ x ∈ l, last < id x ∧ right x = true
 | [], _, _, h, x, hx => by cases hx
 | y :: l, k, last, h, x, hx => by
  rcases List.mem_cons.1 hx with rfl | hx
  ·exact ⟨h.2.1, h.2.2.1⟩
  ·have := Good.mem h.2.2.2 x hx; exact ⟨Int.lt_trans h.2.1 this.1, this.2⟩
theorem Good.len : ∀ {l : List α} {k : Nat} {last : Int}, k ≤ 64 → Good id right l k last → k + l.length ≤ 64
 | [], _, _, hk, h => by simpa using hk
 | y :: l, k, last, hk, h => by have := Good.len (k := k + 1) (by have := h.1; omega) h.2.2.2; simp only [List.length_cons]; omega
theorem Good.one : ∀ {l : List α} {k : Nat} {last : Int}, Good id right l k last → ∀ x ∈ l, ∀ y ∈ l, id x = id y → x = y
 | [], _, _, h, x, hx, _, _ => by cases hx
 | z :: l, k, last, h, x, hx, y, hy => by
  intro e
  rcases List.mem_cons.1 hx with h8 | h8
  ·rcases List.mem_cons.1 hy with h9 | h9
   ·rw [h8, h9]
   ·have := (Good.mem h.2.2.2 y h9).1; rw [h8] at e; omega
  ·rcases List.mem_cons.1 hy with h9 | h9
   ·have := (Good.mem h.2.2.2 x h8).1; rw [h9] at e; omega
   ·exact Good.one h.2.2.2 x h8 y h9 e
end
theorem zjU (id : zI → Int) (right : zI → Bool) : ∀ (l : List zI) (k : Nat) (last : Int), (zaM id right l k last (-1) = -1 ∧ Good id right l k last) ∨ (zaM id right l k last (-1) ≥ 0 ∧ ¬ Good id right l k last)
 | [], k, last => .inl ⟨rfl, trivial⟩
 | x :: l, k, last => by
  rw [zaM]
  by_cases h1 : (k : Int) = 64
  ·rw [if_pos h1]; exact .inr ⟨by omega, fun h => h.1 (by omega)⟩
  ·rw [if_neg h1]
   by_cases h2 : id x ≤ last
   ·rw [if_pos h2]; exact .inr ⟨by omega, fun h => by have := h.2.1; omega⟩
   ·rw [if_neg h2]
    by_cases h3 : right x = true
    ·rw [if_pos h3]
     rcases zjU id right l (k + 1) (id x) with ⟨a, b⟩ | ⟨a, b⟩
     ·exact .inl ⟨a, by omega, by omega, h3, b⟩
     ·exact .inr ⟨a, fun h => b h.2.2.2⟩
    ·rw [if_neg h3]; exact .inr ⟨by omega, fun h => h3 h.2.2.1⟩
theorem zkj (id : zaI → Int) (right : zaI → Bool) : ∀ (l : List zaI) (k : Nat) (last : Int), (zaL id right l k last (-1) = -1 ∧ Good id right l k last) ∨ (zaL id right l k last (-1) ≥ 0 ∧ ¬ Good id right l k last)
 | [], k, last => .inl ⟨rfl, trivial⟩
 | x :: l, k, last => by
  rw [zaL]
  by_cases h1 : (k : Int) = 64
  ·rw [if_pos h1]; exact .inr ⟨by omega, fun h => h.1 (by omega)⟩
  ·rw [if_neg h1]
   by_cases h2 : id x ≤ last
   ·rw [if_pos h2]; exact .inr ⟨by omega, fun h => by have := h.2.1; omega⟩
   ·rw [if_neg h2]
    by_cases h3 : right x = true
    ·rw [if_pos h3]
     rcases zkj id right l (k + 1) (id x) with ⟨a, b⟩ | ⟨a, b⟩
     ·exact .inl ⟨a, by omega, by omega, h3, b⟩
     ·exact .inr ⟨a, fun h => b h.2.2.2⟩
    ·rw [if_neg h3]; exact .inr ⟨by omega, fun h => h3 h.2.2.1⟩
theorem zjY (id : GFoe → Int) (right : GFoe → Bool) : ∀ (l : List GFoe) (k : Nat) (last : Int), (zaS id right l k last (-1) = -1 ∧ Good id right l k last) ∨ (zaS id right l k last (-1) ≥ 0 ∧ ¬ Good id right l k last)
 | [], k, last => .inl ⟨rfl, trivial⟩
 | x :: l, k, last => by
  rw [zaS]
  by_cases h1 : (k : Int) = 64
  ·rw [if_pos h1]; exact .inr ⟨by omega, fun h => h.1 (by omega)⟩
  ·rw [if_neg h1]
   by_cases h2 : id x ≤ last
   ·rw [if_pos h2]; exact .inr ⟨by omega, fun h => by have := h.2.1; omega⟩
   ·rw [if_neg h2]
    by_cases h3 : right x = true
    ·rw [if_pos h3]
     rcases zjY id right l (k + 1) (id x) with ⟨a, b⟩ | ⟨a, b⟩
     ·exact .inl ⟨a, by omega, by omega, h3, b⟩
     ·exact .inr ⟨a, fun h => b h.2.2.2⟩
    ·rw [if_neg h3]; exact .inr ⟨by omega, fun h => h3 h.2.2.1⟩
structure Rc (c : zA) : Prop where
 ab : Good (fun x_ => idA x_) (fun x_ => okA x_ c) c.Abilities 0 0
 au : Good (fun x_ => idU x_) (fun x_ => zeb x_) c.Auras 0 0
 fo : Good (fun x_ => idF x_) (fun x_ => okF x_ c) c.Foes 0 0
 door : zbu c.Map c.Door = false
 lair : zbu c.Map c.Lair = false
theorem zp1 (c : zA) : zf4 c = true ↔ Rc c := by
 have ha := zjU (fun x_ => idA x_) (fun x_ => okA x_ c) c.Abilities 0 0
 have hu := zkj (fun x_ => idU x_) (fun x_ => zeb x_) c.Auras 0 0
 have hf := zjY (fun x_ => idF x_) (fun x_ => okF x_ c) c.Foes 0 0
 unfold zf4 zdP zgI zgC zhg
 dsimp only
 rcases ha with ⟨e1, g1⟩ | ⟨e1, g1⟩
 ·rw [e1, if_neg (by omega)]
  rcases hu with ⟨e2, g2⟩ | ⟨e2, g2⟩
  ·rw [e2, if_neg (by omega)]
   rcases hf with ⟨e3, g3⟩ | ⟨e3, g3⟩
   ·rw [e3, if_neg (by omega)]
    by_cases hd : zbu c.Map c.Door = true
    ·rw [if_pos hd]; exact ⟨(fun h => by cases h), fun h => by rw [h.door] at hd; cases hd⟩
    ·rw [if_neg hd]
     by_cases hl : zbu c.Map c.Lair = true
     ·rw [if_pos hl]; exact ⟨(fun h => by cases h), fun h => by rw [h.lair] at hl; cases hl⟩
     ·rw [if_neg hl]; exact ⟨fun _ => ⟨g1, g2, g3, by simpa using hd, by simpa using hl⟩, fun _ => rfl⟩
   ·rw [if_pos e3]; exact ⟨(fun h => by cases h), fun h => absurd h.fo g3⟩
  ·rw [if_pos e2]; exact ⟨(fun h => by cases h), fun h => absurd h.au g2⟩
 ·rw [if_pos e1]; exact ⟨(fun h => by cases h), fun h => absurd h.ab g1⟩
theorem zaq {n lo hi : Int} : zV n lo hi = true ↔ lo ≤ n ∧ n ≤ hi := by
 unfold zV
 split <;> simp <;> omega
theorem zd9 {l : List Int} : za3 l = true ↔ ∀ n ∈ l, 0 ≤ n ∧ n ≤ 1000000 := by
 unfold za3 zgx
 simp only [Bool.not_eq_true', List.any_eq_false, Bool.not_eq_true', Bool.not_eq_false, zaq]

end Go.Proofs.YtppnccjeggnllaaGreat
namespace Go.Proofs.YtppnccjeggnllaaGreat
open Go Go.RowKit Go.Proofs.YtppnccjeggnllaaGreatVm
attribute [local irreducible] zY zas OpsS
set_option maxHeartbeats 400000
set_option maxRecDepth 100000
set_option linter.all false
theorem zom (id : Int) : ∀ (l : List zaI) (k : Nat), zbV id l k = match l.findIdx? (fun x => isU x id) with | some i => .inl (l.getD i default, true) | none => .inr ()
 | [], k => by simp [zbV]
 | x :: l, k => by
  rw [zbV, zom id l (k + 1), List.findIdx?_cons]
  by_cases h : x.Id = id
  ·simp [h, isU, idU]
  ·have h2 : isU x id = false := by simpa [isU, idU] using h
   rw [if_neg h, h2]
   cases l.findIdx? (fun x => isU x id) <;> simp
theorem zsl (c : zA) (id : Int) : zi9 c id = getU c id := by
 unfold zi9 getU zi8 fidx
 rw [zom]
 cases h : c.Auras.findIdx? (fun x => isU x id) with
 | none => simp
 | some i => simp only [h]; rw [if_neg (by omega)]; simp

end Go.Proofs.YtppnccjeggnllaaGreat
namespace Go.Proofs.YtppnccjeggnllaaGreat
open Go Go.RowKit Go.Proofs.YtppnccjeggnllaaGreatVm
attribute [local irreducible] zY zas OpsS
set_option maxHeartbeats 400000
set_option maxRecDepth 100000
set_option linter.all false
theorem znL (id : Int) : ∀ (l : List zI) (k : Nat), zbW id l k = match l.findIdx? (fun x => isA x id) with | some i => .inl (l.getD i default, true) | none => .inr ()
 | [], k => by simp [zbW]
 | x :: l, k => by
  rw [zbW, znL id l (k + 1), List.findIdx?_cons]
  by_cases h : x.Id = id
  ·simp [h, isA, idA, zeL]
  ·have h2 : isA x id = false := by simpa [isA, idA] using h
   rw [if_neg h, h2]
   cases l.findIdx? (fun x => isA x id) <;> simp
theorem zsh (c : zA) (id : Int) : zjC c id = getA c id := by
 unfold zjC getA zf0 fidx zo4
 rw [znL]
 cases h : c.Abilities.findIdx? (fun x => isA x id) with
 | none => simp
 | some i => simp only [h]; rw [if_neg (by omega)]; simp
theorem z6 {n least : Int} : zR n least = true ↔ least ≤ n ∧ n ≤ 1000000 := by
 unfold zR
 split <;> simp <;> omega
theorem zi5 {a b : Bool} (h : a = true ↔ b = true) : a = b := Bool.eq_iff_iff.2 h
theorem zsG (a : zaI) : zcV a = zeb a := by
 apply zi5
 unfold zcV zeb zeo zdK za4 zcS zdH zdR zdD
 by_cases k1 : a.Kind = 1
 ·simp only [k1]; simp; by_cases h1 : zR a.Ticks 1 = true <;> by_cases h2 : zV a.Every 1 1000000 = true <;> simp_all [z6, zaq] <;> grind
 by_cases k2 : a.Kind = 2
 ·simp only [k2]; simp; by_cases h1 : zR a.Ticks 1 = true <;> by_cases h2 : zV a.Every 1 1000000 = true <;> simp_all [z6, zaq] <;> grind
 by_cases k3 : a.Kind = 3
 ·simp only [k3]; simp; by_cases h1 : zR a.Ticks 1 = true <;> by_cases h2 : a.Every = 0 <;> simp_all [z6, zaq] <;> grind
 by_cases k4 : a.Kind = 4
 ·simp only [k4]; simp; by_cases h1 : zR a.Ticks 1 = true <;> by_cases h2 : a.Every = 0 <;> simp_all [z6, zaq] <;> grind
 by_cases k5 : a.Kind = 5
 ·simp only [k5]; simp; by_cases h1 : zR a.Ticks 1 = true <;> by_cases h2 : a.Every = 0 <;> simp_all [z6, zaq] <;> grind
 by_cases k6 : a.Kind = 6
 ·simp only [k6]; simp; by_cases h1 : zR a.Ticks 1 = true <;> by_cases h2 : a.Every = 0 <;> simp_all [z6, zaq] <;> grind
 ·have hk : a.Kind < 1 ∨ a.Kind > 6 := by omega
  simp only [if_neg k1, if_neg k3, if_neg k5]
  have e2 : (a.Kind == 2) = false := by simpa using k2
  have e4 : (a.Kind == 4) = false := by simpa using k4
  have e6 : (a.Kind == 6) = false := by simpa using k6
  rw [e2, e4, e6]
  rcases hk with h | h
  ·simp [h]
  ·have : ¬ a.Kind < 1 := by omega
   simp [h, this]
theorem zjP {α : Type} (id : α → Int) (right : α → Bool) (l : List α) : ∀ (n k : Nat) (last : Int), k + n = min l.length 64 → ((k = 0 ∧ last = 0) ∨ (0 < k ∧ (l.map id).getD (k - 1) default = last ∧ 1 ≤ last)) →
  ((zah (l.map fun x => !right x) (l.map id) n k = .inr () ∧ l.length ≤ 64 ∧ Good id right (l.drop k) k last) ∨ ((∃ m : Nat, zah (l.map fun x => !right x) (l.map id) n k = .inl (m : Int)) ∧ ¬ Good id right (l.drop k) k last) ∨ (zah (l.map fun x => !right x) (l.map id) n k = .inr () ∧ l.length > 64 ∧ ¬ Good id right (l.drop k) k last))
 | 0, k, last, hn, hl => by
  rw [zah]
  by_cases h : l.length ≤ 64
  ·left
   refine ⟨rfl, h, ?_⟩
   rw [List.drop_of_length_le (by omega)]; trivial
  ·right; right
   refine ⟨rfl, by omega, ?_⟩
   have hk : k = 64 := by omega
   rw [List.drop_eq_getElem_cons (by omega)]
   intro hg; exact hg.1 hk
 | n + 1, k, last, hn, hl => by
  have hk : k < l.length := by omega
  have eb : (l.map fun x => !right x).getD k default = !right l[k] := by rw [List.getD_eq_getElem?_getD, List.getElem?_map, List.getElem?_eq_getElem hk]; rfl
  have ei : (l.map id).getD k default = id l[k] := by rw [List.getD_eq_getElem?_getD, List.getElem?_map, List.getElem?_eq_getElem hk]; rfl
  rw [zah, eb, ei, List.drop_eq_getElem_cons hk]
  by_cases h1 : right l[k] = true
  ·rw [if_neg (by simp [h1])]
   by_cases h2 : id l[k] < 1
   ·rw [if_pos h2]
    right; left
    exact ⟨⟨k, rfl⟩, fun hg => by have := hg.2.1; rcases hl with ⟨_, h⟩ | ⟨_, _, h⟩ <;> omega⟩
   ·rw [if_neg h2]
    have rec_ := zjP id right l n (k + 1) (id l[k]) (by omega) (.inr ⟨by omega, by rw [Nat.add_sub_cancel, ei], by omega⟩)
    have key : last < id l[k] → ((zah (l.map fun x => !right x) (l.map id) n (k + 1) = .inr () ∧ l.length ≤ 64 ∧ Good id right (l[k] :: l.drop (k + 1)) k last) ∨ ((∃ m : Nat, zah (l.map fun x => !right x) (l.map id) n (k + 1) = .inl (m : Int)) ∧ ¬ Good id right (l[k] :: l.drop (k + 1)) k last) ∨ (zah (l.map fun x => !right x) (l.map id) n (k + 1) = .inr () ∧ l.length > 64 ∧ ¬ Good id right (l[k] :: l.drop (k + 1)) k last)) := fun hlt => by
     rcases rec_ with ⟨a, b, c⟩ | ⟨a, b⟩ | ⟨a, b, c⟩
     ·exact .inl ⟨a, b, by omega, hlt, h1, c⟩
     ·exact .inr (.inl ⟨a, fun hg => b hg.2.2.2⟩)
     ·exact .inr (.inr ⟨a, b, fun hg => c hg.2.2.2⟩)
    rcases hl with ⟨h3, h4⟩ | ⟨h3, h4, h5⟩
    ·rw [if_neg (by omega)]; exact key (by omega)
    ·rw [if_pos (by omega)]
     have ew : (IntKind.i64.wrap ((k : Int) - 1)).toNat = k - 1 := by simp only [IntKind.wrap_i64]; omega
     rw [ew, h4]
     by_cases h6 : id l[k] ≤ last
     ·rw [if_pos h6]
      right; left
      exact ⟨⟨k, rfl⟩, fun hg => by have := hg.2.1; omega⟩
     ·rw [if_neg h6]; exact key (by omega)
  ·rw [if_pos (by simp [h1])]
   right; left
   exact ⟨⟨k, rfl⟩, fun hg => h1 hg.2.2.1⟩
theorem zjp {α : Type} (id : α → Int) (right : α → Bool) (l : List α) : (zbM (l.map fun x => !right x) (l.map id) < 0 ∧ Good id right l 0 0) ∨ (zbM (l.map fun x => !right x) (l.map id) ≥ 0 ∧ ¬ Good id right l 0 0) := by
 have h := zjP id right l (min l.length 64) 0 0 (by omega) (.inl ⟨rfl, rfl⟩)
 unfold zbM
 rw [List.length_map, Nat.sub_zero]
 rw [List.drop_zero] at h
 rcases h with ⟨a, b, c⟩ | ⟨⟨m, a⟩, b⟩ | ⟨a, b, c⟩
 ·rw [a]; dsimp only; rw [if_neg (by omega)]; exact .inl ⟨by omega, c⟩
 ·rw [a]; dsimp only; exact .inr ⟨by omega, b⟩
 ·rw [a]; dsimp only; rw [if_pos (by omega)]; exact .inr ⟨by omega, c⟩
theorem ziw (c : zA) : ∀ (l : List zaJ) (k : Nat), (z2 c l k = .inr () ∧ ∀ e ∈ l, zbw c e = true) ∨ (z2 c l k = .inl false ∧ ¬ ∀ e ∈ l, zbw c e = true)
 | [], k => .inl ⟨rfl, by simp⟩
 | x :: l, k => by
  rw [z2, zsl]
  have ih := ziw c l (k + 1)
  have hx : zbw c x = true ↔ (1 ≤ x.Kind ∧ x.Kind ≤ 7) ∧ (0 ≤ x.Amount ∧ x.Amount ≤ 1000000) ∧ (x.Kind = 4 → (getU c x.Aura).2 = true ∧ x.Amount = 0) ∧ (x.Kind ≠ 4 → x.Aura = 0) := by
   unfold zbw
   by_cases h1 : zV x.Kind 1 7 = true
   ·rw [if_pos h1]
    by_cases h2 : za3 [x.Amount] = true
    ·rw [if_pos h2]
     have h3 := zd9.1 h2 x.Amount (by simp)
     have h4 := zaq.1 h1
     by_cases h5 : x.Kind = 4
     ·rw [if_pos h5]; split <;> simp_all
     ·rw [if_neg h5]; simp_all
    ·rw [if_neg h2]
     have : ¬ (0 ≤ x.Amount ∧ x.Amount ≤ 1000000) := fun h => h2 (zd9.2 (by simpa using h))
     simp only [Bool.false_eq_true, false_iff]; exact fun h => this h.2.1
   ·rw [if_neg h1]
    have : ¬ (1 ≤ x.Kind ∧ x.Kind ≤ 7) := fun h => h1 (zaq.2 h)
    simp only [Bool.false_eq_true, false_iff]; exact fun h => this h.1
  have bad : zbw c x ≠ true → ¬ ∀ e ∈ x :: l, zbw c e = true := fun h h2 => h (h2 x (by simp))
  have good : zbw c x = true → ((z2 c l (k + 1) = .inr () ∧ ∀ e ∈ x :: l, zbw c e = true) ∨ (z2 c l (k + 1) = .inl false ∧ ¬ ∀ e ∈ x :: l, zbw c e = true)) := fun h => by
   rcases ih with ⟨a, b⟩ | ⟨a, b⟩
   ·exact .inl ⟨a, fun e he => by rcases List.mem_cons.1 he with rfl | he; exact h; exact b e he⟩
   ·exact .inr ⟨a, fun h2 => b fun e he => h2 e (List.mem_cons_of_mem _ he)⟩
  by_cases h1 : x.Kind < 1
  ·rw [if_pos h1]; exact .inr ⟨rfl, bad fun h => by have := hx.1 h; omega⟩
  rw [if_neg h1]
  by_cases h2 : x.Kind > 7
  ·rw [if_pos h2]; exact .inr ⟨rfl, bad fun h => by have := hx.1 h; omega⟩
  rw [if_neg h2]
  by_cases h3 : zR x.Amount 0 = true
  ·rw [if_pos h3]
   have h4 := z6.1 h3
   unfold zbx
   by_cases h5 : x.Kind = 4
   ·rw [if_pos h5]
    dsimp only
    rw [if_pos h5]
    by_cases h6 : (getU c x.Aura).2 = true
    ·rw [if_pos h6]
     by_cases h7 : x.Amount = 0
     ·rw [if_pos h7]; exact good (hx.2 ⟨by omega, h4, fun _ => ⟨h6, h7⟩, fun h => absurd h5 h⟩)
     ·rw [if_neg h7]; exact .inr ⟨rfl, bad fun h => h7 ((hx.1 h).2.2.1 h5).2⟩
    ·rw [if_neg h6]; exact .inr ⟨rfl, bad fun h => h6 ((hx.1 h).2.2.1 h5).1⟩
   ·rw [if_neg h5]
    by_cases h6 : x.Aura = 0
    ·rw [if_pos h6]
     dsimp only
     rw [if_neg h5]; exact good (hx.2 ⟨by omega, h4, fun h => absurd h h5, fun _ => h6⟩)
    ·rw [if_neg h6]; exact .inr ⟨rfl, bad fun h => h6 ((hx.1 h).2.2.2 h5)⟩
  ·rw [if_neg h3]; exact .inr ⟨rfl, bad fun h => h3 (z6.2 (hx.1 h).2.1)⟩
theorem zmX (c : zA) (a : zI) : zad c a = zco c a := by
 apply zi5
 have h9 : zco c a = true ↔ ((0 ≤ a.Cast ∧ a.Cast ≤ 1000000) ∧ (0 ≤ a.Cool ∧ a.Cool ≤ 1000000) ∧ (0 ≤ a.Range ∧ a.Range ≤ 1000000) ∧ (0 ≤ a.Cost ∧ a.Cost ≤ 1000000)) ∧ (1 ≤ a.Charges ∧ a.Charges ≤ 100) ∧ (1 ≤ (a.Effects.length : Int) ∧ (a.Effects.length : Int) ≤ 16) ∧ ∀ e ∈ a.Effects, zbw c e = true := by
  unfold zco
  have e1 : za3 [a.Cast, a.Cool, a.Range, a.Cost] = true ↔ ((0 ≤ a.Cast ∧ a.Cast ≤ 1000000) ∧ (0 ≤ a.Cool ∧ a.Cool ≤ 1000000) ∧ (0 ≤ a.Range ∧ a.Range ≤ 1000000) ∧ (0 ≤ a.Cost ∧ a.Cost ≤ 1000000)) := by rw [zd9]; simp
  have e2 : (!(a.Effects.any (fun x_ => badE x_ c))) = true ↔ ∀ e ∈ a.Effects, zbw c e = true := by simp [badE]
  rw [← e1, ← e2, ← zaq, ← zaq]
  split
  ·split
   ·split
    ·simp_all
    ·simp_all
   ·simp_all
  ·simp_all
 rw [h9]
 unfold zad
 have g := ziw c a.Effects 0
 by_cases h1 : zR a.Cast 0 = true
 ·rw [if_pos h1]
  by_cases h2 : zR a.Cool 0 = true
  ·rw [if_pos h2]
   by_cases h3 : zR a.Range 0 = true
   ·rw [if_pos h3]
    by_cases h4 : zR a.Cost 0 = true
    ·rw [if_pos h4]
     rw [z6] at h1 h2 h3 h4
     by_cases h5 : a.Charges < 1
     ·rw [if_pos h5]; exact ⟨(fun h => by cases h), fun h => by omega⟩
     rw [if_neg h5]
     by_cases h6 : a.Charges > 100
     ·rw [if_pos h6]; exact ⟨(fun h => by cases h), fun h => by omega⟩
     rw [if_neg h6]
     by_cases h7 : (a.Effects.length : Int) < 1
     ·rw [if_pos h7]; exact ⟨(fun h => by cases h), fun h => by omega⟩
     rw [if_neg h7]
     by_cases h8 : (a.Effects.length : Int) > 16
     ·rw [if_pos h8]; exact ⟨(fun h => by cases h), fun h => by omega⟩
     rw [if_neg h8]
     rcases g with ⟨e, g⟩ | ⟨e, g⟩
     ·rw [e]; exact ⟨fun _ => ⟨⟨h1, h2, h3, h4⟩, by omega, by omega, g⟩, fun _ => rfl⟩
     ·rw [e]; exact ⟨(fun h => by cases h), fun h => absurd h.2.2.2 g⟩
    ·rw [if_neg h4, ]; exact ⟨(fun h => by cases h), fun h => absurd (z6.2 h.1.2.2.2) h4⟩
   ·rw [if_neg h3]; exact ⟨(fun h => by cases h), fun h => absurd (z6.2 h.1.2.2.1) h3⟩
  ·rw [if_neg h2]; exact ⟨(fun h => by cases h), fun h => absurd (z6.2 h.1.2.1) h2⟩
 ·rw [if_neg h1]; exact ⟨(fun h => by cases h), fun h => absurd (z6.2 h.1.1) h1⟩
theorem znE {n : Int} : za3 [n] = true ↔ 0 ≤ n ∧ n ≤ 1000000 := by rw [zd9]; simp
theorem ztn {n m : Int} : za3 [n, m] = true ↔ (0 ≤ n ∧ n ≤ 1000000) ∧ (0 ≤ m ∧ m ≤ 1000000) := by rw [zd9]; simp
theorem zrV (c : zA) (l : zcc) : zdp c l = true ↔ (1 ≤ l.Phase ∧ l.Phase ≤ 100) ∧ (1 ≤ l.When ∧ l.When ≤ 3) ∧ (1 ≤ l.Arg ∧ l.Arg ≤ if l.When = 1 then 100 else 1000000) ∧ (0 ≤ l.Value ∧ l.Value ≤ 1000000) ∧ (1 ≤ l.Do ∧ l.Do ≤ 4) ∧ (l.Do = 1 → 1 ≤ l.Value ∧ l.Value ≤ 100) ∧ (l.Do = 2 → (getA c l.Value).2 = true) := by
 unfold zdp zeq
 dsimp only
 by_cases h1 : zV l.Phase 1 100 = true
 ·rw [if_pos h1]
  by_cases h2 : zV l.When 1 3 = true
  ·rw [if_pos h2]
   by_cases h3 : zV l.Arg 1 (if l.When = 1 then 100 else 1000000) = true
   ·rw [if_pos h3]
    by_cases h4 : za3 [l.Value] = true
    ·rw [if_pos h4]
     rw [zaq] at h1 h2 h3
     rw [znE] at h4
     by_cases h5 : l.Do = 1
     ·rw [if_pos h5, zaq]
      exact ⟨fun h => ⟨h1, h2, h3, h4, by omega, fun _ => h, fun h => by omega⟩, fun h => h.2.2.2.2.2.1 h5⟩
     rw [if_neg h5]
     by_cases h6 : l.Do = 2
     ·rw [if_pos h6]
      exact ⟨fun h => ⟨h1, h2, h3, h4, by omega, fun h => by omega, fun _ => h⟩, fun h => h.2.2.2.2.2.2 h6⟩
     rw [if_neg h6]
     by_cases h7 : l.Do = 3
     ·rw [if_pos h7]
      exact ⟨fun h => ⟨h1, h2, h3, h4, by omega, fun h => by omega, fun h => by omega⟩, fun _ => rfl⟩
     rw [if_neg h7, beq_iff_eq]
     exact ⟨fun h => ⟨h1, h2, h3, h4, by omega, fun h => by omega, fun h => by omega⟩, fun h => by have := h.2.2.2.2.1; omega⟩
    ·rw [if_neg h4]; exact ⟨(fun h => by cases h), fun h => absurd (znE.2 h.2.2.2.1) h4⟩
   ·rw [if_neg h3]; exact ⟨(fun h => by cases h), fun h => absurd (zaq.2 h.2.2.1) h3⟩
  ·rw [if_neg h2]; exact ⟨(fun h => by cases h), fun h => absurd (zaq.2 h.2.1) h2⟩
 ·rw [if_neg h1]; exact ⟨(fun h => by cases h), fun h => absurd (zaq.2 h.1) h1⟩
theorem zm6 (l : zcc) : (zaw l = .inr () ∧ (1 ≤ l.Phase ∧ l.Phase ≤ 100) ∧ (1 ≤ l.When ∧ l.When ≤ 3) ∧ (1 ≤ l.Arg ∧ l.Arg ≤ if l.When = 1 then 100 else 1000000) ∧ (0 ≤ l.Value ∧ l.Value ≤ 1000000) ∧ (1 ≤ l.Do ∧ l.Do ≤ 4)) ∨ (zaw l = .inl false ∧ ¬ ((1 ≤ l.Phase ∧ l.Phase ≤ 100) ∧ (1 ≤ l.When ∧ l.When ≤ 3) ∧ (1 ≤ l.Arg ∧ l.Arg ≤ if l.When = 1 then 100 else 1000000) ∧ (0 ≤ l.Value ∧ l.Value ≤ 1000000) ∧ (1 ≤ l.Do ∧ l.Do ≤ 4))) := by
 unfold zaw
 by_cases h1 : l.Phase < 1
 ·rw [if_pos h1]; exact .inr ⟨rfl, fun h => by omega⟩
 rw [if_neg h1]
 by_cases h2 : l.Phase > 100
 ·rw [if_pos h2]; exact .inr ⟨rfl, fun h => by omega⟩
 rw [if_neg h2]
 by_cases h3 : l.When < 1
 ·rw [if_pos h3]; exact .inr ⟨rfl, fun h => by omega⟩
 rw [if_neg h3]
 by_cases h4 : l.When > 3
 ·rw [if_pos h4]; exact .inr ⟨rfl, fun h => by omega⟩
 rw [if_neg h4]
 by_cases h5 : l.Do < 1
 ·rw [if_pos h5]; exact .inr ⟨rfl, fun h => by omega⟩
 rw [if_neg h5]
 by_cases h6 : l.Do > 4
 ·rw [if_pos h6]; exact .inr ⟨rfl, fun h => by omega⟩
 rw [if_neg h6]
 by_cases h7 : zR l.Arg 1 = true
 ·rw [if_pos h7]
  rw [z6] at h7
  by_cases h8 : l.When = 1
  ·simp only [if_pos h8]
   by_cases h9 : l.Arg > 100
   ·rw [if_pos h9]; exact .inr ⟨rfl, fun h => by omega⟩
   rw [if_neg h9]
   by_cases h10 : zR l.Value 0 = true
   ·rw [if_pos h10]; rw [z6] at h10; exact .inl ⟨rfl, by omega, by omega, by omega, h10, by omega⟩
   ·rw [if_neg h10]; exact .inr ⟨rfl, fun h => h10 (z6.2 h.2.2.2.1)⟩
  ·simp only [if_neg h8]
   by_cases h10 : zR l.Value 0 = true
   ·rw [if_pos h10]; rw [z6] at h10; exact .inl ⟨rfl, by omega, by omega, by omega, h10, by omega⟩
   ·rw [if_neg h10]; exact .inr ⟨rfl, fun h => h10 (z6.2 h.2.2.2.1)⟩
 ·rw [if_neg h7]
  refine .inr ⟨rfl, fun h => h7 (z6.2 ⟨h.2.2.1.1, ?_⟩)⟩
  have := h.2.2.1.2
  split at this <;> omega
theorem zsL (c : zA) (l : zcc) : zcP c l = zdp c l := by
 apply zi5
 rw [zrV]
 unfold zcP zdC
 rcases zm6 l with ⟨e, h1, h2, h3, h4, h5⟩ | ⟨e, h⟩
 ·rw [e]
  dsimp only
  by_cases d1 : l.Do = 1
  ·rw [if_pos d1]
   by_cases v : l.Value ≥ 1
   ·rw [if_pos v, decide_eq_true_eq]
    exact ⟨fun h => ⟨h1, h2, h3, h4, h5, fun _ => by omega, fun h => by omega⟩, fun h => (h.2.2.2.2.2.1 d1).2⟩
   ·rw [if_neg v]; exact ⟨(fun h => by cases h), fun h => by have := h.2.2.2.2.2.1 d1; omega⟩
  ·rw [if_neg d1]
   by_cases d2 : l.Do = 2
   ·rw [if_pos d2, zsh]
    exact ⟨fun h => ⟨h1, h2, h3, h4, h5, fun h => by omega, fun _ => h⟩, fun h => h.2.2.2.2.2.2 d2⟩
   ·rw [if_neg d2]
    exact ⟨fun h => ⟨h1, h2, h3, h4, h5, fun h => by omega, fun h => by omega⟩, fun _ => rfl⟩
 ·rw [e]
  dsimp only
  exact ⟨(fun h => by cases h), fun h2 => absurd ⟨h2.1, h2.2.1, h2.2.2.1, h2.2.2.2.1, h2.2.2.2.2.1⟩ h⟩
theorem zop (c : zA) : ∀ (l : List zcc) (k : Nat), (zcM c l k = .inr () ∧ ∀ x ∈ l, zdp c x = true) ∨ (zcM c l k = .inl false ∧ ¬ ∀ x ∈ l, zdp c x = true)
 | [], k => .inl ⟨rfl, by simp⟩
 | x :: l, k => by
  rw [zcM, zsL]
  by_cases h : zdp c x = true
  ·rw [if_pos h]
   rcases zop c l (k + 1) with ⟨a, b⟩ | ⟨a, b⟩
   ·exact .inl ⟨a, fun e he => by rcases List.mem_cons.1 he with rfl | he; exact h; exact b e he⟩
   ·exact .inr ⟨a, fun h2 => b fun e he => h2 e (List.mem_cons_of_mem _ he)⟩
  ·rw [if_neg h]; exact .inr ⟨rfl, fun h2 => h (h2 x (by simp))⟩
theorem zqi (x : zbD) : zfh x = true ↔ zR x.Item 1 = true ∧ zR x.Weight 1 = true := by
 unfold zfh
 have e1 : zV x.Item 1 1000000 = true ↔ zR x.Item 1 = true := by rw [zaq, z6]
 have e2 : zV x.Weight 1 1000000 = true ↔ zR x.Weight 1 = true := by rw [zaq, z6]
 by_cases h : zV x.Item 1 1000000 = true
 ·rw [if_pos h, e2]; exact ⟨fun h2 => ⟨e1.1 h, h2⟩, fun h2 => h2.2⟩
 ·rw [if_neg h]; exact ⟨(fun h => by cases h), fun h2 => absurd (e1.2 h2.1) h⟩
theorem znR : ∀ (l : List zbD) (k : Nat), (zcg l k = .inr () ∧ ∀ x ∈ l, zfh x = true) ∨ (zcg l k = .inl false ∧ ¬ ∀ x ∈ l, zfh x = true)
 | [], k => .inl ⟨rfl, by simp⟩
 | x :: l, k => by
  rw [zcg]
  have hp := zqi x
  by_cases h1 : zR x.Item 1 = true
  ·rw [if_pos h1]
   by_cases h2 : zR x.Weight 1 = true
   ·rw [if_pos h2]
    rcases znR l (k + 1) with ⟨a, b⟩ | ⟨a, b⟩
    ·exact .inl ⟨a, fun e he => by rcases List.mem_cons.1 he with rfl | he; exact hp.2 ⟨h1, h2⟩; exact b e he⟩
    ·exact .inr ⟨a, fun h2 => b fun e he => h2 e (List.mem_cons_of_mem _ he)⟩
   ·rw [if_neg h2]; exact .inr ⟨rfl, fun h => h2 (hp.1 (h x (by simp))).2⟩
  ·rw [if_neg h1]; exact .inr ⟨rfl, fun h => h1 (hp.1 (h x (by simp))).1⟩
def zsr (c : zA) (f : GFoe) : Prop := ((1 ≤ f.Health ∧ f.Health ≤ 1000000) ∧ (1 ≤ f.Every ∧ f.Every ≤ 1000000) ∧ (0 ≤ f.Hit ∧ f.Hit ≤ 1000000) ∧ (0 ≤ f.Reach ∧ f.Reach ≤ 1000000)) ∧ ((0 ≤ f.Drops ∧ f.Drops ≤ 16) ∧ (f.Script.length : Int) ≤ 16 ∧ (f.Hoard.length : Int) ≤ 16 ∧ (f.Drops > 0 → ¬ (f.Hoard.length : Int) = 0)) ∧ (∀ x ∈ f.Script, zdp c x = true) ∧ ∀ x ∈ f.Hoard, zfh x = true
theorem zoY (f : GFoe) : zdS f = false ↔ ((1 ≤ f.Health ∧ f.Health ≤ 1000000) ∧ (1 ≤ f.Every ∧ f.Every ≤ 1000000) ∧ (0 ≤ f.Hit ∧ f.Hit ≤ 1000000) ∧ (0 ≤ f.Reach ∧ f.Reach ≤ 1000000)) := by
 unfold zdS
 by_cases h1 : zV f.Health 1 1000000 = true
 ·rw [if_pos h1]
  by_cases h2 : zV f.Every 1 1000000 = true
  ·rw [if_pos h2]
   rw [zaq] at h1 h2
   simp only [Bool.not_eq_false', ztn]
   exact ⟨fun h => ⟨h1, h2, h.1, h.2⟩, fun h => h.2.2⟩
  ·rw [if_neg h2]
   simp only [h2]
   exact ⟨(fun h => by simp at h), fun h => absurd (zaq.2 h.2.1) h2⟩
 ·rw [if_neg h1]
  simp only [h1]
  exact ⟨(fun h => by simp at h), fun h => absurd (zaq.2 h.1) h1⟩
theorem zmM (f : GFoe) : zbX f = false ↔ ((0 ≤ f.Drops ∧ f.Drops ≤ 16) ∧ (f.Script.length : Int) ≤ 16 ∧ (f.Hoard.length : Int) ≤ 16 ∧ (f.Drops > 0 → ¬ (f.Hoard.length : Int) = 0)) := by
 unfold zbX
 by_cases h1 : zV f.Drops 0 16 = true
 ·rw [if_pos h1]
  rw [zaq] at h1
  by_cases h2 : (f.Script.length : Int) > 16
  ·rw [if_pos h2]; exact ⟨fun h => by have := of_decide_eq_false h; omega, fun h => by omega⟩
  rw [if_neg h2]
  by_cases h3 : (f.Hoard.length : Int) > 16
  ·rw [if_pos h3]; exact ⟨fun h => by have := of_decide_eq_false h; omega, fun h => by omega⟩
  rw [if_neg h3]
  by_cases h4 : f.Drops > 0
  ·rw [if_pos h4, beq_eq_false_iff_ne]; exact ⟨fun h => ⟨h1, by omega, by omega, fun _ => h⟩, fun h => h.2.2.2 h4⟩
  ·rw [if_neg h4]; exact ⟨fun _ => ⟨h1, by omega, by omega, fun h => absurd h h4⟩, fun _ => rfl⟩
 ·rw [if_neg h1]
  simp only [h1]
  exact ⟨(fun h => by simp at h), fun h => absurd (zaq.2 h.1) h1⟩
theorem zsF (c : zA) (f : GFoe) : foe9 c f = true ↔ zsr c f := by
 unfold foe9 zsr
 dsimp only
 rw [← zoY, ← zmM]
 cases zdS f with
 | true => simp
 | false =>
  cases zbX f with
  | true => simp
  | false =>
   rw [if_neg (by decide), if_neg (by decide)]
   by_cases h : f.Script.any (fun x_ => badL x_ c) = true
   ·rw [if_pos h]
    refine ⟨(fun h => by cases h), fun h2 => ?_⟩
    obtain ⟨x, hx, hb⟩ := List.any_eq_true.1 h
    have := h2.2.2.1 x hx
    simp [badL, this] at hb
   ·rw [if_neg h]
    have hs : ∀ x ∈ f.Script, zdp c x = true := fun x hx => by
     apply Classical.byContradiction; intro hn
     exact h (List.any_eq_true.2 ⟨x, hx, by simp [badL, hn]⟩)
    constructor
    ·intro h2
     refine ⟨rfl, rfl, hs, fun x hx => ?_⟩
     simp only [Bool.not_eq_true', List.any_eq_false] at h2
     have := h2 x hx
     simpa [badP] using this
    ·intro h2
     simp only [Bool.not_eq_true', List.any_eq_false]
     intro x hx
     simp [badP, h2.2.2.2 x hx]
theorem zta (c : zA) (f : GFoe) : foeR c f = true ↔ zsr c f := by
 have hJ : (za0 f = .inr () ∧ (((1 ≤ f.Health ∧ f.Health ≤ 1000000) ∧ (1 ≤ f.Every ∧ f.Every ≤ 1000000) ∧ (0 ≤ f.Hit ∧ f.Hit ≤ 1000000) ∧ (0 ≤ f.Reach ∧ f.Reach ≤ 1000000)) ∧ ((0 ≤ f.Drops ∧ f.Drops ≤ 16) ∧ (f.Script.length : Int) ≤ 16 ∧ (f.Hoard.length : Int) ≤ 16 ∧ (f.Drops > 0 → ¬ (f.Hoard.length : Int) = 0)))) ∨ (za0 f = .inl false ∧ ¬ (((1 ≤ f.Health ∧ f.Health ≤ 1000000) ∧ (1 ≤ f.Every ∧ f.Every ≤ 1000000) ∧ (0 ≤ f.Hit ∧ f.Hit ≤ 1000000) ∧ (0 ≤ f.Reach ∧ f.Reach ≤ 1000000)) ∧ ((0 ≤ f.Drops ∧ f.Drops ≤ 16) ∧ (f.Script.length : Int) ≤ 16 ∧ (f.Hoard.length : Int) ≤ 16 ∧ (f.Drops > 0 → ¬ (f.Hoard.length : Int) = 0)))) := by
  unfold za0
  by_cases h1 : zR f.Health 1 = true
  case neg => rw [if_neg h1]; exact .inr ⟨rfl, fun h => h1 (z6.2 h.1.1)⟩
  rw [if_pos h1]
  by_cases h2 : zR f.Hit 0 = true
  case neg => rw [if_neg h2]; exact .inr ⟨rfl, fun h => h2 (z6.2 h.1.2.2.1)⟩
  rw [if_pos h2]
  by_cases h3 : zR f.Reach 0 = true
  case neg => rw [if_neg h3]; exact .inr ⟨rfl, fun h => h3 (z6.2 h.1.2.2.2)⟩
  rw [if_pos h3]
  by_cases h4 : zR f.Every 1 = true
  case neg => rw [if_neg h4]; exact .inr ⟨rfl, fun h => h4 (z6.2 h.1.2.1)⟩
  rw [if_pos h4]
  rw [z6] at h1 h2 h3 h4
  by_cases h5 : f.Drops < 0
  case pos => rw [if_pos h5]; exact .inr ⟨rfl, fun h => by omega⟩
  rw [if_neg h5]
  by_cases h6 : f.Drops > 16
  case pos => rw [if_pos h6]; exact .inr ⟨rfl, fun h => by omega⟩
  rw [if_neg h6]
  by_cases h7 : (f.Script.length : Int) > 16
  case pos => rw [if_pos h7]; exact .inr ⟨rfl, fun h => by omega⟩
  rw [if_neg h7]
  by_cases h8 : (f.Hoard.length : Int) > 16
  case pos => rw [if_pos h8]; exact .inr ⟨rfl, fun h => by omega⟩
  rw [if_neg h8]
  by_cases h9 : f.Drops > 0
  ·rw [if_pos h9]
   by_cases h10 : (f.Hoard.length : Int) = 0
   ·rw [if_pos h10]; exact .inr ⟨rfl, fun h => h.2.2.2.2 h9 h10⟩
   ·rw [if_neg h10]; exact .inl ⟨rfl, ⟨h1, h4, h2, h3⟩, by omega, by omega, by omega, fun _ => h10⟩
  ·rw [if_neg h9]; exact .inl ⟨rfl, ⟨h1, h4, h2, h3⟩, by omega, by omega, by omega, fun h => absurd h h9⟩
 unfold foeR zsr
 rcases hJ with ⟨e, h1, h2⟩ | ⟨e, h⟩
 ·rw [e]
  dsimp only
  rcases zop c f.Script 0 with ⟨e0, h3⟩ | ⟨e0, h3⟩
  ·rw [e0]
   dsimp only
   rcases znR f.Hoard 0 with ⟨e1, h4⟩ | ⟨e1, h4⟩
   ·rw [e1]; exact ⟨fun _ => ⟨h1, h2, h3, h4⟩, fun _ => rfl⟩
   ·rw [e1]; exact ⟨(fun h => by cases h), fun h => absurd h.2.2.2 h4⟩
  ·rw [e0]; exact ⟨(fun h => by cases h), fun h => absurd h.2.2.1 h3⟩
 ·rw [e]; exact ⟨(fun h => by cases h), fun h2 => absurd ⟨h2.1, h2.2.1⟩ h⟩
theorem ztH (c : zA) (f : GFoe) : foeR c f = foe9 c f := zi5 (by rw [zsF, zta])
theorem zkh (c : zA) : ∀ (l : List zI) (k : Nat) (b : List Bool) (i : List Int), zbI c l k b i = (b ++ l.map (fun x => !okA x c), i ++ l.map fun x => idA x)
 | [], k, b, i => by rw [zbI]; simp
 | x :: l, k, b, i => by rw [zbI, zkh c l, zmX]; simp [okA, idA]
theorem zka : ∀ (l : List zaI) (k : Nat) (b : List Bool) (i : List Int), zbL l k b i = (b ++ l.map (fun x => !zeb x), i ++ l.map fun x => idU x)
 | [], k, b, i => by rw [zbL]; simp
 | x :: l, k, b, i => by rw [zbL, zka l, zsG]; simp [idU]
theorem zj1 (c : zA) : ∀ (l : List GFoe) (k : Nat) (b : List Bool) (i : List Int), zbR c l k b i = (b ++ l.map (fun x => !okF x c), i ++ l.map fun x => idF x)
 | [], k, b, i => by rw [zbR]; simp
 | x :: l, k, b, i => by rw [zbR, zj1 c l, ztH]; simp [okF, idF]
theorem zlB (g : zdd) (p : GPos) : zb0 g p = zbu g p := by unfold zb0 zbu; rw [zj4]; rfl
theorem zoK (c : zA) : zfB c = zf4 c := by
 apply zi5
 rw [zp1]
 have ha := zjp (fun x_ => idA x_) (fun x_ => okA x_ c) c.Abilities
 have hu := zjp (fun x_ => idU x_) (fun x_ => zeb x_) c.Auras
 have hf := zjp (fun x_ => idF x_) (fun x_ => okF x_ c) c.Foes
 unfold zfB zdI
 rw [zkh, zka, zj1]
 simp only [List.nil_append, zlB]
 rcases ha with ⟨e1, g1⟩ | ⟨e1, g1⟩
 ·rw [if_neg (by omega)]
  rcases hu with ⟨e2, g2⟩ | ⟨e2, g2⟩
  ·rw [if_neg (by omega)]
   rcases hf with ⟨e3, g3⟩ | ⟨e3, g3⟩
   ·rw [if_neg (by omega)]
    by_cases hd : zbu c.Map c.Door = true
    ·rw [if_pos hd]; exact ⟨(fun h => by cases h), fun h => by rw [h.door] at hd; cases hd⟩
    ·rw [if_neg hd]
     by_cases hl : zbu c.Map c.Lair = true
     ·rw [if_pos hl]; exact ⟨(fun h => by cases h), fun h => by rw [h.lair] at hl; cases hl⟩
     ·rw [if_neg hl]; exact ⟨fun _ => ⟨g1, g2, g3, by simpa using hd, by simpa using hl⟩, fun _ => rfl⟩
   ·rw [if_pos e3]; exact ⟨(fun h => by cases h), fun h => absurd h.fo g3⟩
  ·rw [if_pos e2]; exact ⟨(fun h => by cases h), fun h => absurd h.au g2⟩
 ·rw [if_pos e1]; exact ⟨(fun h => by cases h), fun h => absurd h.ab g1⟩

end Go.Proofs.YtppnccjeggnllaaGreat
namespace Go.Proofs.YtppnccjeggnllaaGreat
open Go Go.RowKit Go.Proofs.YtppnccjeggnllaaGreatVm
attribute [local irreducible] zY zas OpsS
set_option maxHeartbeats 400000
set_option maxRecDepth 100000
set_option linter.all false
theorem zga (a : List Int) : ∀ n k, zbk a a n k = .inr ()
 | 0, k => by rw [zbk]
 | n + 1, k => by rw [zbk, if_pos rfl]; exact zga a n (k + 1)
theorem zne (a : List Int) : zeu a a = true := by
 unfold zeu
 rw [if_pos rfl, zga]
theorem zgd (a : zI) : ∀ n k, zbj a a n k = .inr ()
 | 0, k => by rw [zbj]
 | n + 1, k => by rw [zbj, if_pos (by simp)]; exact zgd a n (k + 1)
theorem zm2 (a : zI) : zb6 a a = true := by
 unfold zb6
 simp only [if_true, zgd]
theorem zf1 (a : GFoe) : ∀ n k, zbp a a n k = .inr ()
 | 0, k => by rw [zbp]
 | n + 1, k => by rw [zbp, if_pos (by simp)]; exact zf1 a n (k + 1)
theorem zf6 (a : GFoe) : ∀ n k, zbl a a n k = .inr ()
 | 0, k => by rw [zbl]
 | n + 1, k => by rw [zbl, if_pos (by simp)]; exact zf6 a n (k + 1)
theorem zng (a : GFoe) : zbU a a = true := by
 unfold zbU
 simp only [if_true, zf1, zf6]
theorem zf5 (a : zA) : ∀ n k, zbo a a n k = .inr ()
 | 0, k => by rw [zbo]
 | n + 1, k => by rw [zbo, if_pos rfl]; exact zf5 a n (k + 1)
theorem zf2 (a : zA) : ∀ n k, zbr a a n k = .inr ()
 | 0, k => by rw [zbr]
 | n + 1, k => by rw [zbr, if_pos (zm2 _)]; exact zf2 a n (k + 1)
theorem zf8 (a : zA) : ∀ n k, zbs a a n k = .inr ()
 | 0, k => by rw [zbs]
 | n + 1, k => by rw [zbs, if_pos (by simp)]; exact zf8 a n (k + 1)
theorem zge (a : zA) : ∀ n k, zbn a a n k = .inr ()
 | 0, k => by rw [zbn]
 | n + 1, k => by rw [zbn, if_pos (zng _)]; exact zge a n (k + 1)
theorem znr (a : zA) : zbE a a = true := by
 unfold zbE
 simp only [if_true, beq_self_eq_true, Bool.and_self, zf5, zf2, zf8, zge]
theorem zhR : ∀ (l : List zI) (k : Nat) (o : List zI), zbN l k o = o ++ l
 | [], k, o => by rw [zbN, List.append_nil]
 | x :: l, k, o => by rw [zbN, zhR l, List.append_assoc]; rfl
theorem zhS : ∀ (l : List GFoe) (k : Nat) (o : List GFoe), zbK l k o = o ++ l
 | [], k, o => by rw [zbK, List.append_nil]
 | x :: l, k, o => by rw [zbK, zhS l, List.append_assoc]; rfl
theorem zrN (c : zA) : za5 c = c := by
 unfold za5
 rw [zhR, zhS]
 rfl
theorem zqI {c : zA} (h : zd0 c) : zdE c = enc c := by
 unfold zdE enc
 rw [zoK, zlf, zsw _ (by rw [zkF]; exact zvl h)]
theorem zky {c : zA} (h : zd0 c) : zcE c = true := by
 unfold zcE
 rw [zlf, zne, zqI h, zrN, znr]
 simp
theorem zmo (c : zA) (h : zd0 c) : Ok Tryz.prog 3 [zak c] [] (B true) [] [] := by
 have h1 := zmK c
 rwa [zky h] at h1

end Go.Proofs.YtppnccjeggnllaaGreat

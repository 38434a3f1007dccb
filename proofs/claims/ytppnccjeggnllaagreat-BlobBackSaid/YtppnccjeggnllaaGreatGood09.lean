import Derived.Test.YtppnccjeggnllaaGreatSmall10
namespace Go.Proofs.YtppnccjeggnllaaGreat
open Go Go.RowKit Go.Proofs.YtppnccjeggnllaaGreatVm
attribute [local irreducible] zY zaM OpsS
set_option maxHeartbeats 400000
set_option maxRecDepth 100000
set_option linter.all false
def Good {α : Type} (id : α → Int) (right : α → Bool) : List α → Nat → Int → Prop
 | [], _, _ => True
 | x :: l, k, last => k ≠ 64 ∧ last < id x ∧ right x = true ∧ Good id right l (k + 1) (id x)
section
variable {α : Type} {id : α → Int} {right : α → Bool}
theorem Good.take : ∀ {l : List α} {k : Nat} {last : Int} (n : Nat), Good id right l k last → Good id right (l.take n) k last
 | [], _, _, n, h => by simp [Good]
 | x :: l, k, last, 0, h => trivial
 | x :: l, k, last, n + 1, h => ⟨h.1, h.2.1, h.2.2.1, Good.take n h.2.2.2⟩
theorem Good.mem : ∀ {l : List α} {k : Nat} {last : Int}, Good id right l k last → ∀ x ∈ l, last < id x ∧ right x = true
 | [], _, _, h, x, hx => by cases hx
 | y :: l, k, last, h, x, hx => by
  rcases List.mem_cons.1 hx with rfl | hx
  ·exact ⟨h.2.1, h.2.2.1⟩
  ·have := Good.mem h.2.2.2 x hx; exact ⟨Int.lt_trans h.2.1 this.1, this.2⟩
theorem Good.len : ∀ {l : List α} {k : Nat} {last : Int}, k ≤ 64 → Good id right l k last → k + l.length ≤ 64
 | [], _, _, hk, h => by simpa using hk
 | y :: l, k, last, hk, h => by have := Good.len (k := k + 1) (by have := h.1; omega) h.2.2.2; simp only [List.length_cons]; omega
theorem Good.one : ∀ {l : List α} {k : Nat} {last : Int}, Good id right l k last → ∀ x ∈ l, ∀ y ∈ l, id x = id y → x = y
 | [], _, _, h, x, hx, _, _ => by cases hx
 | z :: l, k, last, h, x, hx, y, hy => by
  intro e
  rcases List.mem_cons.1 hx with h8 | h8
  ·rcases List.mem_cons.1 hy with h9 | h9
   ·rw [h8, h9]
   ·have := (Good.mem h.2.2.2 y h9).1; rw [h8] at e; omega
  ·rcases List.mem_cons.1 hy with h9 | h9
   ·have := (Good.mem h.2.2.2 x h8).1; rw [h9] at e; omega
   ·exact Good.one h.2.2.2 x h8 y h9 e
end
theorem zin (id : zG → Int) (right : zG → Bool) : ∀ (l : List zG) (k : Nat) (last : Int), (zaH id right l k last (-1) = -1 ∧ Good id right l k last) ∨ (zaH id right l k last (-1) ≥ 0 ∧ ¬ Good id right l k last)
 | [], k, last => .inl ⟨rfl, trivial⟩
 | x :: l, k, last => by
  rw [zaH]
  by_cases h1 : (k : Int) = 64
  ·rw [if_pos h1]; exact .inr ⟨by omega, fun h => h.1 (by omega)⟩
  ·rw [if_neg h1]
   by_cases h2 : id x ≤ last
   ·rw [if_pos h2]; exact .inr ⟨by omega, fun h => by have := h.2.1; omega⟩
   ·rw [if_neg h2]
    by_cases h3 : right x = true
    ·rw [if_pos h3]
     rcases zin id right l (k + 1) (id x) with ⟨a, b⟩ | ⟨a, b⟩
     ·exact .inl ⟨a, by omega, by omega, h3, b⟩
     ·exact .inr ⟨a, fun h => b h.2.2.2⟩
    ·rw [if_neg h3]; exact .inr ⟨by omega, fun h => h3 h.2.2.1⟩
theorem ziq (id : zaB → Int) (right : zaB → Bool) : ∀ (l : List zaB) (k : Nat) (last : Int), (zaD id right l k last (-1) = -1 ∧ Good id right l k last) ∨ (zaD id right l k last (-1) ≥ 0 ∧ ¬ Good id right l k last)
 | [], k, last => .inl ⟨rfl, trivial⟩
 | x :: l, k, last => by
  rw [zaD]
  by_cases h1 : (k : Int) = 64
  ·rw [if_pos h1]; exact .inr ⟨by omega, fun h => h.1 (by omega)⟩
  ·rw [if_neg h1]
   by_cases h2 : id x ≤ last
   ·rw [if_pos h2]; exact .inr ⟨by omega, fun h => by have := h.2.1; omega⟩
   ·rw [if_neg h2]
    by_cases h3 : right x = true
    ·rw [if_pos h3]
     rcases ziq id right l (k + 1) (id x) with ⟨a, b⟩ | ⟨a, b⟩
     ·exact .inl ⟨a, by omega, by omega, h3, b⟩
     ·exact .inr ⟨a, fun h => b h.2.2.2⟩
    ·rw [if_neg h3]; exact .inr ⟨by omega, fun h => h3 h.2.2.1⟩
theorem zix (id : GFoe → Int) (right : GFoe → Bool) : ∀ (l : List GFoe) (k : Nat) (last : Int), (zaG id right l k last (-1) = -1 ∧ Good id right l k last) ∨ (zaG id right l k last (-1) ≥ 0 ∧ ¬ Good id right l k last)
 | [], k, last => .inl ⟨rfl, trivial⟩
 | x :: l, k, last => by
  rw [zaG]
  by_cases h1 : (k : Int) = 64
  ·rw [if_pos h1]; exact .inr ⟨by omega, fun h => h.1 (by omega)⟩
  ·rw [if_neg h1]
   by_cases h2 : id x ≤ last
   ·rw [if_pos h2]; exact .inr ⟨by omega, fun h => by have := h.2.1; omega⟩
   ·rw [if_neg h2]
    by_cases h3 : right x = true
    ·rw [if_pos h3]
     rcases zix id right l (k + 1) (id x) with ⟨a, b⟩ | ⟨a, b⟩
     ·exact .inl ⟨a, by omega, by omega, h3, b⟩
     ·exact .inr ⟨a, fun h => b h.2.2.2⟩
    ·rw [if_neg h3]; exact .inr ⟨by omega, fun h => h3 h.2.2.1⟩
structure Rc (c : zu) : Prop where
 ab : Good (fun x_ => idA x_) (fun x_ => okA x_ c) c.Abilities 0 0
 au : Good (fun x_ => idU x_) (fun x_ => zei x_) c.Auras 0 0
 fo : Good (fun x_ => idF x_) (fun x_ => okF x_ c) c.Foes 0 0
 door : zby c.Map c.Door = false
 lair : zby c.Map c.Lair = false
theorem znP (c : zu) : za5 c = true ↔ Rc c := by
 have ha := zin (fun x_ => idA x_) (fun x_ => okA x_ c) c.Abilities 0 0
 have hu := ziq (fun x_ => idU x_) (fun x_ => zei x_) c.Auras 0 0
 have hf := zix (fun x_ => idF x_) (fun x_ => okF x_ c) c.Foes 0 0
 unfold za5 zdb zfQ zfU zfw
 dsimp only
 rcases ha with ⟨e1, g1⟩ | ⟨e1, g1⟩
 ·rw [e1, if_neg (by omega)]
  rcases hu with ⟨e2, g2⟩ | ⟨e2, g2⟩
  ·rw [e2, if_neg (by omega)]
   rcases hf with ⟨e3, g3⟩ | ⟨e3, g3⟩
   ·rw [e3, if_neg (by omega)]
    by_cases hd : zby c.Map c.Door = true
    ·rw [if_pos hd]; exact ⟨(fun h => by cases h), fun h => by rw [h.door] at hd; cases hd⟩
    ·rw [if_neg hd]
     by_cases hl : zby c.Map c.Lair = true
     ·rw [if_pos hl]; exact ⟨(fun h => by cases h), fun h => by rw [h.lair] at hl; cases hl⟩
     ·rw [if_neg hl]; exact ⟨fun _ => ⟨g1, g2, g3, by simpa using hd, by simpa using hl⟩, fun _ => rfl⟩
   ·rw [if_pos e3]; exact ⟨(fun h => by cases h), fun h => absurd h.fo g3⟩
  ·rw [if_pos e2]; exact ⟨(fun h => by cases h), fun h => absurd h.au g2⟩
 ·rw [if_pos e1]; exact ⟨(fun h => by cases h), fun h => absurd h.ab g1⟩
theorem zmp {n lo hi : Int} : z0 n lo hi = true ↔ lo ≤ n ∧ n ≤ hi := by
 unfold z0
 split <;> simp <;> omega
end Go.Proofs.YtppnccjeggnllaaGreat

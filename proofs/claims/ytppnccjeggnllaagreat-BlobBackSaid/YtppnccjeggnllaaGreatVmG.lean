import Derived.Test.YtppnccjeggnllaaGreatVmF
namespace Go.Proofs.YtppnccjeggnllaaGreatVm
open Go Go.RowKit
set_option linter.all false
abbrev Tm := List (Nat × AV)
def tget : Tm → Nat → Option AV
 | [], _ => none
 | (k, v) :: r, t => if k = t then some v else tget r t
def tput (T : Tm) : Option Tmp → AV → Tm
 | some d, v => (d, v) :: T
 | none, _ => T
def zgL (k : List Nat) (T : Tm) : Tm := T.map fun x => (x.1, purge k x.2)
def zev (k : List Nat) : VObj → VObj
 | .row e sz cs => .row e sz cs
 | .box cs => .box (zd7 k cs)
 | .mp es => .mp es
def zdW (k : List Nat) (H : Heap) : Heap := H.map fun x => (x.1, zev k x.2)
structure St where
 T : Tm
 H : Heap
 nx : Nat
 mv : List Nat
 nt : Nat
 lo : Nat
def St.ev (S : St) : Operand → Option AV
 | .tmp t => tget S.T t
 | .const v => ziT v
 | .func f => some (.fnc f [])
 | .global _ => none
structure Base where
 c0 : Ctx
 w0 : World
 m : Nat
def Base.foot (B : Base) (b : Nat) : Prop := ∃ id cap, id < B.m ∧ B.c0.φ id = some (.blk b cap)
structure HRel (B : Base) (H : Heap) (mv : List Nat) (c : Ctx) (w : World) : Prop where
 heap : zdl c w H
 own : ∀ id o b cap, hget H id = some o → c.φ id = some (.blk b cap) → b < w.heap.size ∧ ¬ c.I b ∧ (B.w0.heap.size ≤ b ∨ (id < B.m ∧ ∃ cap, B.c0.φ id = some (.blk b cap)))
 apart : ∀ id id' o o' b cap cap', id ≠ id' → hget H id = some o → hget H id' = some o' → c.φ id = some (.blk b cap) → c.φ id' = some (.blk b cap') → False
 imm : ∀ b, c.I b → b < w.heap.size
 size : B.w0.heap.size ≤ w.heap.size
 os : w.os = B.w0.os
 tape : w.tape = B.w0.tape
 output : w.output = B.w0.output
 blk : ∀ b, b < B.w0.heap.size → ¬ B.foot b → w.heap[b]? = B.w0.heap[b]?
 I : ∀ b, b < B.w0.heap.size → (c.I b ↔ B.c0.I b)
 φ : ∀ id loc, id ∉ mv → B.c0.φ id = some loc → c.φ id = some loc
 und : ∀ id, id < B.m → B.c0.φ id = none → c.φ id = none
structure SRel (B : Base) (S : St) (c : Ctx) (w : World) (a : Act) : Prop where
 h : HRel B S.H S.mv c w
 t : ∀ t v, tget S.T t = some v → Rep c w v (a.tmps.getD t undef)
 nt : a.tmps.size = S.nt
 df : a.defers = []
 fresh : ∀ id, S.nx ≤ id → c.φ id = none
 lo : ∀ id, S.lo ≤ id → B.c0.φ id = none
 wf : ∀ id o, hget S.H id = some o → id < S.nx
 mlo : B.m = S.lo
 nlo : S.lo ≤ S.nx
theorem zbe.mono {c c' : Ctx} {w w' : World} (hI : za1 c c' w w') (hφ : Goes c c') {o : VObj} {loc : Loc} (h : zbe c w o loc) (hb : ∀ b cap, loc = .blk b cap → w'.heap[b]? = w.heap[b]?) : zbe c' w' o loc := by
 cases o with
 | mp es =>
  cases loc with
  | virt => exact h
  | blk b cap =>
   obtain ⟨arr, k, h1, h5⟩ := h
   exact ⟨arr, k, by rw [hb b cap rfl]; exact h1, h5.mono hI⟩
 | row e sz cs =>
  cases loc with
  | virt => exact h
  | blk b cap =>
   obtain ⟨arr, h1, h2, h3, h4, h5⟩ := h
   exact ⟨arr, by rw [hb b cap rfl]; exact h1, h2, h3, h4, RepL.mono hI hφ _ _ h5⟩
 | box cs =>
  cases loc with
  | virt => exact h
  | blk b cap =>
   obtain ⟨arr, t, h1, h5⟩ := h
   exact ⟨arr, t, by rw [hb b cap rfl]; exact h1, RepL.mono hI hφ _ _ h5⟩
theorem HRel.ownFoot {B : Base} {H : Heap} {mv : List Nat} {c : Ctx} {w : World} (h : HRel B H mv c w) {id : Nat} {o : VObj} {b cap : Nat} (h1 : hget H id = some o) (h2 : c.φ id = some (.blk b cap)) : b < w.heap.size ∧ ¬ c.I b ∧ (B.w0.heap.size ≤ b ∨ B.foot b) := by
 obtain ⟨h3, h4, h5⟩ := h.own id o b cap h1 h2
 exact ⟨h3, h4, h5.imp (fun h => h) (fun ⟨h6, cap', h7⟩ => ⟨id, cap', h6, h7⟩)⟩
theorem HRel.more {B : Base} {H H' : Heap} {mv : List Nat} {c : Ctx} {w : World} (h : HRel B H mv c w) (hh : ∀ id o, hget H' id = some o → hget H id = some o ∨ c.φ id = none) : HRel B H' mv c w := by
 refine ⟨fun id o loc h1 h2 => ?_, fun id o b cap h1 h2 => ?_, fun id id' o o' b cap cap' hne h1 h2 h3 h4 => ?_, h.imm, h.size, h.os, h.tape, h.output, h.blk, h.I, h.φ, h.und⟩
 ·rcases hh id o h1 with h1 | h1
  ·exact h.heap id o loc h1 h2
  ·rw [h1] at h2; cases h2
 ·rcases hh id o h1 with h1 | h1
  ·exact h.own id o b cap h1 h2
  ·rw [h1] at h2; cases h2
 ·rcases hh id o h1 with h1 | h1
  ·rcases hh id' o' h2 with h2 | h2
   ·exact h.apart id id' o o' b cap cap' hne h1 h2 h3 h4
   ·rw [h2] at h4; cases h4
  ·rw [h1] at h3; cases h3
structure zkU (B : Base) (H : Heap) (N : Nat → Prop) (c : Ctx) (w : World) (c' : Ctx) (w' : World) : Prop where
 size : w.heap.size ≤ w'.heap.size
 os : w'.os = w.os
 tape : w'.tape = w.tape
 output : w'.output = w.output
 old : ∀ b, b < w.heap.size → w'.heap[b]? = w.heap[b]?
 I : ∀ b, b < w.heap.size → (c'.I b ↔ c.I b)
 imm : ∀ b, c'.I b → b < w'.heap.size
 φ : ∀ id, ¬ N id → c'.φ id = c.φ id
 was : ∀ id, N id → c.φ id = none
 made : ∀ id o loc, N id → hget H id = some o → c'.φ id = some loc → zbe c' w' o loc ∧ ∀ b cap, loc = .blk b cap → w.heap.size ≤ b ∧ b < w'.heap.size ∧ ¬ c'.I b
 ge : ∀ id, N id → B.m ≤ id
 apart : ∀ id id' b cap cap', id ≠ id' → N id → N id' → c'.φ id = some (.blk b cap) → c'.φ id' = some (.blk b cap') → False
theorem zkU.goes {B : Base} {H : Heap} {N : Nat → Prop} {c c' : Ctx} {w w' : World} (g : zkU B H N c w c' w') : Goes c c' := fun id loc h => by
 by_cases hn : N id
 ·rw [g.was id hn] at h; cases h
 ·rw [g.φ id hn]; exact h
theorem zkU.holds {B : Base} {H : Heap} {N : Nat → Prop} {c c' : Ctx} {w w' : World} (g : zkU B H N c w c' w') (hi : ∀ b, c.I b → b < w.heap.size) : za1 c c' w w' :=
 fun b hb => ⟨(g.I b (hi b hb)).2 hb, g.old b (hi b hb)⟩
theorem HRel.grown {B : Base} {H : Heap} {mv : List Nat} {N : Nat → Prop} {c c' : Ctx} {w w' : World} (h : HRel B H mv c w) (g : zkU B H N c w c' w') : HRel B H mv c' w' := by
 have hgo := g.goes
 have hho := g.holds h.imm
 refine ⟨fun id o loc h1 h2 => ?_, fun id o b cap h1 h2 => ?_, fun id id' o o' b cap cap' hne h1 h2 h3 h4 => ?_, g.imm, Nat.le_trans h.size g.size, g.os.trans h.os, g.tape.trans h.tape, g.output.trans h.output,
  fun b hb hf => (g.old b (Nat.lt_of_lt_of_le hb h.size)).trans (h.blk b hb hf), fun b hb => (g.I b (Nat.lt_of_lt_of_le hb h.size)).trans (h.I b hb), fun id loc hm h1 => hgo id loc (h.φ id loc hm h1), fun id hid h1 => by
   rw [g.φ id (fun hn => by have := g.ge id hn; omega)]; exact h.und id hid h1⟩
 ·by_cases hn : N id
  ·exact (g.made id o loc hn h1 h2).1
  ·rw [g.φ id hn] at h2
   exact (h.heap id o loc h1 h2).mono hho hgo (fun b cap e => g.old b (by subst e; exact (h.own id o b cap h1 h2).1))
 ·by_cases hn : N id
  ·have := (g.made id o _ hn h1 h2).2 b cap rfl
   exact ⟨this.2.1, this.2.2, .inl (Nat.le_trans h.size this.1)⟩
  ·rw [g.φ id hn] at h2
   obtain ⟨h3, h4, h5⟩ := h.own id o b cap h1 h2
   exact ⟨Nat.lt_of_lt_of_le h3 g.size, fun hi => h4 ((g.I b h3).1 hi), h5⟩
 ·by_cases hn : N id
  ·by_cases hn' : N id'
   ·exact g.apart id id' b cap cap' hne hn hn' h3 h4
   ·rw [g.φ id' hn'] at h4
    have := (h.own id' o' b cap' h2 h4).1
    have := ((g.made id o _ hn h1 h3).2 b cap rfl).1
    omega
  ·rw [g.φ id hn] at h3
   by_cases hn' : N id'
   ·have := (h.own id o b cap h1 h3).1
    have := ((g.made id' o' _ hn' h2 h4).2 b cap' rfl).1
    omega
   ·rw [g.φ id' hn'] at h4
    exact h.apart id id' o o' b cap cap' hne h1 h2 h3 h4
theorem Grew.grown {B : Base} {H : Heap} {c c' : Ctx} {w w' : World} {nx : Nat} {new : Option VObj} (g : Grew c w nx new c' w') (hnx : new ≠ none → c.φ nx = none) (him : ∀ b, c.I b → b < w.heap.size) (hge : new ≠ none → B.m ≤ nx) (hH : ∀ o, new = some o → hget H nx = some o) :
  zkU B H (fun id => id = nx ∧ new ≠ none) c w c' w' := by
 refine ⟨g.size, g.os, g.tape, g.output, g.old, fun b _ => by rw [g.I], fun b hb => Nat.lt_of_lt_of_le (him b (g.I ▸ hb)) g.size, fun id hn => ?_, fun id hn => hn.1 ▸ hnx hn.2, fun id o loc hn h1 h2 => ?_, fun id hn => hn.1 ▸ hge hn.2, fun id id' b cap cap' hne h1 h2 _ _ => hne (h1.1.trans h2.1.symm)⟩
 ·by_cases e : id = nx
  ·subst e
   cases new with
   | none => exact g.kept rfl
   | some o => exact absurd ⟨rfl, by simp⟩ hn
  ·exact g.φ id e
 ·obtain ⟨rfl, hnew⟩ := hn
  cases new with
  | none => exact absurd rfl hnew
  | some o' =>
   obtain ⟨loc', h3, h4, h5⟩ := g.made o' rfl
   rw [hH o' rfl] at h1; cases h1
   rw [h3] at h2; cases h2
   exact ⟨h4, fun b cap e => ⟨(h5 b cap e).1, (h5 b cap e).2, fun hi => by have := him b (g.I ▸ hi); have := (h5 b cap e).1; omega⟩⟩
end Go.Proofs.YtppnccjeggnllaaGreatVm

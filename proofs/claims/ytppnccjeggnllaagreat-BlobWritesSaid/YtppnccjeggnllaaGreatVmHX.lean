import Derived.Test.YtppnccjeggnllaaGreatVmF
namespace Go.Proofs.YtppnccjeggnllaaGreatVm
open Go Go.RowKit
set_option linter.all false
abbrev Tm := List (Nat × AV)
def tget : Tm → Nat → Option AV
 | [], _ => none
 | (k, v) :: r, t => if k = t then some v else tget r t
def tput (T : Tm) : Option Tmp → AV → Tm
 | some d, v => (d, v) :: T
 | none, _ => T
def zfm (k : List Nat) (T : Tm) : Tm := T.map fun x => (x.1, purge k x.2)
def zdN (k : List Nat) : VObj → VObj
 | .row e sz cs => .row e sz cs
 | .box cs => .box (zcB k cs)
 | .mp es => .mp es
 | .arow e sz cs => .arow e sz (zcB k cs)
def zc1 (k : List Nat) (H : Heap) : Heap := H.map fun x => (x.1, zdN k x.2)
structure St where
 T : Tm
 H : Heap
 nx : Nat
 mv : List Nat
 nt : Nat
 lo : Nat
def St.ev (S : St) : Operand → Option AV
 | .tmp t => tget S.T t
 | .const v => zhv v
 | .func f => some (.fnc f [])
 | .global _ => none
structure Base where
 c0 : Ctx
 w0 : World
 m : Nat
def Base.foot (B : Base) (b : Nat) : Prop := ∃ id cap, id < B.m ∧ B.c0.φ id = some (.blk b cap)
structure HRel (B : Base) (H : Heap) (mv : List Nat) (c : Ctx) (w : World) : Prop where
 heap : zcX c w H
 own : ∀ id o b cap, hget H id = some o → c.φ id = some (.blk b cap) → b < w.heap.size ∧ ¬ c.I b ∧ (B.w0.heap.size ≤ b ∨ (id < B.m ∧ ∃ cap, B.c0.φ id = some (.blk b cap)))
 apart : ∀ id id' o o' b cap cap', id ≠ id' → hget H id = some o → hget H id' = some o' → c.φ id = some (.blk b cap) → c.φ id' = some (.blk b cap') → False
 imm : ∀ b, c.I b → b < w.heap.size
 size : B.w0.heap.size ≤ w.heap.size
 os : w.os = B.w0.os
 tape : w.tape = B.w0.tape
 output : w.output = B.w0.output
 blk : ∀ b, b < B.w0.heap.size → ¬ B.foot b → w.heap[b]? = B.w0.heap[b]?
 I : ∀ b, b < B.w0.heap.size → (c.I b ↔ B.c0.I b)
 φ : ∀ id loc, id ∉ mv → B.c0.φ id = some loc → c.φ id = some loc
 und : ∀ id, id < B.m → B.c0.φ id = none → c.φ id = none
structure SRel (B : Base) (S : St) (c : Ctx) (w : World) (a : Act) : Prop where
 h : HRel B S.H S.mv c w
 t : ∀ t v, tget S.T t = some v → Rep c w v (a.tmps.getD t undef)
 nt : a.tmps.size = S.nt
 df : a.defers = []
 fresh : ∀ id, S.nx ≤ id → c.φ id = none
 lo : ∀ id, S.lo ≤ id → B.c0.φ id = none
 wf : ∀ id o, hget S.H id = some o → id < S.nx
 mlo : B.m = S.lo
 nlo : S.lo ≤ S.nx
theorem zby.mono {c c' : Ctx} {w w' : World} (hI : zaT c c' w w') (hφ : Goes c c') {o : VObj} {loc : Loc} (h : zby c w o loc) (hb : ∀ b cap, loc = .blk b cap → w'.heap[b]? = w.heap[b]?) : zby c' w' o loc := by
 cases o with
 | mp es =>
  cases loc with
  | virt => exact h
  | blk b cap =>
   obtain ⟨arr, k, h1, h5⟩ := h
   exact ⟨arr, k, by rw [hb b cap rfl]; exact h1, h5.mono hI⟩
 | row e sz cs =>
  cases loc with
  | virt => exact h
  | blk b cap =>
   obtain ⟨arr, h1, h2, h3, h4, h5⟩ := h
   exact ⟨arr, by rw [hb b cap rfl]; exact h1, h2, h3, h4, RepL.mono hI hφ _ _ h5⟩
 | arow e sz cs =>
  cases loc with
  | virt => exact h
  | blk b cap =>
   obtain ⟨arr, h1, h2, h3, h4, h5⟩ := h
   exact ⟨arr, by rw [hb b cap rfl]; exact h1, h2, h3, h4, RepL.mono hI hφ _ _ h5⟩
 | box cs =>
  cases loc with
  | virt => exact h
  | blk b cap =>
   obtain ⟨arr, t, h1, h5⟩ := h
   exact ⟨arr, t, by rw [hb b cap rfl]; exact h1, RepL.mono hI hφ _ _ h5⟩
theorem HRel.ownFoot {B : Base} {H : Heap} {mv : List Nat} {c : Ctx} {w : World} (h : HRel B H mv c w) {id : Nat} {o : VObj} {b cap : Nat} (h1 : hget H id = some o) (h2 : c.φ id = some (.blk b cap)) : b < w.heap.size ∧ ¬ c.I b ∧ (B.w0.heap.size ≤ b ∨ B.foot b) := by
 obtain ⟨h3, h4, h5⟩ := h.own id o b cap h1 h2
 exact ⟨h3, h4, h5.imp (fun h => h) (fun ⟨h6, cap', h7⟩ => ⟨id, cap', h6, h7⟩)⟩
theorem HRel.more {B : Base} {H H' : Heap} {mv : List Nat} {c : Ctx} {w : World} (h : HRel B H mv c w) (hh : ∀ id o, hget H' id = some o → hget H id = some o ∨ c.φ id = none) : HRel B H' mv c w := by
 refine ⟨fun id o loc h1 h2 => ?_, fun id o b cap h1 h2 => ?_, fun id id' o o' b cap cap' hne h1 h2 h3 h4 => ?_, h.imm, h.size, h.os, h.tape, h.output, h.blk, h.I, h.φ, h.und⟩
 ·rcases hh id o h1 with h1 | h1
  ·exact h.heap id o loc h1 h2
  ·rw [h1] at h2; cases h2
 ·rcases hh id o h1 with h1 | h1
  ·exact h.own id o b cap h1 h2
  ·rw [h1] at h2; cases h2
 ·rcases hh id o h1 with h1 | h1
  ·rcases hh id' o' h2 with h2 | h2
   ·exact h.apart id id' o o' b cap cap' hne h1 h2 h3 h4
   ·rw [h2] at h4; cases h4
  ·rw [h1] at h3; cases h3
structure znk (B : Base) (H : Heap) (N : Nat → Prop) (c : Ctx) (w : World) (c' : Ctx) (w' : World) : Prop where
 size : w.heap.size ≤ w'.heap.size
 os : w'.os = w.os
 tape : w'.tape = w.tape
 output : w'.output = w.output
 old : ∀ b, b < w.heap.size → w'.heap[b]? = w.heap[b]?
 I : ∀ b, b < w.heap.size → (c'.I b ↔ c.I b)
 imm : ∀ b, c'.I b → b < w'.heap.size
 φ : ∀ id, ¬ N id → c'.φ id = c.φ id
 was : ∀ id, N id → c.φ id = none
 made : ∀ id o loc, N id → hget H id = some o → c'.φ id = some loc → zby c' w' o loc ∧ ∀ b cap, loc = .blk b cap → w.heap.size ≤ b ∧ b < w'.heap.size ∧ ¬ c'.I b
 ge : ∀ id, N id → B.m ≤ id
 apart : ∀ id id' b cap cap', id ≠ id' → N id → N id' → c'.φ id = some (.blk b cap) → c'.φ id' = some (.blk b cap') → False
theorem znk.goes {B : Base} {H : Heap} {N : Nat → Prop} {c c' : Ctx} {w w' : World} (g : znk B H N c w c' w') : Goes c c' := fun id loc h => by
 by_cases hn : N id
 ·rw [g.was id hn] at h; cases h
 ·rw [g.φ id hn]; exact h
theorem znk.holds {B : Base} {H : Heap} {N : Nat → Prop} {c c' : Ctx} {w w' : World} (g : znk B H N c w c' w') (hi : ∀ b, c.I b → b < w.heap.size) : zaT c c' w w' :=
 fun b hb => ⟨(g.I b (hi b hb)).2 hb, g.old b (hi b hb)⟩
theorem HRel.grown {B : Base} {H : Heap} {mv : List Nat} {N : Nat → Prop} {c c' : Ctx} {w w' : World} (h : HRel B H mv c w) (g : znk B H N c w c' w') : HRel B H mv c' w' := by
 have hgo := g.goes
 have hho := g.holds h.imm
 refine ⟨fun id o loc h1 h2 => ?_, fun id o b cap h1 h2 => ?_, fun id id' o o' b cap cap' hne h1 h2 h3 h4 => ?_, g.imm, Nat.le_trans h.size g.size, g.os.trans h.os, g.tape.trans h.tape, g.output.trans h.output,
  fun b hb hf => (g.old b (Nat.lt_of_lt_of_le hb h.size)).trans (h.blk b hb hf), fun b hb => (g.I b (Nat.lt_of_lt_of_le hb h.size)).trans (h.I b hb), fun id loc hm h1 => hgo id loc (h.φ id loc hm h1), fun id hid h1 => by
   rw [g.φ id (fun hn => by have := g.ge id hn; omega)]; exact h.und id hid h1⟩
 ·by_cases hn : N id
  ·exact (g.made id o loc hn h1 h2).1
  ·rw [g.φ id hn] at h2
   exact (h.heap id o loc h1 h2).mono hho hgo (fun b cap e => g.old b (by subst e; exact (h.own id o b cap h1 h2).1))
 ·by_cases hn : N id
  ·have := (g.made id o _ hn h1 h2).2 b cap rfl
   exact ⟨this.2.1, this.2.2, .inl (Nat.le_trans h.size this.1)⟩
  ·rw [g.φ id hn] at h2
   obtain ⟨h3, h4, h5⟩ := h.own id o b cap h1 h2
   exact ⟨Nat.lt_of_lt_of_le h3 g.size, fun hi => h4 ((g.I b h3).1 hi), h5⟩
 ·by_cases hn : N id
  ·by_cases hn' : N id'
   ·exact g.apart id id' b cap cap' hne hn hn' h3 h4
   ·rw [g.φ id' hn'] at h4
    have := (h.own id' o' b cap' h2 h4).1
    have := ((g.made id o _ hn h1 h3).2 b cap rfl).1
    omega
  ·rw [g.φ id hn] at h3
   by_cases hn' : N id'
   ·have := (h.own id o b cap h1 h3).1
    have := ((g.made id' o' _ hn' h2 h4).2 b cap' rfl).1
    omega
   ·rw [g.φ id' hn'] at h4
    exact h.apart id id' o o' b cap cap' hne h1 h2 h3 h4
theorem Grew.grown {B : Base} {H : Heap} {c c' : Ctx} {w w' : World} {nx : Nat} {new : Option VObj} (g : Grew c w nx new c' w') (hnx : new ≠ none → c.φ nx = none) (him : ∀ b, c.I b → b < w.heap.size) (hge : new ≠ none → B.m ≤ nx) (hH : ∀ o, new = some o → hget H nx = some o) :
  znk B H (fun id => id = nx ∧ new ≠ none) c w c' w' := by
 refine ⟨g.size, g.os, g.tape, g.output, g.old, fun b _ => by rw [g.I], fun b hb => Nat.lt_of_lt_of_le (him b (g.I ▸ hb)) g.size, fun id hn => ?_, fun id hn => hn.1 ▸ hnx hn.2, fun id o loc hn h1 h2 => ?_, fun id hn => hn.1 ▸ hge hn.2, fun id id' b cap cap' hne h1 h2 _ _ => hne (h1.1.trans h2.1.symm)⟩
 ·by_cases e : id = nx
  ·subst e
   cases new with
   | none => exact g.kept rfl
   | some o => exact absurd ⟨rfl, by simp⟩ hn
  ·exact g.φ id e
 ·obtain ⟨rfl, hnew⟩ := hn
  cases new with
  | none => exact absurd rfl hnew
  | some o' =>
   obtain ⟨loc', h3, h4, h5⟩ := g.made o' rfl
   rw [hH o' rfl] at h1; cases h1
   rw [h3] at h2; cases h2
   exact ⟨h4, fun b cap e => ⟨(h5 b cap e).1, (h5 b cap e).2, fun hi => by have := him b (g.I ▸ hi); have := (h5 b cap e).1; omega⟩⟩
end Go.Proofs.YtppnccjeggnllaaGreatVm
namespace Go.Proofs.YtppnccjeggnllaaGreatVm
open Go Go.RowKit
set_option linter.all false
section
variable {P : Program} {B : Base} {S : St} {c c' : Ctx} {w w' : World} {a : Act} {H : Heap} {mv : List Nat}
theorem zfG {T : Tm} {d : Option Tmp} {v : AV} {t : Nat} : tget (tput T d v) t = if d = some t then some v else tget T t := by
 cases d with
 | none => simp [tput]
 | some d => simp [tput, tget]
theorem zbB : ∀ {H : Heap} {id k : Nat} {o : VObj}, hget (hset H id o) k = if k = id then (hget H id).map (fun _ => o) else hget H k
 | [], id, k, o => by simp [hset, hget]
 | (j, x) :: r, id, k, o => by
  simp only [hset]
  split
  ·rename_i h
   subst h
   simp only [hget]
   by_cases hk : k = j
   ·subst hk; simp
   ·simp [hk, Ne.symm hk]
  ·rename_i h
   simp only [hget]
   by_cases hk : k = id
   ·subst hk
    simp only [if_neg h, if_true]
    rw [zbB]; simp
   ·rw [zbB]
    simp [hk]
theorem zd8 {o : Option Tmp} {v : Value} {av : AV} (ht : ∀ t v, tget S.T t = some v → Rep c w v (a.tmps.getD t undef)) (hn : ∀ d, o = some d → d < a.tmps.size) (hr : Rep c w av v) :
  ∀ t x, tget (tput S.T o av) t = some x → Rep c w x ((a.put o v).tmps.getD t undef) := by
 intro t x h
 rw [zfG] at h
 cases o with
 | none => simp at h; exact ht t x h
 | some d =>
  simp only [Option.some.injEq] at h
  by_cases e : d = t
  ·subst e
   rw [if_pos rfl] at h
   obtain rfl := inj1 h
   have := hn d rfl
   simpa [Act.put, this] using hr
  ·rw [if_neg e] at h
   have := ht t x h
   simpa [Act.put, Array.getElem?_setIfInBounds_ne e] using this
theorem HRel.write {id b cap : Nat} {o o' : VObj} (h : HRel B H mv c w) (ho : hget H id = some o) (hφ : c.φ id = some (.blk b cap)) (hsz : w'.heap.size = w.heap.size) (hos : w'.os = w.os) (htp : w'.tape = w.tape) (hou : w'.output = w.output)
  (hoth : ∀ k, k ≠ b → w'.heap[k]? = w.heap[k]?) (hrep : zby c w' o' (.blk b cap)) : HRel B (hset H id o') mv c w' ∧ zaT c c w w' := by
 have hown := h.own id o b cap ho hφ
 have hho : zaT c c w w' := fun k hk => ⟨hk, hoth k (fun e => hown.2.1 (e ▸ hk))⟩
 have hget' : ∀ k x, hget (hset H id o') k = some x → (k = id ∧ x = o') ∨ (k ≠ id ∧ hget H k = some x) := by
  intro k x hx
  rw [zbB] at hx
  split at hx
  ·rename_i e; subst e; rw [ho] at hx; simp at hx; exact .inl ⟨rfl, hx.symm⟩
  ·rename_i e; exact .inr ⟨e, hx⟩
 refine ⟨⟨fun k x loc h1 h2 => ?_, fun k x b' cap' h1 h2 => ?_, fun k k' x x' b1 c1 c2 hne h1 h2 h3 h4 => ?_, fun k hk => hsz ▸ h.imm k hk, hsz ▸ h.size, hos.trans h.os, htp.trans h.tape, hou.trans h.output, fun k hk hf => ?_, h.I, h.φ, h.und⟩, hho⟩
 ·rcases hget' k x h1 with ⟨rfl, rfl⟩ | ⟨hne, h1⟩
  ·rw [hφ] at h2; cases h2; exact hrep
  ·refine (h.heap k x loc h1 h2).mono hho (fun _ _ h => h) (fun b' cap' e => hoth b' (fun e' => ?_))
   subst e; subst e'
   exact h.apart k id x o b' cap' cap hne h1 ho h2 hφ
 ·rcases hget' k x h1 with ⟨rfl, rfl⟩ | ⟨hne, h1⟩
  ·rw [hφ] at h2; cases h2; exact ⟨hsz ▸ hown.1, hown.2⟩
  ·have := h.own k x b' cap' h1 h2; exact ⟨hsz ▸ this.1, this.2⟩
 ·have e1 : ∃ y, hget H k = some y := by
   rcases hget' k x h1 with ⟨rfl, _⟩ | ⟨_, h1⟩
   ·exact ⟨o, ho⟩
   ·exact ⟨x, h1⟩
  have e2 : ∃ y, hget H k' = some y := by
   rcases hget' k' x' h2 with ⟨rfl, _⟩ | ⟨_, h2⟩
   ·exact ⟨o, ho⟩
   ·exact ⟨x', h2⟩
  obtain ⟨y, e1⟩ := e1
  obtain ⟨y', e2⟩ := e2
  exact h.apart k k' y y' b1 c1 c2 hne e1 e2 h3 h4
 ·rw [hoth k (fun e => ?_)]
  ·exact h.blk k hk hf
  ·subst e
   rcases (h.ownFoot ho hφ).2.2 with h1 | h1
   ·omega
   ·exact hf h1
theorem zeg : ∀ (vs cs : List AV) (i : Nat), (zat cs i vs).length = cs.length
 | [], _, _ => rfl
 | v :: vs, cs, i => by simp [zat, zeg vs]
theorem zfz : ∀ (vs cs : List PV) (i : Nat), (zlr cs i vs).length = cs.length
 | [], _, _ => rfl
 | v :: vs, cs, i => by simp [zlr, zfz vs]
theorem zlA : ∀ (vs cs : List PV) (i : Nat), (zlr cs i vs).map AV.pv = zat (cs.map .pv) i (vs.map .pv)
 | [], _, _ => rfl
 | v :: vs, cs, i => by simp only [zlr, zat, List.map_cons]; rw [zlA]; simp [List.map_set]
theorem zdX : ∀ (us cs : List Value) (i : Nat), i + us.length ≤ cs.length → zfo cs i us = cs.take i ++ us ++ cs.drop (i + us.length)
 | [], cs, i, _ => by simp [zfo]
 | u :: us, cs, i, h => by
  simp only [List.length_cons] at h
  rw [zfo, zdX us (cs.set i u) (i + 1) (by simp; omega)]
  have hlt : i < cs.length := by omega
  rw [List.take_succ_eq_append_getElem (by simpa using hlt)]
  rw [List.drop_set_of_lt (by omega), List.take_set_of_le (Nat.le_refl _)]
  rw [show i + 1 + us.length = i + (us.length + 1) by omega]
  simp only [List.getElem_set_self, List.length_cons, List.append_assoc, List.cons_append, List.nil_append]
theorem zfs {b off : Nat} {e : TypeId} {arr : Array Value} {us : List Value} (hb : w.heap[b]? = some (.cells arr e (0, 0))) (h1 : ∀ u ∈ us, u.oneCell' = true) (hl : off + us.length ≤ arr.size) :
  ∃ w', (storeCells ⟨b, off, none⟩ us).run P w = .ok () w' ∧ w'.heap.size = w.heap.size ∧ w'.os = w.os ∧ w'.tape = w.tape ∧ w'.output = w.output ∧ (∀ k, k ≠ b → w'.heap[k]? = w.heap[k]?) ∧
   w'.heap[b]? = some (.cells (zfo arr.toList off us).toArray e (0, 0)) := by
 have hst := run_storeCells_at P b off e us 0 arr w hb (by simpa using hl) h1
 refine ⟨_, hst, ?_, rfl, rfl, rfl, fun k hk => setRow_other w b k _ (fun e => hk e), ?_⟩
 ·simp [World.setRow]
 ·rw [setRow_heap w b arr _ e _ hb, zdX _ _ _ (by simpa using hl)]
  simp
theorem zdu {k : List Nat} : ∀ {T : Tm} {t : Nat}, tget (zfm k T) t = (tget T t).map (purge k)
 | [], _ => rfl
 | (j, v) :: r, t => by
  simp only [zfm, List.map_cons, tget]
  split
  ·rfl
  ·exact zdu (T := r)
theorem zdr {k : List Nat} : ∀ {H : Heap} {t : Nat}, hget (zc1 k H) t = (hget H t).map (zdN k)
 | [], _ => rfl
 | (j, v) :: r, t => by
  simp only [zc1, List.map_cons, hget]
  split
  ·rfl
  ·exact zdr (H := r)
theorem zby.purge {k : List Nat} (hI : zaT c c' w w') (hφ : zcU k c c') {o : VObj} {loc : Loc} (h : zby c w o loc) (hb : ∀ b cap, loc = .blk b cap → w'.heap[b]? = w.heap[b]?) : zby c' w' (zdN k o) loc := by
 cases o with
 | mp es =>
  cases loc with
  | virt => exact h
  | blk b cap =>
   obtain ⟨arr, k, h1, h5⟩ := h
   exact ⟨arr, k, by rw [hb b cap rfl]; exact h1, h5.mono hI⟩
 | row e sz cs =>
  cases loc with
  | virt => exact h
  | blk b cap =>
   obtain ⟨arr, h1, h2, h3, h4, h5⟩ := h
   refine ⟨arr, by rw [hb b cap rfl]; exact h1, h2, h3, h4, ?_⟩
   have := RepL.purge hI hφ _ _ h5
   have e : ∀ l : List PV, zcB k (l.map .pv) = l.map .pv := by
    intro l; induction l with
    | nil => rfl
    | cons x l ih => simp [zcB, YtppnccjeggnllaaGreatVm.purge, ih]
   rwa [e] at this
 | arow e sz cs =>
  have hpl : ∀ l : List AV, (zcB k l).length = l.length := by
   intro l; induction l with
   | nil => rfl
   | cons x l ih => simp [zcB, ih]
  cases loc with
  | virt => have h' : cs = [] := h; subst h'; rfl
  | blk b cap =>
   obtain ⟨arr, h1, h2, h3, h4, h5⟩ := h
   exact ⟨arr, by rw [hb b cap rfl]; exact h1, h2, h3, by rw [hpl]; exact h4, by rw [hpl]; exact RepL.purge hI hφ _ _ h5⟩
 | box cs =>
  cases loc with
  | virt => exact h
  | blk b cap =>
   obtain ⟨arr, t, h1, h5⟩ := h
   exact ⟨arr, t, by rw [hb b cap rfl]; exact h1, RepL.purge hI hφ _ _ h5⟩
theorem HRel.move {id : Nat} {o o' : VObj} {loc' : Loc} (h : HRel B H mv c w) (ho : hget H id = some o) (hdef : c.φ id ≠ none) (hsz : w.heap.size ≤ w'.heap.size) (hos : w'.os = w.os) (htp : w'.tape = w.tape) (hou : w'.output = w.output)
  (hoth : ∀ k, k < w.heap.size → (∀ cap, c.φ id ≠ some (.blk k cap)) → w'.heap[k]? = w.heap[k]?)
  (hI : c'.I = c.I) (hφ : ∀ k, k ≠ id → c'.φ k = c.φ k) (hφ' : c'.φ id = some loc') (hrep : zby c' w' (zdN [id] o') loc')
  (hloc : ∀ b cap, loc' = .blk b cap → (w.heap.size ≤ b ∧ b < w'.heap.size) ∨ ∃ cap', c.φ id = some (.blk b cap')) :
  HRel B (zc1 [id] (hset H id o')) (id :: mv) c' w' ∧ zaT c c' w w' ∧ zcU [id] c c' := by
 have hho : zaT c c' w w' := fun k hk => ⟨hI ▸ hk, hoth k (h.imm k hk) (fun cap e => (h.own id o k cap ho e).2.1 hk)⟩
 have hgo : zcU [id] c c' := fun k loc hne hk => by rw [hφ k (by simpa using hne)]; exact hk
 have hget' : ∀ k x, hget (zc1 [id] (hset H id o')) k = some x → (k = id ∧ x = zdN [id] o') ∨ (k ≠ id ∧ ∃ y, hget H k = some y ∧ x = zdN [id] y) := by
  intro k x hx
  rw [zdr, zbB] at hx
  split at hx
  ·rename_i e; subst e; rw [ho] at hx; simp at hx
   exact .inl ⟨rfl, hx.symm⟩
  ·rename_i e
   simp only [Option.map_eq_some_iff] at hx
   obtain ⟨y, h1, h2⟩ := hx
   exact .inr ⟨e, y, h1, h2.symm⟩
 have hownid : ∀ b cap, loc' = .blk b cap → b < w'.heap.size ∧ ¬ c'.I b ∧ (B.w0.heap.size ≤ b ∨ (id < B.m ∧ ∃ cap, B.c0.φ id = some (.blk b cap))) := by
  intro b cap e
  rcases hloc b cap e with ⟨h1, h2⟩ | ⟨cap', h1⟩
  ·exact ⟨h2, fun hi => by have := h.imm b (hI ▸ hi); omega, .inl (Nat.le_trans h.size h1)⟩
  ·have := h.own id o b cap' ho h1
   exact ⟨Nat.lt_of_lt_of_le this.1 hsz, hI ▸ this.2.1, this.2.2⟩
 refine ⟨⟨fun k x loc h1 h2 => ?_, fun k x b' cap' h1 h2 => ?_, fun k k' x x' b1 c1 c2 hne h1 h2 h3 h4 => ?_, fun k hk => Nat.lt_of_lt_of_le (h.imm k (hI ▸ hk)) hsz, Nat.le_trans h.size hsz, hos.trans h.os, htp.trans h.tape, hou.trans h.output, fun k hk hf => ?_, fun k hk => by rw [hI]; exact h.I k hk, fun k loc hm hk => ?_, fun k hk h1 => ?_⟩, hho, hgo⟩
 ·rcases hget' k x h1 with ⟨rfl, rfl⟩ | ⟨hne, y, hy, rfl⟩
  ·rw [hφ'] at h2; cases h2; exact hrep
  ·rw [hφ k hne] at h2
   refine (h.heap k y loc hy h2).purge hho hgo (fun b' cap' e => hoth b' ?_ (fun cap e' => ?_))
   ·subst e; exact (h.own k y b' cap' hy h2).1
   ·subst e; exact h.apart k id y o b' cap' cap hne hy ho h2 e'
 ·rcases hget' k x h1 with ⟨rfl, rfl⟩ | ⟨hne, y, hy, rfl⟩
  ·rw [hφ'] at h2; cases h2; exact hownid b' cap' rfl
  ·rw [hφ k hne] at h2
   have := h.own k y b' cap' hy h2
   exact ⟨Nat.lt_of_lt_of_le this.1 hsz, hI ▸ this.2.1, this.2.2⟩
 ·have key : ∀ {k' x' c2}, k' ≠ id → hget (zc1 [id] (hset H id o')) k' = some x' → c'.φ k' = some (.blk b1 c2) → (∃ c1, loc' = .blk b1 c1) → False := by
   intro k' x' c2 hne' h2 h4 ⟨c1, h3⟩
   rcases hget' k' x' h2 with ⟨rfl, _⟩ | ⟨_, y, hy, rfl⟩
   ·exact hne' rfl
   ·rw [hφ k' hne'] at h4
    have h5 := (h.own k' y b1 c2 hy h4).1
    rcases hloc b1 c1 h3 with ⟨h6, _⟩ | ⟨cap', h6⟩
    ·omega
    ·exact h.apart k' id y o b1 c2 cap' hne' hy ho h4 h6
  by_cases e1 : k = id
  ·subst e1
   rw [hφ'] at h3
   exact key (Ne.symm hne) h2 h4 ⟨c1, inj1 h3⟩
  ·by_cases e2 : k' = id
   ·subst e2
    rw [hφ'] at h4
    exact key e1 h1 h3 ⟨c2, inj1 h4⟩
   ·rcases hget' k x h1 with ⟨rfl, _⟩ | ⟨_, y, hy, rfl⟩
    ·exact e1 rfl
    rcases hget' k' x' h2 with ⟨rfl, _⟩ | ⟨_, y', hy', rfl⟩
    ·exact e2 rfl
    rw [hφ k e1] at h3
    rw [hφ k' e2] at h4
    exact h.apart k k' y y' b1 c1 c2 hne hy hy' h3 h4
 ·rw [hoth k (Nat.lt_of_lt_of_le hk h.size) (fun cap e => ?_)]
  ·exact h.blk k hk hf
  ·rcases (h.ownFoot ho e).2.2 with h1 | h1
   ·omega
   ·exact hf h1
 ·simp only [List.mem_cons, not_or] at hm
  rw [hφ k hm.1]
  exact h.φ k loc hm.2 hk
 ·have h2 := h.und k hk h1
  rw [hφ k (fun e => hdef (e ▸ h2))]
  exact h2
theorem zcD (hs : SRel B S c w a) {x : Operand} {v : AV} (h : S.ev x = some v) : Rep c w v (a.eval x) := by
 cases x with
 | tmp t => exact hs.t t v h
 | const u => exact zgf h
 | func f => simp only [St.ev] at h; obtain rfl := inj1 h; exact ⟨_, rfl, by simp [RepL]⟩
 | global g => simp [St.ev] at h
theorem zgU (hs : SRel B S c w a) (op : Op) : zb9 c w op S.ev a.eval := fun _ _ _ h => zcD hs h
def St.applyW (S : St) (dst : Option Tmp) (v : Option AV) (H' : Heap) : Option Nat → St
 | none => { S with T := tput S.T dst (v.getD .undef), H := H' }
 | some k => { S with T := tput (zfm [k] S.T) dst (v.getD .undef), H := zc1 [k] H', mv := k :: S.mv }
theorem zcH (a : Act) (d : Option Tmp) (v : Value) : (a.put d v).tmps.size = a.tmps.size := by cases d <;> simp [Act.put]
theorem za7 (a : Act) (d : Option Tmp) (v : Value) : (a.put d v).defers = a.defers := by cases d <;> rfl
theorem zrr {x : AV} {u : Value} (h1 : told x = true) (h2 : (zam x).all one = true) (h : Rep c w x u) : ∀ v ∈ u.cells.toList, v.oneCell' = true := zeS h2 (zfD h1 h)
theorem inj4 {α β γ : Type} {p q : Prop} {b d : α} {e f : β} {g h : γ} (x : some (p, b, e, g) = some (q, d, f, h)) : p = q ∧ b = d ∧ e = f ∧ g = h := by cases x; exact ⟨rfl, rfl, rfl, rfl⟩
theorem znl {o : Oper} {cond : Prop} {v : Option AV} {H' : Heap} {k : Option Nat} (hs : SRel B S c w a) (he : zez P S.ev S.H o.op = some (cond, v, H', k)) (hc : cond) (hd : ∀ d, o.dst = some d → d < S.nt) :
  ∃ w' c', ((v = none ∧ (execOp a.eval o).run P w = .ok .skip w' ∧ SRel B (S.applyW o.dst v H' k) c' w' (a.put o.dst undef)) ∨
   ∃ u, (execOp a.eval o).run P w = .ok (.value u) w' ∧ SRel B (S.applyW o.dst v H' k) c' w' (a.put o.dst u)) := by
 unfold zez at he
 split at he
 ·rename_i t x y hop
  split at he
  case h_2 => simp at he
  rename_i id off av s hx hy hsz
  split at he
  case isFalse => simp at he
  rename_i hcnd
  obtain ⟨ht, h1, hlen⟩ := hcnd
  split at he
  case h_2 => simp at he
  rename_i ob hob
  split at he
  case h_2 => simp at he
  rename_i c1 ob' hst
  obtain ⟨rfl, rfl, rfl, rfl⟩ := inj4 he
  have hrx := zcD hs hx
  have hry := zcD hs hy
  simp only [Rep] at hrx
  obtain ⟨b, cap, hφ, hv⟩ := hrx
  have hcells := zfD ht hry
  have hones := zrr ht h1 hry
  have hobj := hs.h.heap id ob _ hob hφ
  obtain ⟨us, hus⟩ : ∃ us, us = (a.eval y).cells.toList := ⟨_, rfl⟩
  rw [← hus] at hcells hones
  have hcl : us.length = s := by rw [← zW hcells]; exact hlen
  have hcl' : (a.eval y).cells.size = s := by rw [← Array.length_toList, ← hus]; exact hcl
  obtain ⟨arr, e, hb, hle, hrepo⟩ : ∃ arr e, w.heap[b]? = some (.cells arr e (0, 0)) ∧ off + us.length ≤ arr.size ∧
    ∀ w', zaT c c w w' → w'.heap[b]? = some (.cells (zfo arr.toList off us).toArray e (0, 0)) → zby c w' ob' (.blk b cap) := by
   cases ob with
   | mp es => simp [zem] at hst
   | arow e sz cs => simp [zem] at hst
   | box cs =>
    simp only [zem] at hst
    obtain ⟨rfl, rfl⟩ := z9 hst
    obtain ⟨arr, e, hb, hl⟩ := hobj
    have hll := zW hl
    have hl2 := zW hcells
    simp only [Array.length_toList] at hll
    exact ⟨arr, e, hb, by omega, fun w' hh hb' => ⟨_, e, hb', by simpa using RepL.mono hh (fun _ _ h => h) _ _ (zeI (i := off) hl hcells)⟩⟩
   | row e sz cs =>
    simp only [zem] at hst
    split at hst
    case h_2 => simp at hst
    rename_i ps hps
    obtain ⟨rfl, rfl⟩ := z9 hst
    obtain ⟨arr, hb, h2, h3, h4, hl⟩ := hobj
    have hpe := zhl hps
    have hl2 := zW hcells
    refine ⟨arr, e, hb, by omega, fun w' hh hb' => ⟨_, hb', by simp [zbb, h2], h3, by simp [zbb, zfz, h4], ?_⟩⟩
    rw [zlA, zfz, ← hpe]
    have h5 := zeI (i := off) hl hcells
    have h6 : zfo (arr.toList.take cs.length) off us = (zfo arr.toList off us).take cs.length := by
     rw [zdX _ _ _ (by simp; omega), zdX _ _ _ (by simp; omega)]
     rw [List.take_append, List.take_append]
     simp only [List.take_take, List.length_take, List.length_append, Array.length_toList]
     have e1 : min off cs.length = off := by omega
     have e2 : min off arr.size = off := by omega
     rw [e1, e2, Nat.min_comm cs.length off, e1]
     rw [List.take_of_length_le (i := cs.length - off) (by omega)]
     rw [List.drop_take]
    rw [h6] at h5
    exact RepL.mono hh (fun _ _ h => h) _ _ (by simpa using h5)
  obtain ⟨w', hrun, hwsz, hos, htp, hou, hoth, hb'⟩ := zfs (P := P) hb hones hle
  have hoth' : ∀ k, k ≠ b → w'.heap[k]? = w.heap[k]? := hoth
  have hho : zaT c c w w' := fun k hk => ⟨hk, hoth k (fun e => (hs.h.own id ob b cap hob hφ).2.1 (e ▸ hk))⟩
  obtain ⟨hH, _⟩ := hs.h.write (o' := ob') hob hφ hwsz hos htp hou hoth (hrepo w' hho hb')
  refine ⟨w', c, .inl ⟨rfl, ?_, ⟨hH, ?_, by rw [zcH]; exact hs.nt, by rw [za7]; exact hs.df, hs.fresh, hs.lo, fun k x hk => ?_, hs.mlo, hs.nlo⟩⟩⟩
  ·simp only [execOp, hop, Sem.run_bind, Instr.storeAt, hv, Instr.sureAddr, Sem.run_pure, Result.andThen_ok, storeVar, zaY hsz]
   rw [if_neg (by simp; omega), ← hus]
   simp only [hrun, Result.andThen_ok]
  ·exact zd8 (fun t v h => Rep.mono hho (fun _ _ h => h) _ _ (hs.t t v h)) (fun d h => by rw [hs.nt]; exact hd d h) trivial
  ·have hk' : hget (hset S.H id ob') k = some x := hk
   rw [zbB] at hk'
   split at hk'
   ·rename_i e; subst e; exact hs.wf _ _ hob
   ·exact hs.wf _ _ hk'
 ·rename_i cl hop
  split at he
  case h_2 => simp at he
  rename_i hcal
  split at he
  case h_2 => simp at he
  rename_i id sz off n x t u hvs hts
  split at he
  case h_2 => simp at he
  rename_i e sz' cs m nw e' hob hcn he'
  split at he
  case h_2 => simp at he
  rename_i sz2 by' zs hsz hby hz
  split at he
  case isFalse => simp at he
  rename_i hcnd
  obtain ⟨rfl, rfl, rfl, rfl, hu⟩ := hcnd
  obtain ⟨rfl, rfl, rfl, rfl⟩ := inj4 he
  obtain ⟨h0, hzl, hcl, hnl, hmx, hb1⟩ := hc
  obtain ⟨callee, args, ts⟩ := cl
  simp only at hcal hvs hts
  subst hcal
  obtain ⟨xs, rfl⟩ : ∃ xs : List Operand, args = xs.toArray := ⟨args.toList, by simp⟩
  obtain ⟨tl, rfl⟩ : ∃ tl : List TypeId, ts = tl.toArray := ⟨ts.toList, by simp⟩
  simp only at hts hvs
  subst hts
  match xs, hvs with
  | [], hvs => simp [evs] at hvs
  | [_], hvs => have := zb4 hvs; simp at this
  | _ :: _ :: _ :: _, hvs => have := zb4 hvs; simp at this
  | [y1, y2], hvs =>
   simp only [evs] at hvs
   cases hy1 : S.ev y1 with
   | none => simp [hy1] at hvs
   | some a1 =>
    cases hy2 : S.ev y2 with
    | none => simp [hy1, hy2] at hvs
    | some a2 =>
     simp [hy1, hy2] at hvs
     obtain ⟨rfl, rfl⟩ := hvs
     have hrx := zcD hs hy1
     have hry := zcD hs hy2
     obtain ⟨i, z, hi, hzi, hzz, hcz⟩ := zeG hz
     obtain ⟨i', hi', hs'⟩ := ze2 hsz
     rw [hi] at hi'; cases hi'
     have hbi := zei hi hby
     obtain ⟨hlen, news, hnr, hnew⟩ := zct (P := P) (sz := sz2) hs.h.heap hcn hry hnl
     have hnewlen := zW hnr
     simp only [List.length_map] at hnewlen
     have hexec : execOp a.eval o = (do pure (.value (← Builtin.append_ #[t, u] o.type #[a.eval y1, a.eval y2])) : Sem Next) := by simp [execOp, hop, resolve, invoke, builtin]
     obtain ⟨hu1, hu2⟩ := zeP hu
     have hones : ∀ v ∈ news, v.oneCell' = true := zeS (zp3 nw) hnr
     -- what zuM to be shown, once the row lies somewhere
     have fin : ∀ (w' : World) (c' : Ctx) (uv : Value), (Builtin.append_ #[t, u] o.type #[a.eval y1, a.eval y2]).run P w = .ok uv w' →
       (HRel B (zc1 [id] (hset S.H id (.row e' sz2 (cs ++ nw)))) (id :: S.mv) c' w' ∧ zaT c c' w w' ∧ zcU [id] c c') → (∀ j, S.nx ≤ j → c'.φ j = none) → Rep c' w' (.ref id sz2 0 (n + m)) uv →
       ∃ w' c', ((some (AV.ref id sz2 0 (n + m)) = none ∧ (execOp a.eval o).run P w = .ok .skip w' ∧ SRel B (S.applyW o.dst (some (.ref id sz2 0 (n + m))) (hset S.H id (.row e' sz2 (cs ++ nw))) (some id)) c' w' (a.put o.dst undef)) ∨
        ∃ u, (execOp a.eval o).run P w = .ok (.value u) w' ∧ SRel B (S.applyW o.dst (some (.ref id sz2 0 (n + m))) (hset S.H id (.row e' sz2 (cs ++ nw))) (some id)) c' w' (a.put o.dst u)) := by
      intro w' c' uv hrun hH hfr hrep
      obtain ⟨hH1, hH2, hH3⟩ := hH
      refine ⟨w', c', .inr ⟨uv, ?_, ⟨hH1, ?_, by rw [zcH]; exact hs.nt, by rw [za7]; exact hs.df, hfr, hs.lo, fun k x hk => ?_, hs.mlo, hs.nlo⟩⟩⟩
      ·rw [hexec, Sem.run_bind, hrun]; rfl
      ·refine zd8 (S := { S with T := zfm [id] S.T }) (fun t v h => ?_) (fun d h => by rw [hs.nt]; exact hd d h) hrep
       simp only [zdu, Option.map_eq_some_iff] at h
       obtain ⟨v0, h1, rfl⟩ := h
       exact Rep.purge hH2 hH3 _ _ (hs.t t v0 h1)
      ·have hk' : hget (zc1 [id] (hset S.H id (.row e' sz2 (cs ++ nw)))) k = some x := hk
       rw [zdr, zbB] at hk'
       split at hk'
       ·rename_i e; subst e; exact hs.wf _ _ hob
       ·simp only [Option.map_eq_some_iff] at hk'
        obtain ⟨y, hy, _⟩ := hk'
        exact hs.wf _ _ hy
     have hdef : c.φ id ≠ none := fun h0 => by
      simp only [Rep] at hrx
      rcases hrx with ⟨h1, _⟩ | ⟨b, cap, ad, h1, _⟩ <;> rw [h0] at h1 <;> cases h1
     have hidlt : ¬ S.nx ≤ id := fun hle => by
      simp only [Rep] at hrx
      rcases hrx with ⟨h1, _⟩ | ⟨b, cap, ad, h1, _⟩ <;> rw [hs.fresh id hle] at h1 <;> cases h1
     -- a new block
     have grow : ∀ (ad : Option Addr) (cap : Nat) (olds : List Value), a.eval y1 = .slice ad n cap → cap < n + m → RepL c w (cs.map .pv) olds → (∀ w' : World, w'.heap = w.heap → (Builtin.firstCells sz2 n (.slice ad n cap)).run P w' = .ok olds.toArray w') →
       ∃ w' c' uv, (Builtin.append_ #[t, u] o.type #[a.eval y1, a.eval y2]).run P w = .ok uv w' ∧
       (HRel B (zc1 [id] (hset S.H id (.row e' sz2 (cs ++ nw)))) (id :: S.mv) c' w' ∧ zaT c c' w w' ∧ zcU [id] c c') ∧ (∀ j, S.nx ≤ j → c'.φ j = none) ∧ Rep c' w' (.ref id sz2 0 (n + m)) uv := by
      intro ad cap olds hv hcap hol hold
      have hr := zfe (P := P) (w := w) (ty := o.type) (z7 he') hu1 hu2 hi hzi hlen (by rw [hs']; exact hnew) (by rw [hs']; exact hold) (a := ad) (cap := cap) hcap (by omega) hmx
      have hrl := zaF hol hnr
      rw [← List.map_append] at hrl
      obtain ⟨arr, harr, h5, h6, h7, h8, h9⟩ := zl1 (e := e') (old := cap) (z := z) (N := grownCap w (n + m) cap e') (by omega : z.cells.size = sz2) hrl (by rw [List.length_append, hcl, hnl, Nat.add_mul]) hmx rfl
      let c' : Ctx := { φ := fun k => if k = id then some (.blk w.heap.size (grownCap w (n + m) cap e')) else c.φ k, I := c.I }
      have hheap : (w.drew.alloc (.cells arr e')).heap = w.heap.push (.cells arr e') := rfl
      have hho : zaT c c' w (w.drew.alloc (.cells arr e')) := fun b hb => ⟨hb, by rw [hheap, Array.getElem?_push, if_neg (Nat.ne_of_lt (hs.h.imm b hb))]⟩
      refine ⟨w.drew.alloc (.cells arr e'), c', .slice (some ⟨w.heap.size, 0, none⟩) (n + m) (grownCap w (n + m) cap e'), ?_, ?_, fun j hj => ?_, ?_⟩
      ·rw [hv, hr, harr]; simp
      ·refine hs.h.move hob hdef (by rw [hheap]; simp) rfl rfl rfl (fun k hk _ => by rw [hheap, Array.getElem?_push, if_neg (by omega)]) rfl (fun k hk => if_neg hk) (if_pos rfl) ?_ (fun b cp e => by cases e; exact .inl ⟨Nat.le_refl _, by rw [hheap]; simp⟩)
       refine ⟨arr, by rw [hheap]; simp, h5, h7, h9, ?_⟩
       rw [h8]
       have : ∀ (l : List PV) (vs : List Value), RepL c w (l.map .pv) vs → RepL c' (w.drew.alloc (.cells arr e')) (l.map .pv) vs := by
        intro l
        induction l with
        | nil => intro vs h; cases vs <;> simp_all [RepL]
        | cons p l ih =>
         intro vs h
         cases vs with
         | nil => simp [RepL] at h
         | cons v vs =>
          simp only [List.map_cons, RepL, Rep] at h ⊢
          exact ⟨RepP.mono hho _ _ h.1, ih vs h.2⟩
       exact this _ _ hrl
      ·show (if j = id then _ else c.φ j) = none
       rw [if_neg (fun (e : j = id) => hidlt (e ▸ hj))]
       exact hs.fresh j hj
      ·simp only [Rep]
       exact .inr ⟨_, _, _, if_pos rfl, rfl, by omega, h7, .inl (by simp)⟩
     simp only [Rep] at hrx
     rcases hrx with ⟨hφ, _, rfl, ad, hv⟩ | ⟨b, cap, ad, hφ, hv, h5, h6, h7⟩
     ·have hcs : cs = [] := hs.h.heap id _ _ hob hφ
      subst hcs
      by_cases hm0 : m = 0
      ·subst hm0
       have e2 : nw = [] := List.eq_nil_of_length_eq_zero (by omega)
       subst e2
       have e3 : news = [] := List.eq_nil_of_length_eq_zero (by simpa using hnewlen.symm)
       subst e3
       have e4 := hnew w rfl
       rw [← hs'] at e4
       have := zcz (P := P) (w := w) (ty := o.type) (a := ad) (n := 0) (cap := 0) (z7 he') hu1 hu2 hi (hlen w) e4 (by omega)
       refine fin w c (.slice ad 0 0) ?_ ?_ hs.fresh ?_
       ·rw [hv, this]; cases ad <;> simp [storeCells]
       ·exact hs.h.move hob hdef (Nat.le_refl _) rfl rfl rfl (fun _ _ _ => rfl) rfl (fun _ _ => rfl) hφ rfl (fun b cp e => by cases e)
       ·simp only [Rep]; exact .inl ⟨hφ, trivial, by simp, ad, rfl⟩
      ·obtain ⟨w', c', uv, g1, g2, g3, g4⟩ := grow ad 0 [] hv (by omega) (by simp [RepL]) (fun w' hw => by
        cases ad with
        | none => exact run_firstCells_none w' _ 0 0 _
        | some ad => exact run_firstCells_some (P := P) w' _ 0 ad 0 _ [] (by simp) (by simp))
       exact fin w' c' uv g1 g2 g3 g4
     ·simp only [Nat.sub_zero, Nat.zero_mul] at hv h7
      by_cases hroom : n + m ≤ cap
      ·have hnz : ad = some ⟨b, 0, none⟩ ∨ (n = 0 ∧ m = 0 ∧ cap = 0) := h7.imp (fun h => h) (fun h => by omega)
       obtain ⟨arr, hb, hasz, hacm, hale, hal⟩ := hs.h.heap id _ _ hob hφ
       have e4 := hnew w rfl
       rw [← hs'] at e4
       have hr := zcz (P := P) (w := w) (ty := o.type) (a := ad) (n := n) (cap := cap) (z7 he') hu1 hu2 hi (hlen w) e4 hroom
       rcases hnz with rfl | ⟨rfl, rfl, rfl⟩
       ·have hfit : n * sz2 + news.length ≤ arr.size := by rw [hasz, ← hnewlen, hnl, ← Nat.add_mul]; exact Nat.mul_le_mul_right _ hroom
        obtain ⟨w', hrun, hwsz, hos, htp, hou, hoth, hb'⟩ := zfs (P := P) (off := n * sz2) hb hones hfit
        have hho : zaT c c w w' := fun k hk => ⟨hk, hoth k (fun e => (hs.h.own id _ b cap hob hφ).2.1 (e ▸ hk))⟩
        refine fin w' c (.slice (some ⟨b, 0, none⟩) (n + m) cap) ?_ ?_ hs.fresh ?_
        ·rw [hv, hr]
         simp only [za9, Nat.zero_add, hs', hrun, Result.andThen_ok]
        ·refine hs.h.move hob hdef (Nat.le_of_eq hwsz.symm) hos htp hou (fun k _ hk => hoth k (fun e => hk cap (e ▸ hφ))) rfl (fun _ _ => rfl) hφ ?_ (fun b' cp e => by cases e; exact .inr ⟨cap, hφ⟩)
         refine ⟨_, hb', by simp [zbb, hasz], h6, ?_, ?_⟩
         ·simp only [List.length_append, List.size_toArray, zbb, Array.length_toList]; omega
         ·have h8 := zaF hal hnr
          rw [← List.map_append] at h8
          have h9 : ((zfo arr.toList (n * sz2) news).toArray.toList).take (cs ++ nw).length = arr.toList.take cs.length ++ news := by
           rw [zdX _ _ _ (by simpa using hfit)]
           simp only [List.length_append, hcl, hnewlen]
           rw [List.take_append_of_le_length (by simp; omega)]
           rw [List.take_of_length_le (by simp; omega)]
          rw [h9]
          exact RepL.mono hho (fun _ _ h => h) _ _ h8
        ·simp only [Rep]; exact .inr ⟨b, cap, some ⟨b, 0, none⟩, hφ, by simp, by omega, h6, .inl (by simp)⟩
       ·have e2 : nw = [] := List.eq_nil_of_length_eq_zero (by omega)
        subst e2
        have e3 : news = [] := List.eq_nil_of_length_eq_zero (by simpa using hnewlen.symm)
        subst e3
        have e5 : cs = [] := List.eq_nil_of_length_eq_zero (by omega)
        subst e5
        refine fin w c (.slice ad 0 0) ?_ ?_ hs.fresh ?_
        ·rw [hv, hr]; cases ad <;> simp [storeCells]
        ·exact hs.h.move hob hdef (Nat.le_refl _) rfl rfl rfl (fun _ _ _ => rfl) rfl (fun _ _ => rfl) hφ ⟨arr, hb, hasz, hacm, by simp, by simp [RepL]⟩ (fun b' cp e => by cases e; exact .inr ⟨_, hφ⟩)
        ·simp only [Rep]; exact .inr ⟨b, 0, ad, hφ, rfl, by omega, h6, .inr rfl⟩
      ·obtain ⟨olds, hol, hold⟩ : ∃ olds : List Value, RepL c w (cs.map .pv) olds ∧ ∀ w' : World, w'.heap = w.heap → (Builtin.firstCells sz2 n (.slice ad n cap)).run P w' = .ok olds.toArray w' := by
        have := zct (P := P) (H := S.H) (x := .ref id sz2 0 n) (vx := .slice ad n cap) (m := n) (sz := sz2) (ps := cs) hs.h.heap (by simp [zaU, hob, hcl.symm, List.take_of_length_le (Nat.le_of_eq hcl)]) (by simp only [Rep]; exact .inr ⟨b, cap, ad, hφ, by simp, by omega, h6, by simpa using h7⟩) hcl
        exact this.2
       obtain ⟨w', c', uv, g1, g2, g3, g4⟩ := grow ad cap olds hv (by omega) hol hold
       exact fin w' c' uv g1 g2 g3 g4
 ·simp at he
end
end Go.Proofs.YtppnccjeggnllaaGreatVm
namespace Go.Proofs.YtppnccjeggnllaaGreatVm
open Go Go.RowKit Go.MapKept
set_option linter.all false
def zuQ (P : Program) (ev : Operand → Option AV) (H : Heap) (op : Op) : Option (Prop × AV × Heap) := none
section
variable {P : Program} {B : Base} {S : St} {c c' : Ctx} {w w' : World} {a : Act} {H : Heap} {mv : List Nat}
theorem zuM {o : Oper} {v : AV} {u : Value} {H' : Heap} (hs : SRel B S c w a) (hH : HRel B H' S.mv c w') (hho : zaT c c w w') (hwf : ∀ k x, hget H' k = some x → ∃ y, hget S.H k = some y) (hd : ∀ d, o.dst = some d → d < S.nt) (hr : Rep c w' v u) :
  SRel B (S.applyW o.dst (some v) H' none) c w' (a.put o.dst u) := by
 refine ⟨hH, ?_, by rw [zcH]; exact hs.nt, by rw [za7]; exact hs.df, hs.fresh, hs.lo, fun k x hk => ?_, hs.mlo, hs.nlo⟩
 ·exact zd8 (fun t v h => Rep.mono hho (fun _ _ h => h) _ _ (hs.t t v h)) (fun d h => by rw [hs.nt]; exact hd d h) hr
 ·obtain ⟨y, hy⟩ := hwf k x hk
  exact hs.wf _ _ hy
theorem zhB {id : Nat} {o : VObj} {k : Nat} {x : VObj} (h : hget (hset H id o) k = some x) : ∃ y, hget H k = some y := by
 rw [zbB] at h
 split at h
 ·rename_i e; subst e
  simp only [Option.map_eq_some_iff] at h
  exact ⟨_, h.choose_spec.1⟩
 ·exact ⟨_, h⟩
theorem zko {a b cap sz : Nat} (h0 : 0 < sz) (h : a * sz ≤ b) (hb : b ≤ cap * sz) : a ≤ cap := Nat.le_of_mul_le_mul_right (Nat.le_trans h hb) h0
theorem zji {a sz : Nat} (h0 : 0 < sz) (h : a * sz ≤ 0) : a = 0 := by
 rcases Nat.mul_eq_zero.1 (Nat.le_zero.1 h) with h | h
 ·exact h
 ·omega
theorem zm3 {o : Oper} {cond : Prop} {v : AV} {H' : Heap} (hs : SRel B S c w a) (he : zuQ P S.ev S.H o.op = some (cond, v, H')) (hc : cond) (hd : ∀ d, o.dst = some d → d < S.nt) :
  ∃ w' u, (execOp a.eval o).run P w = .ok (.value u) w' ∧ SRel B (S.applyW o.dst (some v) H' none) c w' (a.put o.dst u) := by cases he
def zuU (P : Program) (ev : Operand → Option AV) (H : Heap) (op : Op) : Option (Prop × Heap) := none
theorem zm1 {o : Oper} {cond : Prop} {H' : Heap} (hs : SRel B S c w a) (he : zuU P S.ev S.H o.op = some (cond, H')) (hc : cond) (hd : ∀ d, o.dst = some d → d < S.nt) :
  ∃ w', (execOp a.eval o).run P w = .ok .skip w' ∧ SRel B (S.applyW o.dst none H' none) c w' (a.put o.dst undef) := by cases he
end
end Go.Proofs.YtppnccjeggnllaaGreatVm

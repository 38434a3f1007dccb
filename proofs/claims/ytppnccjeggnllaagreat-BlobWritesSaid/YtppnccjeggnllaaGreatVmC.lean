import Derived.Test.YtppnccjeggnllaaGreatVmB
import Derived.MapKept
namespace Go.Proofs.YtppnccjeggnllaaGreatVm
open Go Go.RowKit Go.MapKept
set_option linter.all false
def zdy (c : Ctx) (w : World) : List (DV × DV) → List MapEntry → Prop
 | [], [] => True
 | e :: es, x :: xs => (Rep c w e.1.av x.key ∧ Rep c w e.2.av x.val) ∧ zdy c w es xs
 | _, _ => False
theorem DV.mono {c c' : Ctx} {w w' : World} (hI : zaT c c' w w') {d : DV} {v : Value} (h : Rep c w d.av v) : Rep c' w' d.av v := by
 have hl : ∀ (ps : List PV) (vs : List Value), RepL c w (ps.map .pv) vs → RepL c' w' (ps.map .pv) vs := by
  intro ps
  induction ps with
  | nil => intro vs h; cases vs <;> simp_all [RepL]
  | cons p ps ih =>
   intro vs h
   cases vs with
   | nil => simp [RepL] at h
   | cons v vs =>
    simp only [List.map_cons, RepL, Rep] at h ⊢
    exact ⟨RepP.mono hI _ _ h.1, ih vs h.2⟩
 cases d with
 | one p => simp only [DV.av, Rep] at h ⊢; exact RepP.mono hI _ _ h
 | agg ps => simp only [DV.av, Rep] at h ⊢; obtain ⟨vs, h1, h2⟩ := h; exact ⟨vs, h1, hl _ _ h2⟩
theorem zdy.mono {c c' : Ctx} {w w' : World} (hI : zaT c c' w w') : ∀ {es : List (DV × DV)} {xs : List MapEntry}, zdy c w es xs → zdy c' w' es xs
 | [], [], _ => trivial
 | e :: es, x :: xs, h => by simp only [zdy] at h ⊢; exact ⟨⟨DV.mono hI h.1.1, DV.mono hI h.1.2⟩, zdy.mono hI h.2⟩
 | [], _ :: _, h => by simp [zdy] at h
 | _ :: _, [], h => by simp [zdy] at h
def ABlk (x : Option Obj) (e : TypeId) (sz : Nat) (arr : Array Value) : Prop := (sz ≠ 0 ∧ x = some (.cells arr e (0, 0))) ∨ (sz = 0 ∧ ∃ s r, x = some (.chan e arr false s r false))
def MBlk (x : Option Obj) (cap : Nat) (arr : Array MapEntry) (clock : Nat) : Prop := x = some (.map arr clock) ∧ cap ≠ 0
def zby (c : Ctx) (w : World) : VObj → Loc → Prop
 | .mp _, .virt => False
 | .mp es, .blk b cap => ∃ (arr : Array MapEntry) (clock : Nat), MBlk w.heap[b]? cap arr clock ∧ zdy c w es arr.toList
 | .row _ _ cs, .virt => cs = []
 | .row e sz cs, .blk b cap => ∃ arr, w.heap[b]? = some (.cells arr e (0, 0)) ∧ arr.size = cap * sz ∧ cap ≤ maxLen ∧ cs.length ≤ arr.size ∧ RepL c w (cs.map .pv) (arr.toList.take cs.length)
 | .arow _ _ cs, .virt => cs = []
 | .arow e sz cs, .blk b cap => ∃ arr, ABlk w.heap[b]? e sz arr ∧ (sz ≠ 0 → arr.size = cap * sz) ∧ ((sz = 0 → cap = 0) ∧ cap ≤ maxLen) ∧ (cs.length ≤ arr.size ∧ (sz = 0 → cs.length = arr.size)) ∧ RepL c w cs (arr.toList.take cs.length)
 | .box _, .virt => False
 | .box cs, .blk b _ => ∃ arr t, w.heap[b]? = some (.cells arr t (0, 0)) ∧ RepL c w cs arr.toList
structure Grew (c : Ctx) (w : World) (nx : Nat) (new : Option VObj) (c' : Ctx) (w' : World) : Prop where
 size : w.heap.size ≤ w'.heap.size
 os : w'.os = w.os
 tape : w'.tape = w.tape
 output : w'.output = w.output
 old : ∀ b, b < w.heap.size → w'.heap[b]? = w.heap[b]?
 I : c'.I = c.I
 φ : ∀ id, id ≠ nx → c'.φ id = c.φ id
 kept : new = none → c'.φ nx = c.φ nx
 made : ∀ o, new = some o → ∃ loc, c'.φ nx = some loc ∧ zby c' w' o loc ∧ ∀ b cap, loc = .blk b cap → w.heap.size ≤ b ∧ b < w'.heap.size
theorem Grew.refl (c : Ctx) (w : World) (nx : Nat) : Grew c w nx none c w :=
 ⟨Nat.le_refl _, rfl, rfl, rfl, fun _ _ => rfl, rfl, fun _ _ => rfl, fun _ => rfl, fun _ h => by cases h⟩
theorem inj2 {α β : Type} {a c : α} {b d : β} (h : some (a, b) = some (c, d)) : a = c ∧ b = d := by cases h; exact ⟨rfl, rfl⟩
theorem z9 {β : Type} {a c : Prop} {b d : β} (h : some (a, b) = some (c, d)) : a = c ∧ b = d := by cases h; exact ⟨rfl, rfl⟩
theorem inj3 {β γ : Type} {a c : Prop} {b d : β} {e f : γ} (h : some (a, b, e) = some (c, d, f)) : a = c ∧ b = d ∧ e = f := by cases h; exact ⟨rfl, rfl, rfl⟩
theorem inj1 {α : Type} {a b : α} (h : some a = some b) : a = b := by cases h; rfl
def zaC (P : Program) (c : Ctx) (w : World) (nx : Nat) (o : Oper) (ρ : Operand → Value) (v : AV) (new : Option VObj) : Prop :=
 ∃ v' w' c', (execOp ρ o).run P w = .ok (.value v') w' ∧ Grew c w nx new c' w' ∧ Rep c' w' v v'
theorem za9 (b off j : Nat) : (⟨b, off, none⟩ : Addr).add j = ⟨b, off + j, none⟩ := by
 unfold Addr.add; split <;> simp_all
theorem zeD {w : World} {b : Nat} {arr : Array Value} {e : TypeId} {fr : Nat × Nat} (h : w.heap[b]? = some (.cells arr e fr)) (i : Nat) : w.cell? ⟨b, i, none⟩ = arr[i]? := by
 simp [World.cell?, h]
theorem zrg {c : Ctx} {w : World} {a : AV} {v : Value} (h1 : one a = true) (h : Rep c w a v) : v.oneCell' = true := by
 cases a with
 | pv p =>
  simp only [Rep] at h
  cases p <;> simp only [RepP] at h <;> first | (subst h; rfl) | (obtain ⟨a, cap, rfl, _⟩ := h; rfl)
 | pptr cs off => simp only [Rep] at h; obtain ⟨b, o, rfl, _⟩ := h; rfl
 | ptr id off => simp only [Rep] at h; obtain ⟨b, cap, _, rfl⟩ := h; rfl
 | ref id sz off n => simp only [Rep] at h; rcases h with ⟨_, _, _, a, rfl⟩ | ⟨b, cap, a, _, rfl, _⟩ <;> rfl
 | view id off n => simp only [Rep] at h; obtain ⟨b, cap, cp, a, _, rfl, _⟩ := h; rfl
 | fnc f cs => simp only [Rep] at h; obtain ⟨vs, rfl, _⟩ := h; rfl
 | bnd f q cs => simp only [Rep] at h; obtain ⟨us, vs, rfl, _⟩ := h; rfl
 | mapr id => simp only [Rep] at h; obtain ⟨b, cap, _, rfl⟩ := h; unfold mref; split <;> rfl
 | undef => simp [one] at h1
 | agg cs => simp [one] at h1
 | tup cs => simp [one] at h1
theorem zp9 {v : Value} (h : v.oneCell' = true) : v.cells = #[v] := by cases v <;> simp_all [Value.cells, Value.oneCell']
theorem zmQ {a : AV} (h : one a = true) : zam a = [a] := by cases a <;> simp_all [zam, one]
theorem zfD {c : Ctx} {w : World} {a : AV} {v : Value} (h1 : told a = true) (h : Rep c w a v) : RepL c w (zam a) v.cells.toList := by
 by_cases h2 : one a = true
 ·rw [zmQ h2, zp9 (zrg h2 h)]
  exact ⟨h, trivial⟩
 ·cases a <;> simp_all [told, one]
  simp only [Rep] at h
  obtain ⟨vs, rfl, hl⟩ := h
  simpa [zam, Value.cells] using hl
theorem zeS {c : Ctx} {w : World} : ∀ {as : List AV} {vs : List Value}, as.all one = true → RepL c w as vs → ∀ v ∈ vs, v.oneCell' = true
 | [], [], _, _, v, hv => by simp at hv
 | a :: as, v :: vs, h1, h, u, hu => by
  simp only [RepL] at h
  simp only [List.all_cons, Bool.and_eq_true] at h1
  rcases List.mem_cons.1 hu with rfl | hu
  ·exact zrg h1.1 h.1
  ·exact zeS h1.2 h.2 u hu
 | [], _ :: _, _, h, _, _ => by simp [RepL] at h
 | _ :: _, [], _, h, _, _ => by simp [RepL] at h
theorem zp3 (ps : List PV) : (ps.map AV.pv).all one = true := by simp [one]
theorem zgo {c : Ctx} {w : World} {v : Value} {p : PV} (h : ziI v = some p) : RepP c w p v := by
 unfold ziI at h
 split at h <;> simp at h
 case h_1 => subst h; simp [RepP]
 case h_2 => subst h; simp [RepP]
 case h_3 => subst h; simp [RepP]
 case h_4 => subst h; simp [RepP]
 case h_5 => subst h; simp [RepP]
 case h_6 => subst h; simp [RepP]
 case h_7 f first caps => obtain ⟨⟨h1, h2⟩, rfl⟩ := h; subst h1; subst h2; simp [RepP]
theorem zdO {c : Ctx} {w : World} : ∀ {vs : List Value} {ps : List PV}, zdB vs = some ps → RepL c w (ps.map .pv) vs
 | [], ps, h => by simp [zdB] at h; subst h; simp [RepL]
 | v :: vs, ps, h => by
  simp only [zdB] at h
  split at h <;> simp at h
  rename_i p qs h1 h2
  subst h
  simp only [List.map_cons, RepL, Rep]
  exact ⟨zgo h1, zdO h2⟩
theorem zgf {c : Ctx} {w : World} {v : Value} {a : AV} (h : zhv v = some a) : Rep c w a v := by
 unfold zhv at h
 split at h
 ·simp at h
  obtain ⟨ps, h1, rfl⟩ := h
  exact ⟨_, rfl, zdO h1⟩
 ·simp at h
  obtain ⟨p, h1, rfl⟩ := h
  exact zgo h1
theorem zgJ {P : Program} {t : TypeId} {zs : List PV} (h : zbZ P t = some zs) (c : Ctx) (w : World) :
  ∃ z, (zeroValue t).run P w = .ok z w ∧ RepL c w (zs.map .pv) z.cells.toList := by
 unfold zbZ at h
 cases hi : P.info? t with
 | none => simp [hi] at h
 | some i =>
  simp only [hi, Option.bind_some] at h
  cases hz : i.zero with
  | none => simp [hz] at h
  | some z =>
   simp only [hz, Option.bind_some] at h
   exact ⟨z, by simp [zeroValue, typeInfo, hi, hz], zdO h⟩
theorem zaY {P : Program} {t : TypeId} {s : Nat} (h : tsz P t = some s) (w : World) : (sizeOf t).run P w = .ok s w := by
 unfold tsz at h
 cases hi : P.info? t with
 | none => simp [hi] at h
 | some i => simp [hi] at h; simp [sizeOf, typeInfo, hi, h]
theorem ze2 {P : Program} {t : TypeId} {s : Nat} (h : tsz P t = some s) : ∃ i, P.info? t = some i ∧ i.size = s := by
 unfold tsz at h
 cases hi : P.info? t with
 | none => simp [hi] at h
 | some i => simp [hi] at h; exact ⟨i, rfl, h⟩
theorem zer {P : Program} {t : TypeId} {b : Bool} (h : tagg P t = some b) (w : World) : (isAgg t).run P w = .ok b w := by
 unfold tagg at h
 cases hu : P.underlying t with
 | none => simp [hu] at h
 | some d =>
  simp [hu] at h
  simp only [isAgg, Sem.run_bind, run_underlying hu, Result.andThen_ok]
  cases d <;> simp_all
theorem Grew.alloc {c : Ctx} {w : World} {nx : Nat} (hnx : c.φ nx = none) (cap : Nat) (arr : Array Value) (t : TypeId) (o : VObj) (w1 : World)
  (hw : w1.heap = w.heap.push (.cells arr t)) (hos : w1.os = w.os) (htp : w1.tape = w.tape) (hou : w1.output = w.output)
  (hI : ∀ b, c.I b → b < w.heap.size)
  (ho : ∀ c' , Goes c c' → c'.I = c.I → zby c' w1 o (.blk w.heap.size cap)) :
  ∃ c', Grew c w nx (some o) c' w1 ∧ Goes c c' ∧ zaT c c' w w1 ∧ c'.φ nx = some (.blk w.heap.size cap) := by
 let c' : Ctx := { φ := fun id => if id = nx then some (.blk w.heap.size cap) else c.φ id, I := c.I }
 have hold : ∀ b, b < w.heap.size → w1.heap[b]? = w.heap[b]? := fun b hb => by rw [hw, Array.getElem?_push, if_neg (by omega)]
 have hgo : Goes c c' := fun id loc h => by
  show (if id = nx then _ else c.φ id) = some loc
  rw [if_neg (fun e => by rw [e, hnx] at h; cases h)]; exact h
 refine ⟨c', ⟨by rw [hw]; simp, hos, htp, hou, hold, rfl, fun id h => if_neg h, (fun h => by cases h), ?_⟩, hgo, fun b hb => ⟨hb, hold b (hI b hb)⟩, if_pos rfl⟩
 intro o' h
 cases h
 exact ⟨_, if_pos rfl, ho c' hgo rfl, fun b cap' e => by cases e; exact ⟨Nat.le_refl _, by rw [hw]; simp⟩⟩
def zb9 (c : Ctx) (w : World) (op : Op) (ev : Operand → Option AV) (ρ : Operand → Value) : Prop :=
 ∀ x ∈ op.operands.toList, ∀ v, ev x = some v → Rep c w v (ρ x)
def zcX (c : Ctx) (w : World) (H : Heap) : Prop := ∀ id o loc, hget H id = some o → c.φ id = some loc → zby c w o loc
section
variable {P : Program} {c : Ctx} {w : World} {nx : Nat} {o : Oper} {ρ : Operand → Value} {ev : Operand → Option AV} {H : Heap} {cond : Prop} {v : AV} {new : Option VObj}
theorem zP {v' : Value} (h : (execOp ρ o).run P w = .ok (.value v') w) (hr : Rep c w v v') : zaC P c w nx o ρ v none :=
 ⟨v', w, c, h, .refl _ _ _, hr⟩
theorem zo1 {x : Operand} (ho : o.op = .move x) (hm : zb9 c w o.op ev ρ) (h : ev x = some v) : zaC P c w nx o ρ v none :=
 zP (by simp [execOp, ho]) (hm x (by simp [ho, Op.operands]) v h)
theorem zlO {x : Operand} (ho : o.op = .assign x) (hm : zb9 c w o.op ev ρ) (h : ev x = some v) : zaC P c w nx o ρ v none :=
 zP (by simp [execOp, ho]) (hm x (by simp [ho, Op.operands]) v h)
theorem zpo {x a b : Operand} {t : Bool} (ho : o.op = .pick x a b) (hm : zb9 c w o.op ev ρ) (hx : ev x = some (.pv (.bool t))) (h : (if t then ev a else ev b) = some v) : zaC P c w nx o ρ v none := by
 have h1 := hm x (by simp [ho, Op.operands]) _ hx
 simp only [Rep, RepP] at h1
 refine zP (v' := if t then ρ a else ρ b) (by simp [execOp, ho, h1, asBool]) ?_
 cases t with
 | true => exact hm a (by simp [ho, Op.operands]) v h
 | false => exact hm b (by simp [ho, Op.operands]) v h
theorem znw {t : TypeId} {zs : List PV} (hnx : c.φ nx = none) (hI : ∀ b, c.I b → b < w.heap.size) (ho : o.op = .alloc t) (hz : zbZ P t = some zs) :
  zaC P c w nx o ρ (.ptr nx 0) (some (.box (zs.map .pv))) := by
 obtain ⟨z, hz1, hz2⟩ := zgJ hz c w
 obtain ⟨c', hg, hgo, hh, hφ⟩ := Grew.alloc hnx 1 z.cells t (.box (zs.map .pv)) { w with heap := w.heap.push (.cells z.cells t) } rfl rfl rfl rfl hI
  (fun c' hgo hI' => ⟨z.cells, t, by simp, RepL.mono (fun b hb => ⟨hI' ▸ hb, by simp [Array.getElem?_push, Nat.ne_of_lt (hI b hb)]⟩) hgo _ _ hz2⟩)
 exact ⟨_, _, c', by simp [execOp, ho, Instr.alloc, hz1, newVar, newRow], hg, _, _, hφ, rfl⟩
theorem zqa {t : TypeId} {x : Operand} {u : AV} (hnx : c.φ nx = none) (hI : ∀ b, c.I b → b < w.heap.size) (ho : o.op = .box t x) (hm : zb9 c w o.op ev ρ) (hx : ev x = some u) (ht : told u = true) :
  zaC P c w nx o ρ (.ptr nx 0) (some (.box (zam u))) := by
 have h1 := zfD ht (hm x (by simp [ho, Op.operands]) _ hx)
 obtain ⟨c', hg, hgo, hh, hφ⟩ := Grew.alloc hnx 1 (ρ x).cells t (.box (zam u)) { w with heap := w.heap.push (.cells (ρ x).cells t) } rfl rfl rfl rfl hI
  (fun c' hgo hI' => ⟨(ρ x).cells, t, by simp, RepL.mono (fun b hb => ⟨hI' ▸ hb, by simp [Array.getElem?_push, Nat.ne_of_lt (hI b hb)]⟩) hgo _ _ h1⟩)
 exact ⟨_, _, c', by simp [execOp, ho, Instr.box, newVar, newRow], hg, _, _, hφ, rfl⟩
theorem Grew.allocO {c : Ctx} {w : World} {nx : Nat} (hnx : c.φ nx = none) (cap : Nat) (x : Obj) (o : VObj) (w1 : World)
  (hw : w1.heap = w.heap.push x) (hos : w1.os = w.os) (htp : w1.tape = w.tape) (hou : w1.output = w.output)
  (hI : ∀ b, c.I b → b < w.heap.size)
  (ho : ∀ c' , Goes c c' → c'.I = c.I → zby c' w1 o (.blk w.heap.size cap)) :
  ∃ c', Grew c w nx (some o) c' w1 ∧ Goes c c' ∧ zaT c c' w w1 ∧ c'.φ nx = some (.blk w.heap.size cap) := by
 let c' : Ctx := { φ := fun id => if id = nx then some (.blk w.heap.size cap) else c.φ id, I := c.I }
 have hold : ∀ b, b < w.heap.size → w1.heap[b]? = w.heap[b]? := fun b hb => by rw [hw, Array.getElem?_push, if_neg (by omega)]
 have hgo : Goes c c' := fun id loc h => by
  show (if id = nx then _ else c.φ id) = some loc
  rw [if_neg (fun e => by rw [e, hnx] at h; cases h)]; exact h
 refine ⟨c', ⟨by rw [hw]; simp, hos, htp, hou, hold, rfl, fun id h => if_neg h, (fun h => by cases h), ?_⟩, hgo, fun b hb => ⟨hb, hold b (hI b hb)⟩, if_pos rfl⟩
 intro o' h
 cases h
 exact ⟨_, if_pos rfl, ho c' hgo rfl, fun b cap' e => by cases e; exact ⟨Nat.le_refl _, by rw [hw]; simp⟩⟩
theorem zjR {t k v : TypeId} (h : tmap P t = some (k, v)) : P.underlying t = some (.map k v) := by
 unfold tmap at h; split at h <;> simp_all
theorem zkX {t k v : TypeId} (hnx : c.φ nx = none) (hI : ∀ b, c.I b → b < w.heap.size) (ho : o.op = .makeMap t none) : zaC P c w nx o ρ (.mapr nx) (some (.mp [])) := by
 obtain ⟨c', hg, hgo, hh, hφ⟩ := Grew.allocO hnx 1 (.map #[] 0) (.mp []) { w with heap := w.heap.push (.map #[] 0) } rfl rfl rfl rfl hI (fun c' _ _ => ⟨#[], 0, ⟨by simp, by decide⟩, trivial⟩)
 exact ⟨_, _, c', by simp only [execOp, ho, Option.map_none, Instr.makeMap, Sem.run_bind, Sem.run_pure, Result.andThen_ok, newObj]; rfl, hg, _, _, hφ, rfl⟩
theorem ztf {t : TypeId} {d : DV} {v : Value} (h : zpf P t d = true) (hr : Rep c w d.av v) : ∃ td, P.underlying t = some td ∧ IsKey td v := by
 unfold zpf at h
 split at h
 ·rename_i k n
  split at h
  ·rename_i k' hu
   simp only [beq_iff_eq] at h; subst h
   simp only [DV.av, Rep, RepP] at hr; subst hr
   exact ⟨_, hu, by simp [IsKey]⟩
  ·simp at h
 ·split at h
  ·rename_i s hu
   simp only [DV.av, Rep, RepP] at hr; subst hr
   exact ⟨_, hu, by simp [IsKey]⟩
  ·simp at h
 ·simp at h
theorem ztP (a b : List UInt8) : ((⟨a.toArray⟩ : ByteArray) == ⟨b.toArray⟩) = (a == b) := by
 rw [Bool.eq_iff_iff, bytes_beq]
 simp
theorem zkl {t : TypeId} {td : TypeDesc} {d d' : DV} {v v' : Value} {b : Bool} (hk : zpf P t d = true) (hu : P.underlying t = some td) (he : d.eq d' = some b) (hr : Rep c w d.av v) (hr' : Rep c w d'.av v') : Instr.sameNow td v v' = some b := by
 unfold zpf at hk
 split at hk
 ·rename_i k n
  split at hk
  ·rename_i k' hu'
   rw [hu] at hu'; cases hu'
   cases d' with
   | agg ps => simp [DV.eq] at he
   | one p =>
    cases p <;> simp only [DV.eq, pvEq] at he <;> try (cases he; done)
    split at he
    ·rename_i e; subst e; cases he
     simp only [DV.av, Rep, RepP] at hr hr'; subst hr; subst hr'
     simp [Instr.sameNow]
    ·cases he
  ·simp at hk
 ·split at hk
  ·rename_i s hu'
   rw [hu] at hu'; cases hu'
   cases d' with
   | agg ps => simp [DV.eq] at he
   | one p =>
    cases p <;> simp only [DV.eq, pvEq] at he <;> try (cases he; done)
    cases he
    simp only [DV.av, Rep, RepP] at hr hr'; subst hr; subst hr'
    simp only [Instr.sameNow, ztP]
  ·simp at hk
 ·simp at hk
theorem zma {t : TypeId} {td : TypeDesc} {d : DV} {v : Value} (hk : zpf P t d = true) (hu : P.underlying t = some td) (hr : Rep c w d.av v) : ∀ {es : List (DV × DV)} {xs : List MapEntry} {r : Option DV} (i : Nat), zdy c w es xs → zpT d es = some r →
  (r = none ∧ Instr.findNow td v xs i = some none) ∨ ∃ u j x, r = some u ∧ Instr.findNow td v xs i = some (some (i + j, x)) ∧ Rep c w u.av x
 | [], [], r, i, _, h => by simp only [zpT] at h; cases h; exact .inl ⟨rfl, rfl⟩
 | (k', u) :: es, x :: xs, r, i, he, h => by
  simp only [zdy] at he
  simp only [zpT] at h
  split at h
  ·rename_i e
   cases h
   have := zkl hk hu e hr he.1.1
   exact .inr ⟨u, 0, x.val, rfl, by simp [Instr.findNow, this], he.1.2⟩
  ·rename_i e
   have := zkl hk hu e hr he.1.1
   rcases zma hk hu hr (i + 1) he.2 h with ⟨h1, h2⟩ | ⟨u, j, y, h1, h2, h3⟩
   ·exact .inl ⟨h1, by simp [Instr.findNow, this, h2]⟩
   ·exact .inr ⟨u, j + 1, y, h1, by simp [Instr.findNow, this, h2]; omega, h3⟩
  ·cases h
 | [], _ :: _, _, _, he, _ => by simp [zdy] at he
 | _ :: _, [], _, _, he, _ => by simp [zdy] at he
theorem zvd {a : AV} {d : DV} (h : DV.of a = some d) : d.av = a := by
 unfold DV.of at h
 split at h
 ·cases h; rfl
 ·rename_i cs
  simp only [Option.map_eq_some_iff] at h
  obtain ⟨ps, h1, rfl⟩ := h
  have : ∀ {l : List AV} {ps : List PV}, pvs l = some ps → ps.map .pv = l := by
   intro l
   induction l with
   | nil => intro ps h; simp [pvs] at h; subst h; rfl
   | cons a l ih =>
    intro ps h
    cases a <;> simp only [pvs] at h <;> try (cases h; done)
    simp only [Option.map_eq_some_iff] at h
    obtain ⟨qs, h2, rfl⟩ := h
    simp [ih h2]
  simp only [DV.av, this h1]
 ·cases h
theorem zoZ {t : TypeId} {a : AV} (h : zqv P t = some a) (c : Ctx) (w : World) : ∃ z, (∀ w', (zeroValue t).run P w' = .ok z w') ∧ Rep c w a z := by
 unfold zqv at h
 cases hi : P.info? t with
 | none => simp [hi] at h
 | some i =>
  cases hz : i.zero with
  | none => simp [hi, hz] at h
  | some z =>
   simp [hi, hz] at h
   exact ⟨z, fun w' => by simp [zeroValue, typeInfo, hi, hz], zgf h⟩
theorem zmf {t : TypeId} {x k : Operand} {id : Nat} {es : List (DV × DV)} {kv : AV} (hH : zcX c w H) (ho : o.op = .lookup t x k false) (hm : zb9 c w o.op ev ρ) (hx : ev x = some (.mapr id)) (hk : ev k = some kv)
  (hg : hget H id = some (.mp es)) (hl : zoR P t es kv = some (cond, v)) : zaC P c w nx o ρ v none := by
 have hrx := hm x (by simp [ho, Op.operands]) _ hx
 have hrk := hm k (by simp [ho, Op.operands]) _ hk
 simp only [Rep] at hrx
 obtain ⟨b, cap, hφ, hv⟩ := hrx
 obtain ⟨arr, clock, hb, hents⟩ := hH id _ _ hg hφ
 obtain ⟨hb, hcap0⟩ := hb
 rw [zs4 hcap0] at hv
 unfold zoR at hl
 split at hl
 case h_2 => simp at hl
 rename_i kt et d htm hd
 split at hl
 case h_2 => simp at hl
 rename_i r z hf hz
 split at hl
 case isFalse => simp at hl
 rename_i hko
 obtain ⟨_, rfl⟩ := z9 hl
 rw [← zvd hd] at hrk
 obtain ⟨td, hu, hkey⟩ := ztf hko hrk
 obtain ⟨zv, hz1, hz2⟩ := zoZ hz c w
 have hck := run_checkKey (P := P) (w := w) hu hkey arr.isEmpty 9999
 rcases zma hko hu hrk 0 hents hf with ⟨rfl, h1⟩ | ⟨u, j, y, rfl, h1, h2⟩
 ·refine zP (v' := zv) ?_ hz2
  simp only [execOp, ho, Instr.lookup, hv, Sem.run_bind, run_underlying (zjR htm), Result.andThen_ok, MapKept.run_getObj_map hb, Sem.run_pure, hck, run_findKey hu h1, hz1]
  simp
 ·refine zP (v' := y) ?_ h2
  simp only [execOp, ho, Instr.lookup, hv, Sem.run_bind, run_underlying (zjR htm), Result.andThen_ok, MapKept.run_getObj_map hb, Sem.run_pure, hck, run_findKey hu h1]
  simp
theorem zdV {b : Nat} : ∀ {cs : List PV} {off : Nat}, z4 c w b off cs → ∃ vs : List Value, RepL c w (cs.map .pv) vs ∧ ∀ j u, vs[j]? = some u → w.cell? ⟨b, off + j, none⟩ = some u
 | [], _, _ => ⟨[], by simp [RepL], by simp⟩
 | q :: qs, off, h => by
  simp only [z4] at h
  obtain ⟨⟨u, hu, hr⟩, h2⟩ := h
  obtain ⟨vs, h3, h4⟩ := zdV h2
  refine ⟨u :: vs, by simp only [List.map_cons, RepL, Rep]; exact ⟨hr, h3⟩, fun j x hx => ?_⟩
  cases j with
  | zero => simp at hx; subst hx; simpa using hu
  | succ j => rw [show off + (j + 1) = off + 1 + j by omega]; exact h4 j x (by simpa using hx)
theorem zcG {b : Nat} : ∀ {k : Nat} {cs : List PV} {off : Nat}, z4 c w b off cs → z4 c w b (off + k) (cs.drop k)
 | 0, cs, off, h => by simpa using h
 | k + 1, [], off, _ => by simp [z4]
 | k + 1, q :: qs, off, h => by
  simp only [z4] at h
  have := zcG (k := k) h.2
  rw [show off + (k + 1) = off + 1 + k by omega]; simpa using this
theorem zde {b : Nat} : ∀ {k : Nat} {cs : List PV} {off : Nat}, z4 c w b off cs → z4 c w b off (cs.take k)
 | 0, cs, off, h => by simp [z4]
 | k + 1, [], off, _ => by simp [z4]
 | k + 1, q :: qs, off, h => by
  simp only [z4, List.take_succ_cons] at h ⊢
  exact ⟨h.1, zde h.2⟩
theorem zdg : ∀ {k : Nat} {as : List AV} {vs : List Value}, RepL c w as vs → RepL c w (as.drop k) (vs.drop k)
 | 0, _, _, h => by simpa using h
 | k + 1, [], [], _ => by simp [RepL]
 | k + 1, a :: as, v :: vs, h => by simp only [RepL] at h; simpa using zdg (k := k) h.2
 | k + 1, [], _ :: _, h => by simp [RepL] at h
 | k + 1, _ :: _, [], h => by simp [RepL] at h
theorem zcO : ∀ {k : Nat} {as : List AV} {vs : List Value}, RepL c w as vs → RepL c w (as.take k) (vs.take k)
 | 0, _, _, _ => by simp [RepL]
 | k + 1, [], [], _ => by simp [RepL]
 | k + 1, a :: as, v :: vs, h => by simp only [RepL, List.take_succ_cons] at h ⊢; exact ⟨h.1, zcO h.2⟩
 | k + 1, [], _ :: _, h => by simp [RepL] at h
 | k + 1, _ :: _, [], h => by simp [RepL] at h
theorem zfT {t : TypeId} {b off : Nat} {cs : List AV} {vs : List Value} (hl : RepL c w cs vs) (hc : ∀ j u, vs[j]? = some u → w.cell? ⟨b, j, none⟩ = some u)
  (h : zdn P t cs off = some (cond, v)) (hcond : cond) : ∃ u, (loadVar t ⟨b, off, none⟩).run P w = .ok u w ∧ Rep c w v u := by
 unfold zdn at h
 split at h
 ·rename_i s ha hs
  obtain ⟨rfl, rfl⟩ := z9 h
  have h2 := zcO (k := s) (zdg (k := off) hl)
  have hlen : ((vs.drop off).take s).length = s := by
   have := zW hl
   simp; omega
  have hrun := run_loadCells_list (P := P) w ⟨b, off, none⟩ ((vs.drop off).take s) (fun j u hu => by
   rw [za9]
   rw [List.getElem?_take] at hu
   split at hu
   ·rw [List.getElem?_drop] at hu; exact hc _ _ hu
   ·cases hu)
  rw [hlen] at hrun
  exact ⟨.agg ((vs.drop off).take s).toArray, by simp only [loadVar, Sem.run_bind, zer ha, Result.andThen_ok, if_true, zaY hs, hrun, Sem.run_pure], _, rfl, by simpa using h2⟩
 ·rename_i ha hs
  split at h
  ·rename_i x hx
   obtain ⟨rfl, rfl⟩ := z9 h
   obtain ⟨u, hu, hr⟩ := zg7 hl hx
   refine ⟨u, ?_, hr⟩
   simp only [loadVar, Sem.run_bind, zer ha, Result.andThen_ok, Bool.false_eq_true, if_false]
   simp [hc _ _ hu]
  ·simp at h
 ·simp at h
theorem zlJ (P : Program) (t : TypeId) (cs : List PV) (off : Nat) (h : zgt P t cs off = some (cond, v)) (hc : cond) : ∃ cond', zdn P t (cs.map .pv) off = some (cond', v) ∧ cond' := by
 unfold zgt at h
 split at h
 ·rename_i s ha hs
  unfold zdn
  rw [ha, hs]
  obtain ⟨rfl, rfl⟩ := z9 h
  exact ⟨_, by rw [List.map_take, List.map_drop], by simpa using hc⟩
 ·rename_i ha hs
  unfold zdn
  rw [ha, hs]
  split at h
  ·rename_i x hx
   obtain ⟨rfl, rfl⟩ := z9 h
   exact ⟨True, by simp [hx], trivial⟩
  ·simp at h
 ·simp at h
theorem zoV {t : TypeId} {x : Operand} {a : AV} (hH : zcX c w H) (ho : o.op = .load t x) (hm : zb9 c w o.op ev ρ) (hx : ev x = some a)
  (he : (match some a with
   | some (.ptr id off) => match hget H id with
    | some (.box cs) => (zdn P t cs off).map fun x => (x.1, x.2, (none : Option VObj))
    | some (.row _ _ cs) => (zgt P t cs off).map fun x => (x.1, x.2, none)
    | _ => none
   | some (.pptr cs off) => (zgt P t cs off).map fun x => (x.1, x.2, none)
   | _ => none) = some (cond, v, new)) (hc : cond) : zaC P c w nx o ρ v new := by
 have hr := hm x (by simp [ho, Op.operands]) _ hx
 have fin : ∀ {b off : Nat} {u : Value}, ρ x = .pointer (some ⟨b, off, none⟩) → (loadVar t ⟨b, off, none⟩).run P w = .ok u w → Rep c w v u → new = none → zaC P c w nx o ρ v new := by
  intro b off u h1 h2 h3 h4
  subst h4
  exact zP (by simp [execOp, ho, Instr.loadAt, h1, Instr.sureAddr, h2]) h3
 cases a with
 | ptr id off =>
  simp only [Rep] at hr
  obtain ⟨b, cap, hφ, hv⟩ := hr
  simp only at he
  cases hg : hget H id with
  | none => simp [hg] at he
  | some ob =>
   have hob := hH id ob _ hg hφ
   cases ob with
   | mp es => simp [hg] at he
   | arow e sz cs => simp [hg] at he
   | box cs =>
    simp only [hg, Option.map_eq_some_iff, Prod.mk.injEq] at he
    obtain ⟨⟨c1, v1⟩, h1, h2, h3, h4⟩ := he
    simp only at h2 h3; subst h2 h3
    obtain ⟨arr, ty, hb, hl⟩ := hob
    obtain ⟨u, hu, hru⟩ := zfT (b := b) hl (fun j u hj => by rw [zeD hb]; simpa using hj) h1 hc
    exact fin hv hu hru h4.symm
   | row e sz cs =>
    simp only [hg, Option.map_eq_some_iff, Prod.mk.injEq] at he
    obtain ⟨⟨c1, v1⟩, h1, h2, h3, h4⟩ := he
    simp only at h2 h3; subst h2 h3
    obtain ⟨arr, hb, _, _, hle, hl⟩ := hob
    obtain ⟨c2, h5, h6⟩ := zlJ P t cs off h1 hc
    obtain ⟨u, hu, hru⟩ := zfT (b := b) hl (fun j u hj => by
     rw [zeD hb]; rw [List.getElem?_take] at hj
     split at hj
     ·simpa using hj
     ·cases hj) h5 h6
    exact fin hv hu hru h4.symm
 | pptr cs off =>
  simp only [Rep] at hr
  obtain ⟨b, o', hv, hb, hcs⟩ := hr
  simp only [Option.map_eq_some_iff, Prod.mk.injEq] at he
  obtain ⟨⟨c1, v1⟩, h1, h2, h3, h4⟩ := he
  simp only at h2 h3; subst h2 h3
  have h5 : ∃ cond', zdn P t ((cs.drop off).map .pv) 0 = some (cond', v1) ∧ cond' := by
   obtain ⟨c2, h6, h7⟩ := zlJ P t cs off h1 hc
   unfold zdn at h6
   split at h6
   ·rename_i s ha hs
    unfold zdn
    rw [ha, hs]
    obtain ⟨rfl, rfl⟩ := z9 h6
    exact ⟨_, by rw [List.drop_zero, List.map_drop], by simp at h7 ⊢; omega⟩
   ·rename_i ha hs
    unfold zdn
    rw [ha, hs]
    split at h6
    ·rename_i y hy
     obtain ⟨rfl, rfl⟩ := z9 h6
     exact ⟨True, by rw [List.map_drop, List.getElem?_drop, Nat.add_zero, hy], trivial⟩
    ·simp at h6
   ·simp at h6
  obtain ⟨c3, h8, h9⟩ := h5
  obtain ⟨vs, hl, hcell⟩ := zdV (zcG (k := off) hcs)
  have hload : ∃ u, (loadVar t ⟨b, o' + off, none⟩).run P w = .ok u w ∧ Rep c w v1 u := by
   unfold zdn at h8
   split at h8
   ·rename_i s ha hs
    obtain ⟨rfl, rfl⟩ := z9 h8
    have h2 := zcO (k := s) hl
    have hlen : (vs.take s).length = s := by
     have := zW hl
     simp at this h9 ⊢; omega
    have hrun := run_loadCells_list (P := P) w ⟨b, o' + off, none⟩ (vs.take s) (fun j u hu => by
     rw [za9]
     rw [List.getElem?_take] at hu
     split at hu
     ·exact hcell _ _ hu
     ·cases hu)
    rw [hlen] at hrun
    exact ⟨.agg (vs.take s).toArray, by simp only [loadVar, Sem.run_bind, zer ha, Result.andThen_ok, if_true, zaY hs, hrun, Sem.run_pure], _, rfl, by simpa [List.map_take] using h2⟩
   ·rename_i ha hs
    split at h8
    ·rename_i y hy
     obtain ⟨rfl, rfl⟩ := z9 h8
     obtain ⟨u, hu, hr⟩ := zg7 hl hy
     refine ⟨u, ?_, hr⟩
     simp only [loadVar, Sem.run_bind, zer ha, Result.andThen_ok, Bool.false_eq_true, if_false]
     have := hcell 0 u hu
     simp at this
     simp [this]
    ·simp at h8
   ·simp at h8
  obtain ⟨u, hu, hru⟩ := hload
  exact fin hv hu hru h4.symm
 | _ => simp at he
theorem zgw : ∀ {xs : List Operand} {as : List AV}, (∀ x ∈ xs, ∀ v, ev x = some v → Rep c w v (ρ x)) → evs ev xs = some as → RepL c w as (xs.map ρ)
 | [], as, _, h => by simp [evs] at h; subst h; simp [RepL]
 | x :: xs, as, hm, h => by
  simp only [evs] at h
  split at h
  ·rename_i a bs h1 h2
   obtain rfl := inj1 h
   simp only [List.map_cons, RepL]
   exact ⟨hm x (by simp) a h1, zgw (fun y hy => hm y (by simp [hy])) h2⟩
  ·simp at h
theorem zjD {x : Operand} (ho : o.op = .nilCheck x) (hm : zb9 c w o.op ev ρ)
  (h : (match ev x with
  | some (.ptr id off) => some (True, .ptr id off, none)
  | some (.pptr cs off) => some (True, .pptr cs off, none)
  | some (.fnc f cs) => some (True, .fnc f cs, none)
  | _ => none) = some (cond, v, new)) : zaC P c w nx o ρ v new := by
 have hx := hm x (by simp [ho, Op.operands])
 split at h
 ·rename_i id off he
  obtain ⟨_, rfl, rfl⟩ := inj3 h
  have hr := hx _ he
  have hr' := hr
  simp only [Rep] at hr
  obtain ⟨b, cap, _, hv⟩ := hr
  exact zP (v' := ρ x) (by simp [execOp, ho, hv]) hr'
 ·rename_i cs off he
  obtain ⟨_, rfl, rfl⟩ := inj3 h
  have hr := hx _ he
  have hr' := hr
  simp only [Rep] at hr
  obtain ⟨b, cap, hv, _⟩ := hr
  exact zP (v' := ρ x) (by simp [execOp, ho, hv]) hr'
 ·rename_i f cs he
  obtain ⟨_, rfl, rfl⟩ := inj3 h
  have hr := hx _ he
  have hr' := hr
  simp only [Rep] at hr
  obtain ⟨vs, hv, _⟩ := hr
  exact zP (v' := ρ x) (by simp [execOp, ho, hv]) hr'
 ·simp at h
theorem zjM {f : FuncId} {first caps : Array Operand} {vs : List AV} (ho : o.op = .makeFunc (.func f) first caps) (hf : first.size = 0) (hm : zb9 c w o.op ev ρ) (h : evs ev caps.toList = some vs) :
  zaC P c w nx o ρ (.fnc f vs) none := by
 have hr := zgw (ρ := ρ) (fun x hx => hm x (by simp [ho, Op.operands]; exact .inr (by simpa using hx))) h
 have hfe : first = #[] := by simpa using hf
 subst hfe
 exact zP (v' := .func (.func f) #[] (caps.map ρ)) (by simp [execOp, ho, Instr.makeFunc]) ⟨_, rfl, by simpa using hr⟩
theorem zja {f : FuncId} {first caps : Array Operand} {us vs : List AV} (ho : o.op = .makeFunc (.func f) first caps) (hm : zb9 c w o.op ev ρ) (h1 : evs ev first.toList = some us) (h : evs ev caps.toList = some vs) :
  zaC P c w nx o ρ (.bnd f us.length (us ++ vs)) none := by
 have hr1 := zgw (ρ := ρ) (fun x hx => hm x (by simp [ho, Op.operands]; exact .inl (by simpa using hx))) h1
 have hr := zgw (ρ := ρ) (fun x hx => hm x (by simp [ho, Op.operands]; exact .inr (by simpa using hx))) h
 refine zP (v' := .func (.func f) (first.map ρ) (caps.map ρ)) (by simp [execOp, ho, Instr.makeFunc]) ⟨_, _, rfl, ?_, ?_⟩
 ·have := zW hr1
  simpa using this.symm
 ·have := zaF hr1 hr
  simpa using this
theorem zkM {x : Operand} {k : Nat} {vs : List AV} (ho : o.op = .extract x k) (hm : zb9 c w o.op ev ρ) (hx : ev x = some (.tup vs)) (hk : vs[k]? = some v) : zaC P c w nx o ρ v none := by
 have hr := hm x (by simp [ho, Op.operands]) _ hx
 simp only [Rep] at hr
 obtain ⟨us, hv, hl⟩ := hr
 obtain ⟨u, hu, hru⟩ := zg7 hl hk
 exact zP (v' := u) (by
  simp at hu
  simp [execOp, ho, Instr.extract, hv, hu]) hru
theorem zoB {t : TypeId} {cs : List AV} {off : Nat} {arr : Array Value} (hl : RepL c w cs arr.toList) (h : zdn P t cs off = some (cond, v)) (hc : cond) :
  ∃ u, (part t arr off).run P w = .ok u w ∧ Rep c w v u := by
 unfold zdn at h
 split at h
 ·rename_i s ha hs
  obtain ⟨rfl, rfl⟩ := z9 h
  have h2 := zcO (k := s) (zdg (k := off) hl)
  refine ⟨.agg (arr.extract off (off + s)), by simp [part, zer ha, zaY hs], _, rfl, ?_⟩
  simpa [Array.toList_extract, List.extract_eq_take_drop] using h2
 ·rename_i ha hs
  split at h
  ·rename_i x hx
   obtain ⟨rfl, rfl⟩ := z9 h
   obtain ⟨u, hu, hr⟩ := zg7 hl hx
   simp at hu
   exact ⟨u, by simp [part, zer ha, hu], hr⟩
  ·simp at h
 ·simp at h
theorem znn {t : TypeId} {x : Operand} {f : Nat} {cs : List AV} {off : Nat} {ft : TypeId} (ho : o.op = .field t x f) (hm : zb9 c w o.op ev ρ) (hx : ev x = some (.agg cs)) (hf : tfld P t f = some (off, ft))
  (h : zdn P ft cs off = some (cond, v)) (hc : cond) : zaC P c w nx o ρ v none := by
 have hr := hm x (by simp [ho, Op.operands]) _ hx
 simp only [Rep] at hr
 obtain ⟨us, hv, hl⟩ := hr
 obtain ⟨u, hu, hru⟩ := zoB (P := P) hl h hc
 unfold tfld at hf
 split at hf
 ·rename_i fs hun
  simp only [Option.map_eq_some_iff] at hf
  obtain ⟨fd, h1, h2⟩ := hf
  cases h2
  exact zP (v' := u) (by simp [execOp, ho, Instr.field, run_underlying hun, h1, hv, asAgg, hu]) hru
 ·simp at hf
theorem zfp {t : TypeId} {x : Operand} {f off s : Nat} {ft : TypeId} {a : AV} (ho : o.op = .fieldAddr t x f) (hm : zb9 c w o.op ev ρ) (hx : ev x = some a) (hf : tfld P t f = some (off, ft)) (hs : tsz P ft = some s) (hs0 : s ≠ 0)
  (h : (∃ id p, a = .ptr id p ∧ v = .ptr id (p + off)) ∨ (∃ cs p, a = .pptr cs p ∧ v = .pptr cs (p + off))) : zaC P c w nx o ρ v none := by
 have hr := hm x (by simp [ho, Op.operands]) _ hx
 unfold tfld at hf
 split at hf
 case h_2 => simp at hf
 rename_i fs hun
 simp only [Option.map_eq_some_iff] at hf
 obtain ⟨fd, h1, h2⟩ := hf
 cases h2
 rcases h with ⟨id, p, rfl, rfl⟩ | ⟨cs, p, rfl, rfl⟩
 ·simp only [Rep] at hr
  obtain ⟨b, cap, hφ, hv⟩ := hr
  exact zP (v' := .pointer (some ⟨b, p + fd.offset, none⟩)) (by simp [execOp, ho, Instr.fieldAt, run_underlying hun, h1, hv, Instr.sureAddr, fieldPlace, zaY hs, hs0, za9]) ⟨b, cap, hφ, rfl⟩
 ·simp only [Rep] at hr
  obtain ⟨b, o', hv, hb, hc⟩ := hr
  exact zP (v' := .pointer (some ⟨b, o' + (p + fd.offset), none⟩)) (by simp [execOp, ho, Instr.fieldAt, run_underlying hun, h1, hv, Instr.sureAddr, fieldPlace, zaY hs, hs0, za9, Nat.add_assoc]) ⟨b, o', rfl, hb, hc⟩
theorem zgX {op : Op} (hm : zb9 c w op ev ρ) {x : Operand} (hx : x ∈ op.operands.toList) {n : Int} (h : intA (ev x) = some n) : ∃ k, ρ x = .int k n := by
 unfold intA at h
 split at h
 ·rename_i k m he
  obtain rfl := inj1 h
  have := hm x hx _ he
  simp only [Rep, RepP] at this
  exact ⟨k, this⟩
 ·simp at h
theorem z7 {t e : TypeId} (h : za1 P t = some e) : P.underlying t = some (.slice e) := by
 unfold za1 at h
 split at h
 ·rename_i e' hu; obtain rfl := inj1 h; exact hu
 ·simp at h
theorem zeT {t e : TypeId} {n : Nat} (h : tarr P t = some (n, e)) : P.underlying t = some (.array n e) := by
 unfold tarr at h
 split at h
 ·rename_i m e' hu; obtain ⟨rfl, rfl⟩ := inj2 h; exact hu
 ·simp at h
theorem zds {t : TypeId} (h : tstr P t = true) : P.underlying t = some .string := by
 unfold tstr at h
 split at h
 ·rename_i hu; exact hu
 ·simp at h
theorem zeO {t : TypeId} (h : tslc P t = true) : ∃ e, P.underlying t = some (.slice e) := by
 unfold tslc at h
 split at h
 ·rename_i e hu; exact ⟨e, hu⟩
 ·simp at h
theorem zj6 {t : TypeId} {k : IntKind} (h : tint P t = some k) : P.underlying t = some (.int k) := by
 unfold tint at h
 split at h
 ·rename_i k' hu; obtain rfl := inj1 h; exact hu
 ·simp at h
theorem zjt {t : TypeId} {x i : Operand} {a : AV} {n : Int} (ho : o.op = .indexAddr t x i) (hm : zb9 c w o.op ev ρ) (hx : ev x = some a) (hi : intA (ev i) = some n)
  (h : zha P t a n = some (cond, v)) (hc : cond) : zaC P c w nx o ρ v none := by
 have hr := hm x (by simp [ho, Op.operands]) _ hx
 obtain ⟨k, hk⟩ := zgX hm (x := i) (by simp [ho, Op.operands]) hi
 have hexec : execOp ρ o = (do pure (.value (← Instr.indexAt t (ρ x) (ρ i))) : Sem Next) := by simp [execOp, ho]
 unfold zha at h
 split at h
 ·rename_i m fl cs
  split at h
  case h_2 => simp at h
  rename_i e he
  split at h
  case h_2 => simp at h
  rename_i s hs
  obtain ⟨rfl, rfl⟩ := z9 h
  obtain ⟨h0, h1, hne⟩ := hc
  simp only [Rep, RepP] at hr
  obtain ⟨ad, cap, hv, _, _, _, h4⟩ := hr
  rcases h4 with ⟨_, h4⟩ | ⟨b, off, rfl, hb, hcs⟩
  ·exact absurd h4 hne
  ·exact zP (v' := .pointer (some ⟨b, off + n.toNat * s, none⟩)) (by
    rw [hexec]
    simp [Instr.indexAt, hk, asIntOf, run_underlying (z7 he), hv, h0, h1, zaY hs, za9]) ⟨b, off, rfl, hb, hcs⟩
 ·rename_i id sz off m
  split at h
  case h_2 => simp at h
  rename_i e he
  split at h
  case isFalse => simp at h
  rename_i hs
  obtain ⟨rfl, rfl⟩ := z9 h
  obtain ⟨h0, h1⟩ := hc
  simp only [Rep] at hr
  rcases hr with ⟨_, _, rfl, _⟩ | ⟨b, cap, ad, hφ, hv, h2, h3, h4⟩
  ·omega
  ·rcases h4 with rfl | h4
   ·exact zP (v' := .pointer (some ⟨b, (off + n.toNat) * sz, none⟩)) (by
     rw [hexec]
     simp [Instr.indexAt, hk, asIntOf, run_underlying (z7 he), hv, h0, h1, zaY hs, za9, Nat.add_mul]) ⟨b, cap, hφ, rfl⟩
   ·omega
 ·rename_i id off m
  split at h
  case h_2 => simp at h
  rename_i e he
  split at h
  case h_2 => simp at h
  rename_i s hs
  obtain ⟨rfl, rfl⟩ := z9 h
  obtain ⟨h0, h1⟩ := hc
  simp only [Rep] at hr
  obtain ⟨b, cap, cp, ad, hφ, hv, h2, h3, h4⟩ := hr
  rcases h4 with rfl | h4
  ·exact zP (v' := .pointer (some ⟨b, off + n.toNat * s, none⟩)) (by
    rw [hexec]
    simp [Instr.indexAt, hk, asIntOf, run_underlying (z7 he), hv, h0, h1, zaY hs, za9]) ⟨b, cap, hφ, rfl⟩
  ·omega
 ·rename_i id off
  split at h
  case h_2 => simp at h
  rename_i m e he
  split at h
  case h_2 => simp at h
  rename_i s hs
  obtain ⟨rfl, rfl⟩ := z9 h
  obtain ⟨h0, h1⟩ := hc
  simp only [Rep] at hr
  obtain ⟨b, cap, hφ, hv⟩ := hr
  exact zP (v' := .pointer (some ⟨b, off + n.toNat * s, none⟩)) (by
    rw [hexec]
    simp [Instr.indexAt, hk, asIntOf, run_underlying (zeT he), hv, Instr.sureAddr, h0, h1, zaY hs, za9]) ⟨b, cap, hφ, rfl⟩
 ·rename_i cs off
  split at h
  case h_2 => simp at h
  rename_i m e he
  split at h
  case h_2 => simp at h
  rename_i s hs
  obtain ⟨rfl, rfl⟩ := z9 h
  obtain ⟨h0, h1⟩ := hc
  simp only [Rep] at hr
  obtain ⟨b, o', hv, hb, hcs⟩ := hr
  exact zP (v' := .pointer (some ⟨b, o' + (off + n.toNat * s), none⟩)) (by
    rw [hexec]
    simp [Instr.indexAt, hk, asIntOf, run_underlying (zeT he), hv, Instr.sureAddr, h0, h1, zaY hs, za9, Nat.add_assoc]) ⟨b, o', rfl, hb, hcs⟩
 ·simp at h
theorem zkJ {t : TypeId} {bs : ByteArray} {k : IntKind} {n : Int} {b : UInt8} (ht : P.underlying t = some .string) (h0 : 0 ≤ n) (hb : bs[n.toNat]? = some b) :
  (Instr.index t (.string bs) (.int k n)).run P w = .ok (.int .u8 b.toNat) w := by
 unfold Instr.index
 have h1 : (if 0 ≤ n then bs[n.toNat]? else none) = some b := by rw [if_pos h0]; exact hb
 rw [Sem.run_bind]
 simp only [asIntOf, Sem.run_pure, Result.andThen_ok]
 rw [Sem.run_bind, run_underlying ht]
 simp only [Result.andThen_ok]
 rw [h1]
 rfl
theorem zmI {t : TypeId} {x i : Operand} {a : AV} {n : Int} (ho : o.op = .index t x i) (hm : zb9 c w o.op ev ρ) (hx : ev x = some a) (hi : intA (ev i) = some n)
  (h : zkk P t a n = some (cond, v)) (hc : cond) : zaC P c w nx o ρ v none := by
 have hr := hm x (by simp [ho, Op.operands]) _ hx
 obtain ⟨k, hk⟩ := zgX hm (x := i) (by simp [ho, Op.operands]) hi
 have hexec : execOp ρ o = (do pure (.value (← Instr.index t (ρ x) (ρ i))) : Sem Next) := by simp [execOp, ho]
 unfold zkk at h
 split at h
 ·rename_i s
  split at h
  case isFalse => simp at h
  rename_i ht
  obtain ⟨rfl, rfl⟩ := z9 h
  obtain ⟨h0, h1⟩ := hc
  simp only [Rep, RepP] at hr
  have hget : (⟨s.toArray⟩ : ByteArray)[n.toNat]? = some (s.getD n.toNat 0) := by
   have hlt : n.toNat < s.length := by omega
   have hsz : n.toNat < (⟨s.toArray⟩ : ByteArray).size := by show n.toNat < s.toArray.size; simpa using hlt
   rw [getElem?_pos (⟨s.toArray⟩ : ByteArray) n.toNat hsz]
   show some (s.toArray[n.toNat]'hsz) = _
   simp [List.getD_eq_getElem?_getD, hlt]
  exact zP (v' := .int .u8 (s.getD n.toNat 0).toNat) (by
   rw [hexec, Sem.run_bind, hk, hr, zkJ (zds ht) h0 hget]; rfl) rfl
 ·rename_i cs
  split at h
  case h_2 => simp at h
  rename_i m e he
  split at h
  case h_2 => simp at h
  rename_i s hs
  split at h
  case h_2 => simp at h
  rename_i c1 v1 hp
  obtain ⟨rfl, rfl⟩ := z9 h
  obtain ⟨hc1, h0, h1⟩ := hc
  simp only [Rep] at hr
  obtain ⟨us, hv, hl⟩ := hr
  obtain ⟨u, hu, hru⟩ := zoB (P := P) hl hp hc1
  exact zP (v' := u) (by
   rw [hexec]
   simp [Instr.index, hk, asIntOf, run_underlying (zeT he), hv, h0, h1, zaY hs, hu]) hru
 ·simp at h
end
end Go.Proofs.YtppnccjeggnllaaGreatVm

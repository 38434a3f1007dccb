import Derived.Test.YtppnccjeggnllaaGreatVmHX
namespace Go.Proofs.YtppnccjeggnllaaGreatVm
open Go Go.RowKit
set_option linter.all false
def hrow (H : Heap) (id : Nat) : Option (TypeId × Nat × List AV) := match hget H id with
 | some (.row e (sz + 1) cs) => some (e, sz + 1, cs.map .pv)
 | some (.arow e (sz + 1) cs) => some (e, sz + 1, cs)
 | _ => none
def ARep (c : Ctx) (w : World) (e : TypeId) (sz : Nat) (cs : List AV) : Loc → Prop
 | .virt => cs = []
 | .blk b cap => ∃ arr, w.heap[b]? = some (.cells arr e (0, 0)) ∧ arr.size = cap * sz ∧ cap ≤ maxLen ∧ cs.length ≤ arr.size ∧ RepL c w cs (arr.toList.take cs.length)
theorem zhu {H : Heap} {id : Nat} {e : TypeId} {sz : Nat} {cs : List AV} (h : hrow H id = some (e, sz, cs)) : sz ≠ 0 := by
 unfold hrow at h
 split at h
 ·simp only [Option.some.injEq, Prod.mk.injEq] at h
  obtain ⟨_, rfl, _⟩ := h; exact Nat.succ_ne_zero _
 ·simp only [Option.some.injEq, Prod.mk.injEq] at h
  obtain ⟨_, rfl, _⟩ := h; exact Nat.succ_ne_zero _
 ·cases h
theorem zcL {c : Ctx} {w : World} {H : Heap} {id : Nat} {e : TypeId} {sz : Nat} {cs : List AV} {loc : Loc} (hH : zcX c w H) (h : hrow H id = some (e, sz, cs)) (hφ : c.φ id = some loc) : ARep c w e sz cs loc := by
 unfold hrow at h
 split at h
 ·rename_i e' sz' cs' hg
  simp only [Option.some.injEq, Prod.mk.injEq] at h
  obtain ⟨rfl, rfl, rfl⟩ := h
  have := hH id _ loc hg hφ
  cases loc with
  | virt => have h' : cs' = [] := this; subst h'; rfl
  | blk b cap => obtain ⟨arr, h1, h2, h3, h4, h5⟩ := this; exact ⟨arr, h1, h2, h3, by simpa using h4, by simpa using h5⟩
 ·rename_i e' sz' cs' hg
  simp only [Option.some.injEq, Prod.mk.injEq] at h
  obtain ⟨rfl, rfl, rfl⟩ := h
  have := hH id _ loc hg hφ
  cases loc with
  | virt => exact this
  | blk b cap =>
   obtain ⟨arr, h1, h2, h3, h4, h5⟩ := this
   rcases h1 with ⟨_, h1⟩ | ⟨h1, _⟩
   ·exact ⟨arr, h1, h2 (Nat.succ_ne_zero _), h3.2, h4.1, h5⟩
   ·cases h1
 ·cases h
theorem ARep.obj {c : Ctx} {w : World} {e : TypeId} {sz : Nat} {cs : List AV} {loc : Loc} (hz : sz ≠ 0) (h : ARep c w e sz cs loc) : zby c w (.arow e sz cs) loc := by
 cases loc with
 | virt => exact h
 | blk b cap =>
  obtain ⟨arr, h1, h2, h3, h4, h5⟩ := h
  exact ⟨arr, .inl ⟨hz, h1⟩, fun _ => h2, ⟨fun h => absurd h hz, h3⟩, ⟨h4, fun h => absurd h hz⟩, h5⟩
theorem zij {H : Heap} {id : Nat} {r : TypeId × Nat × List AV} (h : hrow H id = some r) : ∃ o, hget H id = some o := by
 unfold hrow at h
 split at h
 ·exact ⟨_, by assumption⟩
 ·exact ⟨_, by assumption⟩
 ·cases h
def zid (H : Heap) : AV → Option (Nat × List AV)
 | .ref id sz off n => match hrow H id with
  | some (_, sz', cs) => if sz' = sz then some (n, (cs.drop (off * sz)).take (n * sz)) else none
  | none => none
 | .view id off n => match hget H id with
  | some (.box cs) => some (n, (cs.drop off).take n)
  | _ => none
 | v => (zaU H v).map fun r => (r.1, r.2.map .pv)
section
variable {P : Program} {B : Base} {S : St} {c c' : Ctx} {w w' : World} {a : Act} {H : Heap} {mv : List Nat}
theorem zgE {x : AV} {vx : Value} {m sz : Nat} {ps : List AV} (hH : zcX c w H) (h : zid H x = some (m, ps)) (hr : Rep c w x vx) (hl : ps.length = m * sz) :
  (∀ w' : World, (Builtin.lenOf vx).run P w' = .ok m w') ∧ ∃ news : List Value, RepL c w ps news ∧ ∀ w' : World, w'.heap = w.heap → (Builtin.firstCells sz m vx).run P w' = .ok news.toArray w' := by
 have cells : ∀ {b off : Nat} {news : List Value} {len cap : Nat}, RepL c w ps news → (∀ j u, news[j]? = some u → w.cell? ⟨b, off + j, none⟩ = some u) →
   ∀ w' : World, w'.heap = w.heap → (Builtin.firstCells sz m (.slice (some ⟨b, off, none⟩) len cap)).run P w' = .ok news.toArray w' := by
  intro b off news len cap hn hc w' hw
  refine run_firstCells_some (P := P) w' sz m ⟨b, off, none⟩ len cap news ?_ (fun j u hj => ?_)
  ·have := zW hn; omega
  ·rw [za9]
   have := hc j u hj
   simpa [World.cell?, hw] using this
 unfold zid at h
 split at h
 ·rename_i id sz' off n
  split at h
  case h_2 => cases h
  rename_i e sz2 cs hg
  split at h
  case isFalse => cases h
  rename_i hs
  subst hs
  obtain ⟨rfl, rfl⟩ := inj2 h
  simp only [Rep] at hr
  rcases hr with ⟨hφ, rfl, rfl, a, rfl⟩ | ⟨b, cap, a, hφ, rfl, h1, h2, h3⟩
  ·refine ⟨fun w' => by simp [Builtin.lenOf], [], by simp [RepL], fun w' _ => ?_⟩
   cases a with
   | none => exact run_firstCells_none w' sz 0 0 0
   | some a => exact run_firstCells_some (P := P) w' sz 0 a 0 0 [] (by simp) (by simp)
  ·refine ⟨fun w' => by simp [Builtin.lenOf], ?_⟩
   obtain ⟨arr, hb, hsz, hcm, hle, hrl⟩ := zcL hH hg hφ
   have h5 := zcO (k := n * sz2) (zdg (k := off * sz2) hrl)
   rcases h3 with rfl | h3
   ·refine ⟨_, h5, cells h5 (fun j u hj => ?_)⟩
    rw [zeD hb]
    rw [List.getElem?_take] at hj
    split at hj
    ·rw [List.getElem?_drop, List.getElem?_take] at hj
     split at hj
     ·simpa using hj
     ·cases hj
    ·cases hj
   ·have : n = 0 := by omega
    subst this
    refine ⟨[], by simp [RepL], fun w' _ => ?_⟩
    cases a with
    | none => exact run_firstCells_none w' sz 0 0 _
    | some a => exact run_firstCells_some (P := P) w' sz 0 a 0 _ [] (by simp) (by simp)
 ·rename_i id off n
  split at h
  case h_2 => cases h
  rename_i cs hg
  obtain ⟨rfl, rfl⟩ := inj2 h
  simp only [Rep] at hr
  obtain ⟨b, cap, cp, a, hφ, rfl, h1, h2, h3⟩ := hr
  refine ⟨fun w' => by simp [Builtin.lenOf], ?_⟩
  obtain ⟨arr, ty, hb, hrl⟩ := hH id _ _ hg hφ
  have h5 := zcO (k := n) (zdg (k := off) hrl)
  rcases h3 with rfl | rfl
  ·refine ⟨_, h5, cells h5 (fun j u hj => ?_)⟩
   rw [zeD hb]
   rw [List.getElem?_take] at hj
   split at hj
   ·rw [List.getElem?_drop] at hj
    simpa using hj
   ·cases hj
  ·refine ⟨[], by simp [RepL], fun w' _ => ?_⟩
   cases a with
   | none => exact run_firstCells_none w' sz 0 0 _
   | some a => exact run_firstCells_some (P := P) w' sz 0 a 0 _ [] (by simp) (by simp)
 ·simp only [Option.map_eq_some_iff] at h
  obtain ⟨⟨n, qs⟩, h1, h2⟩ := h
  simp only [Prod.mk.injEq] at h2
  obtain ⟨rfl, rfl⟩ := h2
  exact zct hH h1 hr (by simpa using hl)
theorem zkb {e : TypeId} {sz N need old : Nat} {z : Value} {cs : List AV} {vs : List Value} (hz : z.cells.size = sz) (hl : RepL c w cs vs) (hcs : cs.length = need * sz) (hneed : need ≤ zaW) (hN : N = grownCap w need old e) :
  ∃ arr : Array Value, arr = vs.toArray ++ Builtin.zeroCells z.cells (N - need) ∧ arr.size = N * sz ∧ need ≤ N ∧ N ≤ maxLen ∧ arr.toList.take cs.length = vs ∧ cs.length ≤ arr.size := by
 have h1 : need ≤ N := by rw [hN]; exact grownCap_ge w need old e
 have h2 : N ≤ maxLen := by rw [hN]; exact grownCap_le_maxLen w need old e (by unfold zaW at hneed; unfold maxLen; omega)
 have hlen := zW hl
 have hsize : (vs.toArray ++ Builtin.zeroCells z.cells (N - need)).size = N * sz := by
  rw [Array.size_append, size_zeroCells, hz, List.size_toArray, ← hlen, hcs, ← Nat.add_mul]; congr 1; omega
 refine ⟨_, rfl, hsize, h1, h2, ?_, ?_⟩
 ·rw [Array.toList_append, hlen]; simp
 ·rw [hsize, hcs]; exact Nat.mul_le_mul_right _ h1
end
section
variable {P : Program} {c : Ctx} {w : World} {H : Heap} {nx : Nat} {o : Oper} {ρ : Operand → Value} {ev : Operand → Option AV}
theorem zjk {e : TypeId} {sz n cap : Nat} {cs : List AV} {arr : Array Value} {vs : List Value} {w1 : World} {u : Value} (hnx : c.φ nx = none) (hI : ∀ b, c.I b → b < w.heap.size)
  (hrun : (execOp ρ o).run P w = .ok (.value u) w1) (hu : u = .slice (some ⟨w.heap.size, 0, none⟩) n cap)
  (hw : w1.heap = w.heap.push (.cells arr e)) (hos : w1.os = w.os) (htp : w1.tape = w.tape) (hou : w1.output = w.output)
  (harr : arr.size = cap * sz) (hcap : cap ≤ maxLen) (hn : n ≤ cap) (hl : RepL c w cs vs) (hvs : arr.toList.take cs.length = vs) (hle : cs.length ≤ arr.size) (hz0 : sz ≠ 0 := by omega) :
  zaC P c w nx o ρ (.ref nx sz 0 n) (some (.arow e sz cs)) := by
 obtain ⟨c', hg, hgo, hh, hφ⟩ := Grew.alloc hnx cap arr e (.arow e sz cs) w1 hw hos htp hou hI
  (fun c' hgo hI' => ARep.obj (loc := .blk _ _) hz0 ⟨arr, by rw [hw]; simp, harr, hcap, hle, by rw [hvs]; exact RepL.mono (zht hI hI' hw) hgo _ _ hl⟩)
 exact ⟨u, w1, c', hrun, hg, .inr ⟨_, cap, _, hφ, by rw [hu]; rfl, by omega, hcap, .inl (by simp)⟩⟩
theorem zhj {t e : TypeId} {len sz : Nat} {parts : Array (Nat × Operand)} {ps : List (Nat × AV)} {zs : List PV} {cs : List AV} (hnx : c.φ nx = none) (hI : ∀ b, c.I b → b < w.heap.size)
  (ho : o.op = .buildSlice t len parts) (hm : zb9 c w o.op ev ρ) (he : za1 P t = some e) (hp : zbY ev parts.toList = some ps) (hsz : tsz P e = some sz) (hz : zbZ P e = some zs)
  (hf : zeZ (fun i => some (i * sz, sz)) ((zaK zs len).map .pv) ps = some cs) (h0 : 0 < sz) (hzl : zs.length = sz) (hl : len * sz ≤ 16777216) :
  zaC P c w nx o ρ (.ref nx sz 0 len) (some (.arow e sz cs)) := by
 obtain ⟨out, hrun, hsize, h2⟩ := zex (c := c) ho hm he hp hsz hz hf h0 hzl hl
 have hlen := zW h2
 refine zjk (u := .slice (some ⟨w.heap.size, 0, none⟩) len len) (w1 := { w with heap := w.heap.push (.cells out e) }) hnx hI hrun rfl rfl rfl rfl rfl hsize ?_ (Nat.le_refl _) h2 ?_ ?_
 ·have : len ≤ len * sz := Nat.le_mul_of_pos_right _ h0
  unfold maxLen; omega
 ·simp only [Array.length_toList] at hlen
  rw [hlen, ← Array.length_toList, List.take_length]
 ·simp only [Array.length_toList] at hlen
  omega
theorem zk1 {t u : TypeId} {x y : Operand} {n m sz by' : Nat} {cs zs : List PV} {nw : List AV} {a : AV} {e : TypeId} (hnx : c.φ nx = none) (hI : ∀ b, c.I b → b < w.heap.size) (hH : zcX c w H)
  (ho : o.op = .call { callee := .builtin .append, args := #[x, y], argTypes := #[t, u] }) (hm : zb9 c w o.op ev ρ) (hx : ev x = some (.pv (.slc n true cs))) (hy : ev y = some a)
  (he : za1 P t = some e) (hcn : zid H a = some (m, nw)) (hsz : tsz P e = some sz) (hb : zcy P e = some by') (hz : zbZ P e = some zs) (hu : tsub P u e = true)
  (h0 : 0 < sz) (hzl : zs.length = sz) (hcl : cs.length = n * sz) (hnl : nw.length = m * sz) (hor : n = 0 ∨ 0 < m) (hmx : n + m ≤ zaW) (hby : by' ≤ 1024) :
  zaC P c w nx o ρ (.ref nx sz 0 (n + m)) (some (.arow e sz (cs.map .pv ++ nw))) := by
 have hrx := hm x (by simp [ho, Op.operands, Call.operands]) _ hx
 have hry := hm y (by simp [ho, Op.operands, Call.operands]) _ hy
 obtain ⟨i, z, hi, hzi, hzz, hcz⟩ := zeG hz
 obtain ⟨i', hi', hs'⟩ := ze2 hsz
 rw [hi] at hi'; cases hi'
 have hbi := zei hi hb
 obtain ⟨hlen, news, hnr, hnew⟩ := zgE (P := P) (sz := sz) hH hcn hry hnl
 have hexec : execOp ρ o = (do pure (.value (← Builtin.append_ #[t, u] o.type #[ρ x, ρ y])) : Sem Next) := by simp [execOp, ho, resolve, invoke, builtin]
 simp only [Rep, RepP] at hrx
 obtain ⟨ad, cap, hv, _, hcm, hfull, h4⟩ := hrx
 have hcapn : cap = n := hfull trivial
 rw [hcapn] at hv hcm
 obtain ⟨hu1, hu2⟩ := zeP hu
 by_cases hm0 : m = 0
 ·subst hm0
  have hn0 : n = 0 := by omega
  subst hn0
  have e1 : cs = [] := List.eq_nil_of_length_eq_zero (by omega)
  have e2 : nw = [] := List.eq_nil_of_length_eq_zero (by omega)
  subst e1; subst e2
  have e3 : news = [] := by have := zW hnr; exact List.eq_nil_of_length_eq_zero this.symm
  subst e3
  let c' : Ctx := { φ := fun id => if id = nx then some .virt else c.φ id, I := c.I }
  refine ⟨.slice ad 0 0, w, c', ?_, ⟨Nat.le_refl _, rfl, rfl, rfl, fun _ _ => rfl, rfl, fun id h => if_neg h, (fun h => by cases h), fun o' h => ?_⟩, ?_⟩
  ·have e4 := hnew w rfl
   rw [← hs'] at e4
   have := zcz (P := P) (w := w) (ty := o.type) (a := ad) (n := 0) (cap := 0) (z7 he) hu1 hu2 hi (hlen w) e4 (by omega)
   rw [hexec, Sem.run_bind, hv, this]
   cases ad <;> simp [storeCells]
  ·cases h; exact ⟨.virt, if_pos rfl, rfl, by simp⟩
  ·simp only [Rep]; exact .inl ⟨if_pos rfl, trivial, by simp, ad, rfl⟩
 ·have hmpos : 0 < m := by omega
  obtain ⟨olds, hor', hold⟩ : ∃ olds : List Value, RepL c w (cs.map .pv) olds ∧ ∀ w' : World, w'.heap = w.heap → (Builtin.firstCells sz n (.slice ad n n)).run P w' = .ok olds.toArray w' := by
   have := zct (P := P) (H := H) (x := .pv (.slc n true cs)) (vx := .slice ad n n) (m := n) (sz := sz) (ps := cs) hH rfl (by simp only [Rep, RepP]; exact ⟨ad, n, rfl, Nat.le_refl _, hcm, fun _ => rfl, h4⟩) hcl
   exact this.2
  have hr := zfe (P := P) (w := w) (ty := o.type) (z7 he) hu1 hu2 hi hzi hlen (by rw [hs']; exact hnew) (by rw [hs']; exact hold) (a := ad) (cap := n) (by omega) (by omega) hmx
  have hrl := zaF hor' hnr
  obtain ⟨arr, harr, h5, h6, h7, h8, h9⟩ := zkb (e := e) (old := n) (z := z) (N := grownCap w (n + m) n e) (by omega : z.cells.size = sz) hrl (by rw [List.length_append, List.length_map, hcl, hnl, Nat.add_mul]) hmx rfl
  refine zjk (u := .slice (some ⟨w.heap.size, 0, none⟩) (n + m) (grownCap w (n + m) n e)) (w1 := w.drew.alloc (.cells arr e)) hnx hI ?_ rfl rfl rfl rfl rfl h5 h7 h6 hrl h8 h9
  rw [hexec, Sem.run_bind, hv, hr, harr]
  simp
end
def zqj (P : Program) (t : TypeId) (cs : List AV) (off : Nat) : Option (Bool × AV) :=
 match tagg P t, tsz P t with
 | some true, some s => some (Nat.ble (off + s) cs.length, .agg ((cs.drop off).take s))
 | some false, some _ => match cs[off]? with
  | some v => some (true, v)
  | none => none
 | _, _ => none
theorem zt3 {P : Program} {t : TypeId} {cs : List AV} {off : Nat} {b : Bool} {v : AV} (h : zqj P t cs off = some (b, v)) (hb : b = true) : ∃ cond, zdn P t cs off = some (cond, v) ∧ cond := by
 unfold zqj at h
 unfold zdn
 split at h
 ·rename_i s h1 h2
  simp only [Option.some.injEq, Prod.mk.injEq] at h
  obtain ⟨rfl, rfl⟩ := h
  rw [h1, h2]
  exact ⟨_, rfl, Nat.le_of_ble_eq_true hb⟩
 ·rename_i s h1 h2
  split at h
  case h_2 => cases h
  rename_i u hu
  simp only [Option.some.injEq, Prod.mk.injEq] at h
  obtain ⟨rfl, rfl⟩ := h
  rw [h1, h2]
  simp only [hu]
  exact ⟨_, rfl, trivial⟩
 ·cases h
def zjl (P : Program) (t u e : TypeId) (sz sz' m : Nat) (new : List AV) : Bool := match za1 P t, tsz P e, zcy P e, zbZ P e with
 | some e', some sz2, some by', some zs => Nat.beq e' e && Nat.beq sz' sz && Nat.beq sz2 sz && tsub P u e && Nat.ble 1 sz && Nat.beq zs.length sz && Nat.beq new.length (m * sz) && new.all one && Nat.ble by' 1024
 | _, _, _, _ => false
def zl6 (P : Program) (t : TypeId) : Option TypeId := match P.underlying t with | some (.chan _ e) => some e | _ => none
theorem ziH {P : Program} {t e : TypeId} (h : zl6 P t = some e) : ∃ d, P.underlying t = some (.chan d e) := by
 unfold zl6 at h
 split at h
 ·rename_i d e' hu; cases h; exact ⟨d, hu⟩
 ·cases h
theorem zjG {P : Program} {c : Ctx} {w : World} {nx : Nat} {o : Oper} {ρ : Operand → Value} {ev : Operand → Option AV} {t e : TypeId} {x : Operand} {k : IntKind} {n : Int} {by' : Nat} (hnx : c.φ nx = none) (hI : ∀ b, c.I b → b < w.heap.size) (ho : o.op = .makeChan t x) (hm : zb9 c w o.op ev ρ) (hx : ev x = some (.pv (.int k n))) (ht : zl6 P t = some e) (hby : zcy P e = some by') (h0 : 0 ≤ n) (h1 : n ≤ 65536) (h2 : by' ≤ 1024) : zaC P c w nx o ρ (.mapr nx) (some (.arow n.toNat 0 [])) := by
 have hr := hm x (by simp [ho, Op.operands]) _ hx
 simp only [Rep, RepP] at hr
 obtain ⟨d, hu⟩ := ziH ht
 obtain ⟨i, hi, hbi⟩ : ∃ i, P.info? e = some i ∧ i.bytes = by' := by
  unfold zcy at hby
  simp only [Option.map_eq_some_iff] at hby
  exact hby
 obtain ⟨c', hg, hgo, hh, hφ⟩ := Grew.allocO hnx 0 (.chan n.toNat #[] false 0 0 false) (.arow n.toNat 0 []) { w with heap := w.heap.push (.chan n.toNat #[] false 0 0 false) } rfl rfl rfl rfl hI (fun c' _ _ => ⟨#[], .inr ⟨rfl, 0, 0, by simp⟩, fun h => absurd rfl h, ⟨fun _ => rfl, Nat.zero_le _⟩, ⟨by simp, fun _ => rfl⟩, by simp [RepL]⟩)
 have hb : (by' : Int) * n ≤ 1024 * 65536 := Int.mul_le_mul (by omega) h1 h0 (by omega)
 have hc : ¬ (n < 0 ∨ 9223372036854775807 < n ∨ 281474976710544 < (i.bytes : Int) * n) := by
  rw [hbi]; omega
 refine ⟨_, _, c', ?_, hg, _, _, hφ, (zlK _).symm⟩
 simp only [execOp, ho, Instr.makeChan, hr, Sem.run_bind, run_underlying hu, Result.andThen_ok, typeInfo]
 have hmx : IntKind.i64.max = 9223372036854775807 := rfl
 simp [asInt, asIntOf, hi, newObj, hmx]
 rw [if_neg hc]; rfl
def zlW (P : Program) (ev : Operand → Option AV) (H : Heap) (nx : Nat) (op : Op) : Option (Bool × AV × VObj) :=
 match op with
 | .buildSlice t len parts => match za1 P t, zbY ev parts.toList with
  | some e, some ps => match tsz P e, zbZ P e with
   | some sz, some zs => match zeZ (fun i => some (i * sz, sz)) ((zaK zs len).map .pv) ps with
    | some cs => some (Nat.ble 1 sz && Nat.beq zs.length sz && Nat.ble (len * sz) 16777216, .ref nx sz 0 len, .arow e sz cs)
    | none => none
   | _, _ => none
  | _, _ => none
 | .call c => match c.callee, evs ev c.args.toList, c.argTypes.toList with
  | .builtin .append, some [.pv (.slc n true cs), x], [t, u] => match za1 P t, zid H x with
   | some e, some (m, new) => match tsz P e with
    | some sz => some (zjl P t u e sz sz m new && Nat.beq cs.length (n * sz) && (Nat.beq n 0 || Nat.ble 1 m) && Nat.ble (n + m) zaW, .ref nx sz 0 (n + m), .arow e sz (cs.map .pv ++ new))
    | none => none
   | _, _ => none
  | _, _, _ => none
 | .makeChan t x => match ev x, zl6 P t with
  | some (.pv (.int _ n)), some e => match zcy P e with
   | some by' => some (decide (0 ≤ n) && decide (n ≤ 65536) && Nat.ble by' 1024, .mapr nx, .arow n.toNat 0 [])
   | none => none
  | _, _ => none
 | _ => none
theorem zme {P : Program} {c : Ctx} {w : World} {H : Heap} {nx : Nat} {o : Oper} {ρ : Operand → Value} {ev : Operand → Option AV} {b : Bool} {v : AV} {ob : VObj} (hnx : c.φ nx = none) (hI : ∀ b, c.I b → b < w.heap.size) (hH : zcX c w H) (hm : zb9 c w o.op ev ρ)
  (h : zlW P ev H nx o.op = some (b, v, ob)) (hb : b = true) : zaC P c w nx o ρ v (some ob) := by
 unfold zlW at h
 split at h
 ·rename_i t len parts hop
  split at h
  case h_2 => cases h
  rename_i e ps he hp
  split at h
  case h_2 => cases h
  rename_i sz zs hsz hz
  split at h
  case h_2 => cases h
  rename_i cs hf
  simp only [Option.some.injEq, Prod.mk.injEq] at h
  obtain ⟨rfl, rfl, rfl⟩ := h
  simp only [Bool.and_eq_true] at hb
  exact zhj hnx hI hop hm he hp hsz hz hf (Nat.le_of_ble_eq_true hb.1.1) (Nat.eq_of_beq_eq_true hb.1.2) (Nat.le_of_ble_eq_true hb.2)
 ·rename_i cl hop
  obtain ⟨cal, args, ts⟩ := cl
  split at h
  case h_2 => cases h
  rename_i n cs x t u hcal hvs hts
  simp only at hcal hvs hts
  split at h
  case h_2 => cases h
  rename_i e m new he hcn
  split at h
  case h_2 => cases h
  rename_i sz hsz
  simp only [Option.some.injEq, Prod.mk.injEq] at h
  obtain ⟨rfl, rfl, rfl⟩ := h
  simp only [Bool.and_eq_true, Bool.or_eq_true] at hb
  obtain ⟨⟨⟨h1, h2⟩, h3⟩, h4⟩ := hb
  unfold zjl at h1
  rw [he, hsz] at h1
  split at h1
  case h_2 => cases h1
  rename_i e' sz2 by' zs q1 q2 hby hz
  cases q1; cases q2
  simp only [Bool.and_eq_true] at h1
  obtain ⟨⟨⟨⟨⟨⟨⟨⟨_, _⟩, _⟩, g1⟩, g2⟩, g3⟩, g4⟩, g5⟩, g6⟩ := h1
  subst hcal
  obtain ⟨xs, rfl⟩ : ∃ xs : List Operand, args = xs.toArray := ⟨args.toList, by simp⟩
  obtain ⟨tl, rfl⟩ : ∃ tl : List TypeId, ts = tl.toArray := ⟨ts.toList, by simp⟩
  simp only at hts hvs
  subst hts
  match xs, hvs with
  | [], hvs => simp [evs] at hvs
  | [_], hvs => have := zb4 hvs; simp at this
  | _ :: _ :: _ :: _, hvs => have := zb4 hvs; simp at this
  | [y1, y2], hvs =>
   simp only [evs] at hvs
   cases hy1 : ev y1 with
   | none => simp [hy1] at hvs
   | some a1 =>
    cases hy2 : ev y2 with
    | none => simp [hy1, hy2] at hvs
    | some a2 =>
     simp [hy1, hy2] at hvs
     obtain ⟨rfl, rfl⟩ := hvs
     exact zk1 hnx hI hH hop hm hy1 hy2 he hcn hsz hby hz g1 (Nat.le_of_ble_eq_true g2) (Nat.eq_of_beq_eq_true g3) (Nat.eq_of_beq_eq_true h2) (Nat.eq_of_beq_eq_true g4)
      (h3.imp Nat.eq_of_beq_eq_true Nat.le_of_ble_eq_true) (Nat.le_of_ble_eq_true h4) (Nat.le_of_ble_eq_true g6)
 ·rename_i t x hop
  split at h
  case h_2 => cases h
  rename_i kk n e hx ht
  split at h
  case h_2 => cases h
  rename_i by' hby
  simp only [Option.some.injEq, Prod.mk.injEq] at h
  obtain ⟨rfl, rfl, rfl⟩ := h
  simp only [Bool.and_eq_true, decide_eq_true_eq] at hb
  exact zjG hnx hI hop hm hx ht hby hb.1.1 hb.1.2 (Nat.le_of_ble_eq_true hb.2)
 ·cases h
def zhW (cs : List AV) (i : Nat) (new : List AV) : List AV := cs.take i ++ (new ++ cs.drop (i + new.length))
def zrs (v : Value) : AV := match ziI v with
 | some p => .pv p
 | none => .undef
def zp2 (P : Program) (t : TypeId) : Option (List AV) := ((P.info? t).bind (·.zero)).map fun z => z.cells.toList.map zrs
def znI (P : Program) (t : TypeId) (ps : List (Nat × AV)) : Option AV :=
 match zp2 P t, P.underlying t with
 | some zs, some (.struct fs) => (zeZ (places P fs) zs ps).map .agg
 | _, _ => none
theorem zjZ {c : Ctx} {w : World} : ∀ l : List Value, RepL c w (l.map zrs) l
 | [] => trivial
 | v :: l => by
  simp only [List.map_cons, RepL]
  refine ⟨?_, zjZ l⟩
  unfold zrs
  split
  ·rename_i p hp; exact zgo hp
  ·simp [Rep]
theorem zpb {P : Program} {t : TypeId} {zs : List AV} (h : zp2 P t = some zs) (c : Ctx) (w : World) :
  ∃ z, (zeroValue t).run P w = .ok z w ∧ RepL c w zs z.cells.toList := by
 unfold zp2 at h
 cases hi : P.info? t with
 | none => simp [hi] at h
 | some i =>
  simp only [hi, Option.bind_some] at h
  cases hz : i.zero with
  | none => simp [hz] at h
  | some z =>
   simp only [hz, Option.map_some, Option.some.injEq] at h
   subst h
   exact ⟨z, by simp [zeroValue, typeInfo, hi, hz], zjZ _⟩
def zek (P : Program) (ev : Operand → Option AV) (H : Heap) (op : Op) : Option (Bool × Option AV × Heap × Option Nat) :=
 match op with
 | .load t a => match ev a with
  | some (.ptr id off) => match hrow H id with
   | some (_, _, cs) => (zqj P t cs off).map fun r => (r.1, some r.2, H, none)
   | none => none
  | _ => none
 | .store t a x => match ev a, ev x, tsz P t with
  | some (.ptr id off), some v, some s => match hrow H id with
   | some (e, sz, cs) => some (told v && (zam v).all one && Nat.beq (zam v).length s && Nat.ble (off + s) cs.length, none, hset H id (.arow e sz (zat cs off (zam v))), none)
   | none => none
  | _, _, _ => none
 | .slice t x lo hi none => match ev x, optI ev lo, optI ev hi, za1 P t with
  | some (.ref id sz off n), some l, some h, some e => match hrow H id with
   | some (_, sz', cs) => some (Nat.beq sz' sz && (tsz P e == some sz) && Nat.ble 1 sz && decide (0 ≤ l.getD 0) && decide (l.getD 0 ≤ h.getD n) && Nat.ble ((off + (h.getD n).toNat) * sz) cs.length, some (.ref id sz (off + (l.getD 0).toNat) ((h.getD n).toNat - (l.getD 0).toNat)), H, none)
   | none => none
  | _, _, _, _ => none
 | .call c => match c.callee, evs ev c.args.toList, c.argTypes.toList with
  | .builtin .append, some [.ref id sz off n, x], [t, u] => match hrow H id, zid H x with
   | some (e, sz', cs), some (m, new) =>
    if (Nat.beq off 0 && Nat.beq cs.length (n * sz)) = true then some (zjl P t u e sz sz' m new && Nat.ble (n + m) zaW, some (.ref id sz 0 (n + m)), hset H id (.arow e sz (cs ++ new)), some id)
    else some (zjl P t u e sz sz' m new && Nat.ble ((off + (n + m)) * sz) cs.length, some (.ref id sz off (n + m)), hset H id (.arow e sz (zat cs ((off + n) * sz) new)), none)
   | _, _ => none
  | .builtin .clear, some [.ref id sz off n], [t] => match hrow H id, za1 P t with
   | some (e, sz', cs), some e' => match zbZ P e' with
    | some zs => some (Nat.beq sz' sz && (tsz P e' == some sz) && Nat.ble 1 sz && Nat.beq zs.length sz && Nat.ble ((off + n) * sz) cs.length, some (.tup []), hset H id (.arow e sz (zat cs (off * sz) ((zaK zs n).map .pv))), none)
    | none => none
   | _, _ => none
  | .builtin .copy, some [.ref id sz off n, .ref id2 sz2 off2 m], [t, _] => match hrow H id, hrow H id2, za1 P t with
   | some (e, sz', cs), some (_, sz2', cs2), some e' => some ((tsz P e' == some sz) && Nat.beq sz' sz && Nat.beq sz2 sz && Nat.beq sz2' sz && Nat.ble 1 sz && Nat.ble 1 (min n m) && Nat.ble (off * sz) cs.length && Nat.ble ((off2 + min n m) * sz) cs2.length && ((cs2.drop (off2 * sz)).take (min n m * sz)).all one,
     some (.pv (.int .i64 ((min n m : Nat) : Int))), hset H id (.arow e sz (zhW cs (off * sz) ((cs2.drop (off2 * sz)).take (min n m * sz)))), none)
   | _, _, _ => none
  | .builtin .len, some [.mapr id], [t] => match hget H id with
   | some (.arow _ 0 cs) => some ((zl6 P t).isSome, some (.pv (.int .i64 (cs.length : Int))), H, none)
   | _ => none
  | _, _, _ => none
 | .build t parts => match zbY ev parts.toList with
  | some ps => match znI P t ps with
   | some v => some (zlM P t, some v, H, none)
   | none => none
  | none => none
 | _ => none
section
variable {P : Program} {B : Base} {S : St} {c c' : Ctx} {w w' : World} {a : Act} {H : Heap} {mv : List Nat}
theorem zeW (k : List Nat) : ∀ l : List AV, (zcB k l).length = l.length
 | [] => rfl
 | x :: l => by simp [zcB, zeW k l]
theorem zkT {id e sz b cap off : Nat} {cs ps : List AV} {us : List Value} (h : HRel B H mv c w) (hob : hrow H id = some (e, sz, cs)) (hφ : c.φ id = some (.blk b cap)) (h1 : ps.all one = true) (hr : RepL c w ps us) (hle : off + ps.length ≤ cs.length) :
  ∃ w', (storeCells ⟨b, off, none⟩ us).run P w = .ok () w' ∧ HRel B (hset H id (.arow e sz (zat cs off ps))) mv c w' ∧ zaT c c w w' := by
 obtain ⟨arr, hb, h2, h3, h4, hl⟩ := zcL h.heap hob hφ
 obtain ⟨ob, hg⟩ := zij hob
 have hones : ∀ v ∈ us, v.oneCell' = true := zeS h1 hr
 have hul : us.length = ps.length := (zW hr).symm
 obtain ⟨w', hrun, hwsz, hos, htp, hou, hoth, hb'⟩ := zfs (P := P) hb hones (by omega : off + us.length ≤ arr.size)
 have hho : zaT c c w w' := fun k hk => ⟨hk, hoth k (fun e' => (h.own id _ b cap hg hφ).2.1 (e' ▸ hk))⟩
 refine ⟨w', hrun, (h.write (o' := .arow e sz (zat cs off ps)) hg hφ hwsz hos htp hou hoth (ARep.obj (loc := .blk _ _) (zhu hob) ⟨_, hb', by simp [zbb, h2], h3, by simp [zbb, zeg, h4], ?_⟩)).1, hho⟩
 rw [zeg]
 have h5 := zeI (i := off) hl hr
 have h6 : zfo (arr.toList.take cs.length) off us = (zfo arr.toList off us).take cs.length := by
  rw [zdX _ _ _ (by simp; omega), zdX _ _ _ (by simp; omega)]
  rw [List.take_append, List.take_append]
  simp only [List.take_take, List.length_take, List.length_append, Array.length_toList]
  have e1 : min off cs.length = off := by omega
  have e2 : min off arr.size = off := by omega
  rw [e1, e2, Nat.min_comm cs.length off, e1]
  rw [List.take_of_length_le (i := cs.length - off) (by omega)]
  rw [List.drop_take]
 rw [h6] at h5
 exact RepL.mono hho (fun _ _ h => h) _ _ (by simpa using h5)
theorem zoS {id e sz b cap off : Nat} {cs ps : List AV} {us : List Value} {arr : Array Value} (h : HRel B H mv c w) (hob : hrow H id = some (e, sz, cs)) (hφ : c.φ id = some (.blk b cap)) (hb : w.heap[b]? = some (.cells arr e (0, 0))) (h1 : ps.all one = true) (hr : RepL c w ps us) (hle : off ≤ cs.length) (hfit : off + ps.length ≤ arr.size) :
  ∃ w', (storeCells ⟨b, off, none⟩ us).run P w = .ok () w' ∧ HRel B (hset H id (.arow e sz (zhW cs off ps))) mv c w' ∧ zaT c c w w' := by
 obtain ⟨arr', hb', h2, h3, h4, hl⟩ := zcL h.heap hob hφ
 obtain ⟨ob, hg⟩ := zij hob
 rw [hb] at hb'; cases hb'
 have hones : ∀ v ∈ us, v.oneCell' = true := zeS h1 hr
 have hul : us.length = ps.length := (zW hr).symm
 obtain ⟨w', hrun, hwsz, hos, htp, hou, hoth, hb2⟩ := zfs (P := P) hb hones (by omega : off + us.length ≤ arr.size)
 have hho : zaT c c w w' := fun k hk => ⟨hk, hoth k (fun e' => (h.own id _ b cap hg hφ).2.1 (e' ▸ hk))⟩
 have hlen : (zhW cs off ps).length = max cs.length (off + ps.length) := by
  unfold zhW; simp only [List.length_append, List.length_take, List.length_drop]; omega
 refine ⟨w', hrun, (h.write (o' := .arow e sz (zhW cs off ps)) hg hφ hwsz hos htp hou hoth (ARep.obj (loc := .blk _ _) (zhu hob) ⟨_, hb2, by simp [zbb, h2], h3, by rw [hlen]; simp [zbb]; omega, ?_⟩)).1, hho⟩
 rw [hlen]
 have hsz : off + us.length ≤ arr.toList.length := by simp; omega
 rw [zdX _ _ _ hsz]
 have e1 : (arr.toList.take off ++ us ++ arr.toList.drop (off + us.length)).toArray.toList.take (max cs.length (off + ps.length)) = (arr.toList.take cs.length).take off ++ (us ++ (arr.toList.take cs.length).drop (off + us.length)) := by
  rw [List.take_take, Nat.min_eq_left hle, List.drop_take, List.append_assoc]
  show List.take _ (List.take off arr.toList ++ (us ++ List.drop (off + us.length) arr.toList)) = _
  have ha : (List.take off arr.toList).length = off := by rw [List.length_take]; simp; omega
  rw [List.take_append, ha, List.take_of_length_le (by omega), List.take_append]
  congr 2
  ·exact List.take_of_length_le (by omega)
  ·congr 1; omega
 rw [e1]
 unfold zhW
 rw [← hul]
 refine RepL.mono hho (fun _ _ h => h) _ _ (zaF (zcO hl) (zaF hr (zdg hl)))
theorem zj8 {id : Nat} {e : TypeId} {sz : Nat} {cs : List AV} (h : HRel B H mv c w) (hob : hrow H id = some (e, sz, cs)) (hdef : c.φ id ≠ none) : HRel B (hset H id (.arow e sz cs)) mv c w := by
 obtain ⟨ob, hg⟩ := zij hob
 have hget' : ∀ k x, hget (hset H id (.arow e sz cs)) k = some x → (k = id ∧ x = .arow e sz cs) ∨ (k ≠ id ∧ hget H k = some x) := by
  intro k x hx
  rw [zbB] at hx
  split at hx
  ·rename_i e; subst e; rw [hg] at hx; simp at hx; exact .inl ⟨rfl, hx.symm⟩
  ·rename_i e; exact .inr ⟨e, hx⟩
 have hex : ∀ k x, hget (hset H id (.arow e sz cs)) k = some x → ∃ y, hget H k = some y := fun k x hx => by
  rcases hget' k x hx with ⟨rfl, _⟩ | ⟨_, h1⟩
  ·exact ⟨ob, hg⟩
  ·exact ⟨x, h1⟩
 refine ⟨fun k x loc h1 h2 => ?_, fun k x b' cap' h1 h2 => ?_, fun k k' x x' b1 c1 c2 hne h1 h2 h3 h4 => ?_, h.imm, h.size, h.os, h.tape, h.output, h.blk, h.I, h.φ, h.und⟩
 ·rcases hget' k x h1 with ⟨rfl, rfl⟩ | ⟨_, h1⟩
  ·exact (zcL h.heap hob h2).obj (zhu hob)
  ·exact h.heap k x loc h1 h2
 ·obtain ⟨y, hy⟩ := hex k x h1
  exact h.own k y b' cap' hy h2
 ·obtain ⟨y, hy⟩ := hex k x h1
  obtain ⟨y', hy'⟩ := hex k' x' h2
  exact h.apart k k' y y' b1 c1 c2 hne hy hy' h3 h4
end
end Go.Proofs.YtppnccjeggnllaaGreatVm

import Derived.Test.YtppnccjeggnllaaGreatVmE
namespace Go.Proofs.YtppnccjeggnllaaGreatVm
open Go Go.RowKit
set_option linter.all false
section
variable {P : Program} {c : Ctx} {w : World} {nx : Nat} {o : Oper} {ρ : Operand → Value} {ev : Operand → Option AV} {H : Heap} {cond : Prop} {v : AV} {new : Option VObj}
theorem zhl : ∀ {as : List AV} {ps : List PV}, pvs as = some ps → as = ps.map .pv
 | [], ps, h => by simp only [pvs] at h; obtain rfl := inj1 h; rfl
 | .pv p :: as, ps, h => by
  simp only [pvs, Option.map_eq_some_iff] at h
  obtain ⟨qs, h1, rfl⟩ := h
  simp [zhl h1]
 | .undef :: _, _, h => by simp [pvs] at h
 | .pptr _ _ :: _, _, h => by simp [pvs] at h
 | .ptr _ _ :: _, _, h => by simp [pvs] at h
 | .ref _ _ _ _ :: _, _, h => by simp [pvs] at h
 | .view _ _ _ :: _, _, h => by simp [pvs] at h
 | .agg _ :: _, _, h => by simp [pvs] at h
 | .tup _ :: _, _, h => by simp [pvs] at h
 | .fnc _ _ :: _, _, h => by simp [pvs] at h
 | .bnd _ _ _ :: _, _, h => by simp [pvs] at h
 | .mapr _ :: _, _, h => by simp [pvs] at h
theorem zht {c' : Ctx} {arr : Array Value} {t : TypeId} {w1 : World} (hI : ∀ b, c.I b → b < w.heap.size) (hI' : c'.I = c.I) (hw : w1.heap = w.heap.push (.cells arr t)) : zaT c c' w w1 :=
 fun b hb => ⟨hI' ▸ hb, by rw [hw, Array.getElem?_push, if_neg (Nat.ne_of_lt (hI b hb))]⟩
theorem zhr {e : TypeId} {sz n cap : Nat} {cs : List PV} {arr : Array Value} {vs : List Value} {w1 : World} {u : Value} (hnx : c.φ nx = none) (hI : ∀ b, c.I b → b < w.heap.size)
  (hrun : (execOp ρ o).run P w = .ok (.value u) w1) (hu : u = .slice (some ⟨w.heap.size, 0, none⟩) n cap)
  (hw : w1.heap = w.heap.push (.cells arr e)) (hos : w1.os = w.os) (htp : w1.tape = w.tape) (hou : w1.output = w.output)
  (harr : arr.size = cap * sz) (hcap : cap ≤ maxLen) (hn : n ≤ cap) (hl : RepL c w (cs.map .pv) vs) (hvs : arr.toList.take cs.length = vs) (hle : cs.length ≤ arr.size) :
  zaC P c w nx o ρ (.ref nx sz 0 n) (some (.row e sz cs)) := by
 obtain ⟨c', hg, hgo, hh, hφ⟩ := Grew.alloc hnx cap arr e (.row e sz cs) w1 hw hos htp hou hI
  (fun c' hgo hI' => ⟨arr, by rw [hw]; simp, harr, hcap, hle, by rw [hvs]; exact RepL.mono (zht hI hI' hw) hgo _ _ hl⟩)
 exact ⟨u, w1, c', hrun, hg, .inr ⟨_, cap, _, hφ, by rw [hu]; rfl, by omega, hcap, .inl (by simp)⟩⟩
theorem zex {t e : TypeId} {len sz : Nat} {parts : Array (Nat × Operand)} {ps : List (Nat × AV)} {zs : List PV} {cs : List AV}
  (ho : o.op = .buildSlice t len parts) (hm : zb9 c w o.op ev ρ) (he : za1 P t = some e) (hp : zbY ev parts.toList = some ps) (hsz : tsz P e = some sz) (hz : zbZ P e = some zs)
  (hf : zeZ (fun i => some (i * sz, sz)) ((zaK zs len).map .pv) ps = some cs) (h0 : 0 < sz) (hzl : zs.length = sz) (hl : len * sz ≤ 16777216) :
  ∃ out, (execOp ρ o).run P w = .ok (.value (.slice (some ⟨w.heap.size, 0, none⟩) len len)) { w with heap := w.heap.push (.cells out e) } ∧ out.size = len * sz ∧ RepL c w cs out.toList := by
 obtain ⟨hi, hr⟩ := zfg (ρ := ρ) (xs := parts.toList) (fun x hx v hv => hm x (by simp [ho, Op.operands]; simpa using hx) v hv) hp
 obtain ⟨z, hz1, hz2⟩ := zgJ hz c w
 have hzs : z.cells.size = sz := by have := zW hz2; simp at this; omega
 have hstart := zhh hz2 len
 rw [hzs] at hstart
 obtain ⟨out, h1, h2⟩ := zgB (fun i => some (i * sz, sz)) ps (parts.toList.map fun (i, x) => (i, ρ x)) _ ((Array.range (len * sz)).map fun x => z.cells[x % sz]!) cs (by simpa using hstart) hi hr hf
 have hlen := zW h2
 have hsize : out.size = len * sz := by
  have hfl : ∀ (ps : List (Nat × AV)) (as bs : List AV), zeZ (fun i => some (i * sz, sz)) as ps = some bs → bs.length = as.length := by
   intro ps
   induction ps with
   | nil => intro as bs h; simp only [zeZ] at h; obtain rfl := inj1 h; rfl
   | cons p ps ih =>
    intro as bs h
    simp only [zeZ] at h
    split at h
    ·have hsc : ∀ (vs as : List AV) (i : Nat), (zat as i vs).length = as.length := by
      intro vs; induction vs with
      | nil => intro as i; rfl
      | cons v vs ih => intro as i; simp [zat, ih]
     rw [ih _ _ h, hsc]
    ·simp at h
  have e1 := hfl _ _ _ hf
  have hrz : ∀ n, (zaK zs n).length = n * zs.length := by
   intro n; induction n with
   | zero => simp [zaK]
   | succ n ih => simp [zaK, ih, Nat.add_mul]; omega
  simp only [List.length_map, hrz, hzl, Array.length_toList] at e1 hlen
  omega
 refine ⟨out, ?_, hsize, h2⟩
 ·by_cases hl0 : len = 0
  ·subst hl0
   simp only [Nat.zero_mul] at h1
   have hexec : execOp ρ o = (do pure (.value (← Instr.buildSlice t 0 (parts.map fun (i, x) => (i, ρ x)))) : Sem Next) := by simp [execOp, ho]
   rw [hexec, Sem.run_bind]
   have e2 : (Array.range 0).map (fun x => (#[] : Array Value)[x % (#[] : Array Value).size]!) = (Array.range 0).map (fun x => z.cells[x % sz]!) := by simp
   simp only [Instr.buildSlice, Sem.run_bind, run_underlying (z7 he), Result.andThen_ok, zaY hsz, Nat.zero_mul, Nat.not_lt_zero, if_false, if_true, Sem.run_pure, Array.toList_map, gt_iff_lt]
   rw [e2, h1]
   rfl
  ·have hne : ¬ len * sz = 0 := by
    have : 0 < len * sz := Nat.mul_pos (by omega) h0
    omega
   have hexec : execOp ρ o = (do pure (.value (← Instr.buildSlice t len (parts.map fun (i, x) => (i, ρ x)))) : Sem Next) := by simp [execOp, ho]
   rw [hexec, Sem.run_bind]
   simp only [Instr.buildSlice, Sem.run_bind, run_underlying (z7 he), Result.andThen_ok, zaY hsz, if_neg hne, hz1, Sem.run_pure, Array.toList_map, hzs]
   rw [if_neg (by omega)]
   simp only [Sem.run_bind, hz1, Result.andThen_ok, Sem.run_pure, hzs]
   rw [h1]
   rfl
theorem zic {t e : TypeId} {len sz : Nat} {parts : Array (Nat × Operand)} {ps : List (Nat × AV)} {zs : List PV} {cs : List AV} {qs : List PV} (hnx : c.φ nx = none) (hI : ∀ b, c.I b → b < w.heap.size)
  (ho : o.op = .buildSlice t len parts) (hm : zb9 c w o.op ev ρ) (he : za1 P t = some e) (hp : zbY ev parts.toList = some ps) (hsz : tsz P e = some sz) (hz : zbZ P e = some zs)
  (hf : zeZ (fun i => some (i * sz, sz)) ((zaK zs len).map .pv) ps = some cs) (hq : pvs cs = some qs) (h0 : 0 < sz) (hzl : zs.length = sz) (hl : len * sz ≤ 16777216) :
  zaC P c w nx o ρ (.ref nx sz 0 len) (some (.row e sz qs)) := by
 obtain ⟨out, hrun, hsize, h2⟩ := zex (c := c) ho hm he hp hsz hz hf h0 hzl hl
 obtain rfl := zhl hq
 have hlen := zW h2
 refine zhr (u := .slice (some ⟨w.heap.size, 0, none⟩) len len) (w1 := { w with heap := w.heap.push (.cells out e) }) hnx hI hrun rfl rfl rfl rfl rfl hsize ?_ (Nat.le_refl _) h2 ?_ ?_
 ·have : len ≤ len * sz := Nat.le_mul_of_pos_right _ h0
  unfold maxLen; omega
 ·simp only [List.length_map, Array.length_toList] at hlen
  rw [hlen, ← Array.length_toList, List.take_length]
 ·simp only [List.length_map, Array.length_toList] at hlen
  omega
theorem zhG {t e : TypeId} {len sz : Nat} {parts : Array (Nat × Operand)} {ps : List (Nat × AV)} {zs : List PV} {cs : List AV} (hnx : c.φ nx = none) (hI : ∀ b, c.I b → b < w.heap.size)
  (ho : o.op = .buildSlice t len parts) (hm : zb9 c w o.op ev ρ) (he : za1 P t = some e) (hp : zbY ev parts.toList = some ps) (hsz : tsz P e = some sz) (hz : zbZ P e = some zs)
  (hf : zeZ (fun i => some (i * sz, sz)) ((zaK zs len).map .pv) ps = some cs) (h0 : 0 < sz) (hzl : zs.length = sz) (hl : len * sz ≤ 16777216) :
  zaC P c w nx o ρ (.view nx 0 len) (some (.box cs)) := by
 obtain ⟨out, hrun, hsize, h2⟩ := zex (c := c) ho hm he hp hsz hz hf h0 hzl hl
 obtain ⟨c', hg, hgo, hh, hφ⟩ := Grew.alloc hnx 0 out e (.box cs) { w with heap := w.heap.push (.cells out e) } rfl rfl rfl rfl hI
  (fun c' hgo hI' => ⟨out, e, by simp, RepL.mono (zht hI hI' rfl) hgo _ _ h2⟩)
 have hll : len ≤ len * sz := Nat.le_mul_of_pos_right _ h0
 exact ⟨_, _, c', hrun, hg, ⟨w.heap.size, 0, len, _, hφ, rfl, Nat.le_refl _, by unfold maxLen; omega, .inl rfl⟩⟩
theorem zhE {t e : TypeId} {sz : Nat} {parts : Array (Nat × Operand)} {zs : List PV}
  (ho : o.op = .buildSlice t 0 parts) (hp : parts.isEmpty = true) (he : za1 P t = some e) (hsz : tsz P e = some sz) :
  zaC P c w nx o ρ (.pv (.slc 0 true [])) none := by
 have hp' : parts = #[] := by simpa using hp
 subst hp'
 refine ⟨.slice (some ⟨w.heap.size, 0, none⟩) 0 0, { w with heap := w.heap.push (.cells #[] e) }, c, ?_, ⟨by simp, rfl, rfl, rfl, fun b hb => ?_, rfl, fun _ _ => rfl, fun _ => rfl, fun o h => by cases h⟩, ?_⟩
 ·have hexec : execOp ρ o = (do pure (.value (← Instr.buildSlice t 0 ((#[] : Array (Nat × Operand)).map fun (i, x) => (i, ρ x)))) : Sem Next) := by simp [execOp, ho]
  rw [hexec, Sem.run_bind]
  simp only [Instr.buildSlice, Sem.run_bind, run_underlying (z7 he), Result.andThen_ok, zaY hsz, Nat.zero_mul, Nat.not_lt_zero, if_false, if_true, Sem.run_pure, gt_iff_lt]
  have h1 : Instr.fill (fun i => some (i * sz, sz)) (Array.map (fun x => (#[] : Array Value)[x % (#[] : Array Value).size]!) (Array.range 0)) (Array.map (fun x : Nat × Operand => (x.fst, ρ x.snd)) #[]).toList = some #[] := by simp [Instr.fill]
  rw [h1]
  rfl
 ·show (w.heap.push _)[b]? = _
  rw [Array.getElem?_push, if_neg (by omega)]
 ·simp only [Rep, RepP]
  exact ⟨_, 0, rfl, Nat.le_refl _, Nat.zero_le _, fun _ => rfl, (by first | exact .inl ⟨rfl, rfl⟩ | simp)⟩
theorem zei {e : TypeId} {i : TypeInfo} {b : Nat} (h : P.info? e = some i) (hb : zcy P e = some b) : i.bytes = b := by
 unfold zcy at hb; simp [h] at hb; exact hb
theorem zey {zs : List PV} : ∀ n, (zaK zs n).length = n * zs.length := by
 intro n; induction n with
 | zero => simp [zaK]
 | succ n ih => simp [zaK, ih, Nat.add_mul]; omega
theorem zjs {t e : TypeId} {x y : Operand} {n m : Int} {sz by' : Nat} {zs : List PV} (hnx : c.φ nx = none) (hI : ∀ b, c.I b → b < w.heap.size)
  (ho : o.op = .makeSlice t x y) (hm : zb9 c w o.op ev ρ) (he : za1 P t = some e) (hx : intA (ev x) = some n) (hy : intA (ev y) = some m) (hsz : tsz P e = some sz) (hb : zcy P e = some by') (hz : zbZ P e = some zs)
  (h1 : n = m) (h2 : 0 ≤ n) (h3 : n ≤ 4611686018427387904) (h4 : (by' : Int) * n ≤ 281474976710656) (h0 : 0 < sz) (hzl : zs.length = sz) :
  zaC P c w nx o ρ (.ref nx sz 0 n.toNat) (some (.row e sz (zaK zs n.toNat))) := by
 subst h1
 obtain ⟨k1, e1⟩ := zgX hm (x := x) (by simp [ho, Op.operands]) hx
 obtain ⟨k2, e2⟩ := zgX hm (x := y) (by simp [ho, Op.operands]) hy
 obtain ⟨i, z, hi, hzi, hzz, hcz⟩ := zeG hz
 obtain ⟨i', hi', hs'⟩ := ze2 hsz
 rw [hi] at hi'; cases hi'
 have hbi := zei hi hb
 have hzr := zhh (c := c) (w := w) (zdO hcz) n.toNat
 have hmul : i.bytes * n ≤ 281474976710656 := by rw [hbi]; exact h4
 have hr := run_make (P := P) w t e i z (z7 he) hi hzi k1 k2 n n h2 (Int.le_refl _) hmul (by omega)
 refine zhr (u := .slice (some ⟨w.heap.size, 0, none⟩) n.toNat n.toNat) (w1 := w.alloc (.cells (madeCells z.cells (n.toNat * i.size)) e)) hnx hI ?_ rfl rfl rfl rfl rfl ?_ ?_ (Nat.le_refl _) hzr ?_ ?_
 ·simp only [execOp, ho, Sem.run_bind, e1, e2, hr, Result.andThen_ok, Sem.run_pure]
 ·rw [size_madeCells, hs']
 ·unfold maxLen; omega
 ·rw [zey, hzl, ← hs']
  have hzsz : z.cells.size = i.size := by omega
  rw [List.take_of_length_le (by simp [size_madeCells])]
  simp [madeCells, hzsz]
 ·rw [zey, size_madeCells, hzl, hs']; exact Nat.le_refl _
theorem zct {x : AV} {vx : Value} {m sz : Nat} {ps : List PV} (hH : zcX c w H) (h : zaU H x = some (m, ps)) (hr : Rep c w x vx) (hl : ps.length = m * sz) :
  (∀ w' : World, (Builtin.lenOf vx).run P w' = .ok m w') ∧ ∃ news : List Value, RepL c w (ps.map .pv) news ∧ ∀ w' : World, w'.heap = w.heap → (Builtin.firstCells sz m vx).run P w' = .ok news.toArray w' := by
 have cells : ∀ {b off : Nat} {news : List Value} {len cap : Nat}, RepL c w (ps.map .pv) news → (∀ j u, news[j]? = some u → w.cell? ⟨b, off + j, none⟩ = some u) →
   ∀ w' : World, w'.heap = w.heap → (Builtin.firstCells sz m (.slice (some ⟨b, off, none⟩) len cap)).run P w' = .ok news.toArray w' := by
  intro b off news len cap hn hc w' hw
  refine run_firstCells_some (P := P) w' sz m ⟨b, off, none⟩ len cap news ?_ (fun j u hj => ?_)
  ·have := zW hn; simp at this; omega
  ·rw [za9]
   have := hc j u hj
   simpa [World.cell?, hw] using this
 unfold zaU at h
 split at h
 ·rename_i n full cs
  obtain ⟨rfl, rfl⟩ := inj2 h
  simp only [Rep, RepP] at hr
  obtain ⟨a, cap, rfl, _, _, _, h4⟩ := hr
  refine ⟨fun w' => by simp [Builtin.lenOf], ?_⟩
  rcases h4 with ⟨rfl, rfl⟩ | ⟨b, off, rfl, _, hcs⟩
  ·refine ⟨[], by simp [RepL], fun w' _ => ?_⟩
   cases a with
   | none => exact run_firstCells_none w' sz 0 0 cap
   | some a => exact run_firstCells_some (P := P) w' sz 0 a 0 cap [] (by simp) (by simp)
  ·obtain ⟨news, h5, h6⟩ := zdV hcs
   exact ⟨news, h5, cells h5 h6⟩
 ·rename_i n cs
  obtain ⟨rfl, rfl⟩ := inj2 h
  simp only [Rep, RepP] at hr
  obtain ⟨a, cap, rfl, _, _, h4⟩ := hr
  refine ⟨fun w' => by simp [Builtin.lenOf], ?_⟩
  rcases h4 with ⟨rfl, rfl⟩ | ⟨b, off, rfl, _, hcs⟩
  ·exact ⟨[], by simp [RepL], fun w' _ => run_firstCells_some (P := P) w' sz 0 a 0 cap [] (by simp) (by simp)⟩
  ·obtain ⟨news, h5, h6⟩ := zdV hcs
   exact ⟨news, h5, cells h5 h6⟩
 ·rename_i s
  obtain ⟨rfl, rfl⟩ := inj2 h
  simp only [Rep, RepP] at hr
  subst hr
  refine ⟨fun w' => by simp [Builtin.lenOf, ByteArray.size], s.map fun b => .int .u8 b.toNat, ?_, fun w' _ => ?_⟩
  ·have : ∀ s : List UInt8, RepL c w ((s.map fun b => PV.int .u8 b.toNat).map .pv) (s.map fun b => Value.int .u8 b.toNat) := by
    intro s; induction s with
    | nil => simp [RepL]
    | cons b s ih => simp only [List.map_cons, RepL, Rep, RepP]; exact ⟨trivial, ih⟩
   exact this s
  ·simp only [Builtin.firstCells, Sem.run_pure]
   congr 1
   have : (⟨s.toArray⟩ : ByteArray).extract 0 s.length = ⟨s.toArray⟩ := by
    apply ByteArray.ext
    simp [ByteArray.data_extract]
   rw [this]; simp
 ·rename_i id sz' off n
  split at h
  case h_2 => simp at h
  rename_i e sz2 cs hg
  split at h
  case isFalse => simp at h
  rename_i hs
  subst hs
  obtain ⟨rfl, rfl⟩ := inj2 h
  simp only [Rep] at hr
  rcases hr with ⟨hφ, rfl, rfl, a, rfl⟩ | ⟨b, cap, a, hφ, rfl, h1, h2, h3⟩
  ·refine ⟨fun w' => by simp [Builtin.lenOf], [], by simp [RepL], fun w' _ => ?_⟩
   cases a with
   | none => exact run_firstCells_none w' sz 0 0 0
   | some a => exact run_firstCells_some (P := P) w' sz 0 a 0 0 [] (by simp) (by simp)
  ·refine ⟨fun w' => by simp [Builtin.lenOf], ?_⟩
   obtain ⟨arr, hb, hsz, hcm, hle, hrl⟩ := hH id _ _ hg hφ
   have h5 := zcO (k := n * sz2) (zdg (k := off * sz2) hrl)
   rw [← List.map_drop, ← List.map_take] at h5
   rcases h3 with rfl | h3
   ·refine ⟨_, h5, cells h5 (fun j u hj => ?_)⟩
    rw [zeD hb]
    rw [List.getElem?_take] at hj
    split at hj
    ·rw [List.getElem?_drop, List.getElem?_take] at hj
     split at hj
     ·simpa using hj
     ·cases hj
    ·cases hj
   ·have : n = 0 := by omega
    subst this
    refine ⟨[], by simp [RepL], fun w' _ => ?_⟩
    cases a with
    | none => exact run_firstCells_none w' sz 0 0 _
    | some a => exact run_firstCells_some (P := P) w' sz 0 a 0 _ [] (by simp) (by simp)
 ·rename_i id off n
  split at h
  case h_2 => simp at h
  rename_i cs hg
  simp only [Option.map_eq_some_iff] at h
  obtain ⟨qs, hq, h⟩ := h
  cases h
  simp only [Rep] at hr
  obtain ⟨b, cap, cp, a, hφ, rfl, h1, h2, h3⟩ := hr
  refine ⟨fun w' => by simp [Builtin.lenOf], ?_⟩
  obtain ⟨arr, ty, hb, hrl⟩ := hH id _ _ hg hφ
  have h5 := zcO (k := m) (zdg (k := off) hrl)
  rw [zhl hq] at h5
  rcases h3 with rfl | rfl
  ·refine ⟨_, h5, cells h5 (fun j u hj => ?_)⟩
   rw [zeD hb]
   rw [List.getElem?_take] at hj
   split at hj
   ·rw [List.getElem?_drop] at hj
    simpa using hj
   ·cases hj
  ·have : ps = [] := List.eq_nil_of_length_eq_zero (by omega)
   subst this
   refine ⟨[], by simp [RepL], fun w' _ => ?_⟩
   cases a with
   | none => exact run_firstCells_none w' sz 0 0 _
   | some a => exact run_firstCells_some (P := P) w' sz 0 a 0 _ [] (by simp) (by simp)
 ·simp at h
theorem zfe {t u ty e : TypeId} {i : TypeInfo} {z : Value} {a : Option Addr} {n cap m : Nat} {x : Value} {olds news : List Value}
  (ht : P.underlying t = some (.slice e)) (hu : ∀ k, P.underlying u ≠ some (.int k)) (hu' : ∃ d, P.underlying u = some d) (hi : P.info? e = some i) (hz : i.zero = some z)
  (hlen : ∀ w' : World, (Builtin.lenOf x).run P w' = .ok m w') (hnew : ∀ w' : World, w'.heap = w.heap → (Builtin.firstCells i.size m x).run P w' = .ok news.toArray w')
  (hold : ∀ w' : World, w'.heap = w.heap → (Builtin.firstCells i.size n (.slice a n cap)).run P w' = .ok olds.toArray w') (hg : cap < n + m) (hb : i.bytes ≤ 1024) (hn : n + m ≤ zaW) :
  (Builtin.append_ #[t, u] ty #[.slice a n cap, x]).run P w =
   .ok (.slice (some ⟨w.heap.size, 0, none⟩) (n + m) (grownCap w (n + m) cap e))
    (w.drew.alloc (.cells (olds.toArray ++ news.toArray ++ Builtin.zeroCells z.cells (grownCap w (n + m) cap e - (n + m))) e)) := by
 obtain ⟨d, hd⟩ := hu'
 have hzeros : (d matches .int _) = false := by cases d <;> simp_all
 have h1 : ¬ (n + m ≤ cap) := by omega
 have h63 : ¬ (9223372036854775807 < ((n : Int) + (m : Int))) := by unfold zaW at hn; omega
 have hfit : Builtin.nextslicecap (n + m) cap * i.bytes ≤ 281474976710656 := by
  refine growslice_fits hg ?_
  have : (n + m) * i.bytes ≤ 16777216 * 1024 := Nat.mul_le_mul (by unfold zaW at hn; omega) hb
  omega
 have h48 : ¬ (281474976710656 < Builtin.nextslicecap (n + m) cap * i.bytes) := by omega
 have e1 := hnew w.drew rfl
 have e2 := hold w.drew rfl
 simp only [Builtin.append_]
 simp [run_underlying ht, run_underlying hd, sizeOf, typeInfo, zeroValue, hi, hz, hlen, h1, h63, h48, Question.forced, e1, e2, newRow, grownCap]
 cases d <;> simp_all [hlen, e1, e2]
 all_goals (congr 2; apply Array.ext'; simp [List.append_assoc])
theorem zcz {t u ty e : TypeId} {i : TypeInfo} {a : Option Addr} {n cap m : Nat} {x : Value} {news : List Value}
  (ht : P.underlying t = some (.slice e)) (hu : ∀ k, P.underlying u ≠ some (.int k)) (hu' : ∃ d, P.underlying u = some d) (hi : P.info? e = some i)
  (hlen : (Builtin.lenOf x).run P w = .ok m w) (hnew : (Builtin.firstCells i.size m x).run P w = .ok news.toArray w) (hg : n + m ≤ cap) :
  (Builtin.append_ #[t, u] ty #[.slice a n cap, x]).run P w =
   ((match a with | some ad => storeCells (ad.add (n * i.size)) news | none => pure () : Sem Unit).run P w).andThen fun _ w' => .ok (.slice a (n + m) cap) w' := by
 obtain ⟨d, hd⟩ := hu'
 simp only [Builtin.append_]
 simp only [List.getElem?_toArray, List.getElem?_cons_zero, List.getElem?_cons_succ, Sem.run_bind, run_underlying ht, run_underlying hd, Result.andThen_ok, Sem.run_pure, sizeOf, typeInfo, run_program, hi]
 cases d
 case int k => exact absurd hd (hu k)
 all_goals
  simp only [Bool.false_eq_true, if_false, hlen, Result.andThen_ok, if_pos hg, Sem.run_bind, Sem.run_ite, hnew, Bool.not_false, if_true, Sem.run_pure]
  cases a
  ·rfl
  ·simp only [Sem.run_bind, Sem.run_pure]
theorem zeP {u e : TypeId} (h : tsub P u e = true) : (∀ k, P.underlying u ≠ some (.int k)) ∧ ∃ d, P.underlying u = some d := by
 unfold tsub at h
 simp only [Bool.or_eq_true, beq_iff_eq] at h
 rcases h with h | h
 ·have := zds h; exact ⟨by simp [this], _, this⟩
 ·have := z7 h; exact ⟨by simp [this], _, this⟩
theorem zl1 {e : TypeId} {sz N need old : Nat} {z : Value} {cs : List PV} {vs : List Value} (hz : z.cells.size = sz) (hl : RepL c w (cs.map .pv) vs) (hcs : cs.length = need * sz) (hneed : need ≤ zaW) (hN : N = grownCap w need old e) :
  ∃ arr : Array Value, arr = vs.toArray ++ Builtin.zeroCells z.cells (N - need) ∧ arr.size = N * sz ∧ need ≤ N ∧ N ≤ maxLen ∧ arr.toList.take cs.length = vs ∧ cs.length ≤ arr.size := by
 have h1 : need ≤ N := by rw [hN]; exact grownCap_ge w need old e
 have h2 : N ≤ maxLen := by rw [hN]; exact grownCap_le_maxLen w need old e (by unfold zaW at hneed; unfold maxLen; omega)
 have hlen := zW hl
 simp only [List.length_map] at hlen
 have hsize : (vs.toArray ++ Builtin.zeroCells z.cells (N - need)).size = N * sz := by
  rw [Array.size_append, size_zeroCells, hz, List.size_toArray, ← hlen, hcs, ← Nat.add_mul]; congr 1; omega
 refine ⟨_, rfl, hsize, h1, h2, ?_, ?_⟩
 ·rw [Array.toList_append, hlen]; simp
 ·rw [hsize, hcs]; exact Nat.mul_le_mul_right _ h1
theorem zk2 {t u : TypeId} {x y : Operand} {n m sz by' : Nat} {cs nw zs : List PV} {a : AV} {e : TypeId} (hnx : c.φ nx = none) (hI : ∀ b, c.I b → b < w.heap.size) (hH : zcX c w H)
  (ho : o.op = .call { callee := .builtin .append, args := #[x, y], argTypes := #[t, u] }) (hm : zb9 c w o.op ev ρ) (hx : ev x = some (.pv (.slc n true cs))) (hy : ev y = some a)
  (he : za1 P t = some e) (hcn : zaU H a = some (m, nw)) (hsz : tsz P e = some sz) (hb : zcy P e = some by') (hz : zbZ P e = some zs) (hu : tsub P u e = true)
  (h0 : 0 < sz) (hzl : zs.length = sz) (hcl : cs.length = n * sz) (hnl : nw.length = m * sz) (hor : n = 0 ∨ 0 < m) (hmx : n + m ≤ zaW) (hby : by' ≤ 1024) :
  zaC P c w nx o ρ (.ref nx sz 0 (n + m)) (some (.row e sz (cs ++ nw))) := by
 have hrx := hm x (by simp [ho, Op.operands, Call.operands]) _ hx
 have hry := hm y (by simp [ho, Op.operands, Call.operands]) _ hy
 obtain ⟨i, z, hi, hzi, hzz, hcz⟩ := zeG hz
 obtain ⟨i', hi', hs'⟩ := ze2 hsz
 rw [hi] at hi'; cases hi'
 have hbi := zei hi hb
 obtain ⟨hlen, news, hnr, hnew⟩ := zct (P := P) (sz := sz) hH hcn hry hnl
 have hexec : execOp ρ o = (do pure (.value (← Builtin.append_ #[t, u] o.type #[ρ x, ρ y])) : Sem Next) := by simp [execOp, ho, resolve, invoke, builtin]
 simp only [Rep, RepP] at hrx
 obtain ⟨ad, cap, hv, _, hcm, hfull, h4⟩ := hrx
 obtain ⟨n', hn'⟩ : ∃ n', n' = n := ⟨_, rfl⟩
 have hcapn : cap = n := hfull trivial
 rw [hcapn] at hv hcm
 obtain ⟨hu1, hu2⟩ := zeP hu
 by_cases hm0 : m = 0
 ·subst hm0
  have hn0 : n = 0 := by omega
  subst hn0
  have e1 : cs = [] := List.eq_nil_of_length_eq_zero (by omega)
  have e2 : nw = [] := List.eq_nil_of_length_eq_zero (by omega)
  subst e1; subst e2
  have e3 : news = [] := by have := zW hnr; simp at this; exact List.eq_nil_of_length_eq_zero this.symm
  subst e3
  let c' : Ctx := { φ := fun id => if id = nx then some .virt else c.φ id, I := c.I }
  refine ⟨.slice ad 0 0, w, c', ?_, ⟨Nat.le_refl _, rfl, rfl, rfl, fun _ _ => rfl, rfl, fun id h => if_neg h, (fun h => by cases h), fun o' h => ?_⟩, ?_⟩
  ·have e4 := hnew w rfl
   rw [← hs'] at e4
   have := zcz (P := P) (w := w) (ty := o.type) (a := ad) (n := 0) (cap := 0) (z7 he) hu1 hu2 hi (hlen w) e4 (by omega)
   rw [hexec, Sem.run_bind, hv, this]
   cases ad <;> simp [storeCells]
  ·cases h; exact ⟨.virt, if_pos rfl, rfl, by simp⟩
  ·simp only [Rep]; exact .inl ⟨if_pos rfl, trivial, by simp, ad, rfl⟩
 ·have hmpos : 0 < m := by omega
  obtain ⟨olds, hor', hold⟩ : ∃ olds : List Value, RepL c w (cs.map .pv) olds ∧ ∀ w' : World, w'.heap = w.heap → (Builtin.firstCells sz n (.slice ad n n)).run P w' = .ok olds.toArray w' := by
   have := zct (P := P) (H := H) (x := .pv (.slc n true cs)) (vx := .slice ad n n) (m := n) (sz := sz) (ps := cs) hH rfl (by simp only [Rep, RepP]; exact ⟨ad, n, rfl, Nat.le_refl _, hcm, fun _ => rfl, h4⟩) hcl
   exact this.2
  have hr := zfe (P := P) (w := w) (ty := o.type) (z7 he) hu1 hu2 hi hzi hlen (by rw [hs']; exact hnew) (by rw [hs']; exact hold) (a := ad) (cap := n) (by omega) (by omega) hmx
  have hrl := zaF hor' hnr
  rw [← List.map_append] at hrl
  obtain ⟨arr, harr, h5, h6, h7, h8, h9⟩ := zl1 (e := e) (old := n) (z := z) (N := grownCap w (n + m) n e) (by omega : z.cells.size = sz) hrl (by rw [List.length_append, hcl, hnl, Nat.add_mul]) hmx rfl
  refine zhr (u := .slice (some ⟨w.heap.size, 0, none⟩) (n + m) (grownCap w (n + m) n e)) (w1 := w.drew.alloc (.cells arr e)) hnx hI ?_ rfl rfl rfl rfl rfl h5 h7 h6 hrl h8 h9
  rw [hexec, Sem.run_bind, hv, hr, harr]
  simp
theorem zi2 : ∀ {cs : List PV} {bs : List UInt8} {vs : List Value}, zba cs = some bs → RepL c w (cs.map .pv) vs → ∃ ns : List Int, vs = ns.map (fun n => .int .u8 n) ∧ bs = ns.map fun n => UInt8.ofNat n.toNat
 | [], bs, [], h, _ => by simp only [zba] at h; obtain rfl := inj1 h; exact ⟨[], rfl, rfl⟩
 | .int .u8 n :: cs, bs, v :: vs, h, hr => by
  simp only [zba, Option.map_eq_some_iff] at h
  obtain ⟨bs', h1, rfl⟩ := h
  simp only [List.map_cons, RepL, Rep, RepP] at hr
  obtain ⟨ns, e1, e2⟩ := zi2 h1 hr.2
  exact ⟨n :: ns, by simp [hr.1, e1], by simp [e2]⟩
 | [], _, _ :: _, _, hr => by simp [RepL] at hr
 | .int .u8 _ :: _, _, [], _, hr => by simp [RepL] at hr
 | .int .i8 _ :: _, _, _, h, _ => by simp [zba] at h
 | .int .i16 _ :: _, _, _, h, _ => by simp [zba] at h
 | .int .i32 _ :: _, _, _, h, _ => by simp [zba] at h
 | .int .i64 _ :: _, _, _, h, _ => by simp [zba] at h
 | .int .u16 _ :: _, _, _, h, _ => by simp [zba] at h
 | .int .u32 _ :: _, _, _, h, _ => by simp [zba] at h
 | .int .u64 _ :: _, _, _, h, _ => by simp [zba] at h
 | .bool _ :: _, _, _, h, _ => by simp [zba] at h
 | .str _ :: _, _, _, h, _ => by simp [zba] at h
 | .slc _ _ _ :: _, _, _, h, _ => by simp [zba] at h
 | .nils :: _, _, _, h, _ => by simp [zba] at h
 | .nnl _ _ :: _, _, _, h, _ => by simp [zba] at h
 | .nilp :: _, _, _, h, _ => by simp [zba] at h
 | .nilf :: _, _, _, h, _ => by simp [zba] at h
 | .fn _ :: _, _, _, h, _ => by simp [zba] at h
theorem zmL {s : TypeId} (h : zlo P s = true) : ∃ e, P.underlying s = some (.slice e) ∧ P.underlying e = some (.int .u8) := by
 unfold zlo at h
 split at h
 ·rename_i e he
  exact ⟨e, z7 he, zj6 (by simpa using h)⟩
 ·simp at h
theorem zf3 {s d : TypeId} {x : Operand} {a : AV} {m : Nat} {cs : List PV} {bs : List UInt8} (hH : zcX c w H) (ho : o.op = .convert s d x) (hm : zb9 c w o.op ev ρ) (hx : ev x = some a)
  (hd : tstr P d = true) (hs : zlo P s = true) (hc : zaU H a = some (m, cs)) (hb : zba cs = some bs) (hl : cs.length = m) (hsl : ∀ st, a ≠ .pv (.str st)) : zaC P c w nx o ρ (.pv (.str bs)) none := by
 have hr := hm x (by simp [ho, Op.operands]) _ hx
 obtain ⟨hlen, news, hnr, hnew⟩ := zct (P := P) (sz := 1) hH hc hr (by omega)
 obtain ⟨ns, rfl, rfl⟩ := zi2 hb hnr
 obtain ⟨e, hu, hue⟩ := zmL hs
 have hud := zds hd
 have hnl : ns.length = m := by have := zW hnr; simp at this; omega
 obtain ⟨ad, cap, hv⟩ : ∃ ad cap, ρ x = .slice ad m cap := by
  unfold zaU at hc
  split at hc
  ·obtain ⟨rfl, _⟩ := inj2 hc; simp only [Rep, RepP] at hr; obtain ⟨a, cap, h, _⟩ := hr; exact ⟨_, _, h⟩
  ·obtain ⟨rfl, _⟩ := inj2 hc; simp only [Rep, RepP] at hr; obtain ⟨a, cap, h, _⟩ := hr; exact ⟨_, _, h⟩
  ·rename_i st; exact absurd rfl (hsl st)
  ·split at hc
   case h_2 => simp at hc
   split at hc
   case isFalse => simp at hc
   obtain ⟨rfl, _⟩ := inj2 hc; simp only [Rep] at hr
   rcases hr with ⟨_, _, rfl, a, h⟩ | ⟨b, cap, a, _, h, _⟩
   ·exact ⟨_, _, h⟩
   ·exact ⟨_, _, h⟩
  ·split at hc
   case h_2 => simp at hc
   simp only [Option.map_eq_some_iff] at hc
   obtain ⟨qs, _, hc⟩ := hc
   cases hc
   simp only [Rep] at hr
   obtain ⟨b, cap, cp, a, _, h, _⟩ := hr; exact ⟨_, _, h⟩
  ·simp at hc
 have hrun : (Conv.bytesToString (ρ x)).run P w = .ok (.string ⟨(ns.map fun n => UInt8.ofNat n.toNat).toArray⟩) w := by
  have hf := hnew w rfl
  rw [hv] at hf ⊢
  cases ad with
  | none =>
   simp only [Builtin.firstCells, Sem.run_pure, Result.ok.injEq, and_true] at hf
   have : ns = [] := by
    have h1 := congrArg Array.size hf
    simp at h1
    exact List.eq_nil_of_length_eq_zero h1.symm
   subst this
   rfl
  | some ad =>
   simp only [Builtin.firstCells, Nat.mul_one] at hf
   have hfold : ∀ (ns : List Int) (acc : ByteArray), ns.foldl (fun r n => r.push (UInt8.ofNat n.toNat)) acc = ⟨acc.data ++ (ns.map fun n => UInt8.ofNat n.toNat).toArray⟩ := by
    intro ns
    induction ns with
    | nil => intro acc; simp
    | cons n ns ih =>
     intro acc
     rw [List.foldl_cons, ih]
     congr 1
     simp [ByteArray.push]
   have := run_bytesToString w ad m cap ns hf
   rw [hfold] at this
   rw [this]
   congr 3
   exact Array.empty_append
 exact zP (v' := .string _) (by
  have hexec : execOp ρ o = (do pure (.value (← convert s d (ρ x))) : Sem Next) := by simp [execOp, ho]
  rw [hexec, Sem.run_bind]
  have : (convert s d (ρ x)).run P w = .ok (.string ⟨(ns.map fun n => UInt8.ofNat n.toNat).toArray⟩) w := by
   rw [hv] at hrun ⊢
   simp only [convert, Sem.run_bind, run_underlying hu, run_underlying hud, Result.andThen_ok, run_underlying hue, hrun]
  rw [this]; rfl) rfl
theorem zoQ {s d : TypeId} {x : Operand} {a : AV} (ho : o.op = .convert s d x) (hm : zb9 c w o.op ev ρ) (hx : ev x = some a) (h : conv P s d a = some (cond, v)) (hs : ∃ q, P.underlying s = some q) : zaC P c w nx o ρ v none := by
 have hr := hm x (by simp [ho, Op.operands]) _ hx
 have hexec : execOp ρ o = (do pure (.value (← convert s d (ρ x))) : Sem Next) := by simp [execOp, ho]
 have fin : ∀ {u : Value}, (convert s d (ρ x)).run P w = .ok u w → Rep c w v u → zaC P c w nx o ρ v none := fun h1 h2 => zP (by rw [hexec, Sem.run_bind, h1]; rfl) h2
 obtain ⟨q, hq⟩ := hs
 unfold conv at h
 split at h
 ·split at h
  case h_2 => simp at h
  rename_i k' n _ k hk
  obtain ⟨_, rfl⟩ := z9 h
  simp only [Rep, RepP] at hr
  refine fin (u := .int k (k.wrap n)) ?_ rfl
  rw [hr]
  simp only [convert, Sem.run_bind, run_underlying hq, run_underlying (zj6 hk), Result.andThen_ok]
  rfl
 ·split at h
  case isFalse => simp at h
  rename_i st hst
  simp only [Bool.and_eq_true] at hst
  obtain ⟨_, rfl⟩ := z9 h
  simp only [Rep, RepP] at hr
  refine fin (u := .string ⟨st.toArray⟩) ?_ rfl
  rw [hr]
  simp only [convert, Sem.run_bind, run_underlying (zds hst.1), run_underlying (zds hst.2), Result.andThen_ok]
  rfl
 ·simp at h
theorem zqX {t : TypeId} {ts : List TypeId} {x : Operand} {a : AV} {n : Int} (ho : o.op = .call { callee := .builtin .len, args := #[x], argTypes := (t :: ts).toArray }) (hm : zb9 c w o.op ev ρ) (hx : ev x = some a) (h : lenA P t a = some n) :
  zaC P c w nx o ρ (.pv (.int .i64 n)) none := by
 have hr := hm x (by simp [ho, Op.operands, Call.operands]) _ hx
 have hexec : execOp ρ o = (do pure (.value (← Builtin.len_ (t :: ts).toArray o.type #[ρ x])) : Sem Next) := by simp [execOp, ho, resolve, invoke, builtin]
 have fin : (Builtin.len_ (t :: ts).toArray o.type #[ρ x]).run P w = .ok (.int .i64 n) w → zaC P c w nx o ρ (.pv (.int .i64 n)) none := fun h1 => zP (v' := .int .i64 n) (by rw [hexec, Sem.run_bind, h1]; rfl) rfl
 apply fin
 unfold lenA at h
 split at h
 ·split at h
  case isFalse => simp at h
  rename_i st ht
  obtain rfl := inj1 h
  simp only [Rep, RepP] at hr
  have hsz : (⟨st.toArray⟩ : ByteArray).size = st.length := by show st.toArray.size = _; simp
  simp [Builtin.len_, run_underlying (zds ht), hr, goInt, hsz]
 ·split at h
  case isFalse => simp at h
  rename_i ht
  obtain rfl := inj1 h
  obtain ⟨e, hu⟩ := zeO ht
  simp only [Rep, RepP] at hr
  obtain ⟨ad, cap, hv, _⟩ := hr
  simp [Builtin.len_, run_underlying hu, hv, goInt]
 ·split at h
  case isFalse => simp at h
  rename_i ht
  obtain rfl := inj1 h
  obtain ⟨e, hu⟩ := zeO ht
  simp only [Rep] at hr
  rcases hr with ⟨_, _, rfl, ad, hv⟩ | ⟨b, cap, ad, _, hv, _⟩
  ·simp [Builtin.len_, run_underlying hu, hv, goInt]
  ·simp [Builtin.len_, run_underlying hu, hv, goInt]
 ·split at h
  case isFalse => simp at h
  rename_i ht
  obtain rfl := inj1 h
  obtain ⟨e, hu⟩ := zeO ht
  simp only [Rep] at hr
  obtain ⟨b, cap, cp, ad, _, hv, _⟩ := hr
  simp [Builtin.len_, run_underlying hu, hv, goInt]
 ·simp only [Option.map_eq_some_iff] at h
  obtain ⟨⟨m, e⟩, h1, rfl⟩ := h
  simp only [Rep] at hr
  obtain ⟨vs, hv, _⟩ := hr
  simp [Builtin.len_, run_underlying (zeT h1), hv, goInt]
 ·simp at h
theorem zu0 {a b r : AV} {x y : Value} (h : mm (fun a b => decide (a < b)) a b = some r) (ha : Rep c w a x) (hb : Rep c w b y) : ∃ u, (Builtin.min2 x y).run P w = .ok u w ∧ Rep c w r u := by
 unfold mm at h
 split at h
 case h_2 => simp at h
 split at h
 case isFalse => simp at h
 rename_i k m k' n hk
 subst hk
 obtain rfl := inj1 h
 simp only [Rep, RepP] at ha hb
 subst ha; subst hb
 exact ⟨.int k (if n < m then n else m), by simp [Builtin.min2], by simp [Rep, RepP]⟩
theorem zu9 {a b r : AV} {x y : Value} (h : mm (fun a b => decide (b < a)) a b = some r) (ha : Rep c w a x) (hb : Rep c w b y) : ∃ u, (Builtin.max2 x y).run P w = .ok u w ∧ Rep c w r u := by
 unfold mm at h
 split at h
 case h_2 => simp at h
 split at h
 case isFalse => simp at h
 rename_i k m k' n hk
 subst hk
 obtain rfl := inj1 h
 simp only [Rep, RepP] at ha hb
 subst ha; subst hb
 exact ⟨.int k (if m < n then n else m), by simp [Builtin.max2], by simp [Rep, RepP]⟩
theorem ziM {lt : Int → Int → Bool} {f : Value → Value → Sem Value} (hf : ∀ {a b r : AV} {x y : Value}, mm lt a b = some r → Rep c w a x → Rep c w b y → ∃ u, (f x y).run P w = .ok u w ∧ Rep c w r u) :
  ∀ (as : List AV) (vs : List Value) (a r : AV) (x : Value), ziQ lt a as = some r → Rep c w a x → RepL c w as vs → ∃ u, (vs.foldlM f x).run P w = .ok u w ∧ Rep c w r u
 | [], [], a, r, x, h, ha, _ => by simp only [ziQ] at h; obtain rfl := inj1 h; exact ⟨x, rfl, ha⟩
 | b :: as, y :: vs, a, r, x, h, ha, hl => by
  simp only [ziQ] at h
  split at h
  case h_2 => simp at h
  rename_i r' h1
  simp only [RepL] at hl
  obtain ⟨u, h2, h3⟩ := hf h1 ha hl.1
  obtain ⟨u2, h4, h5⟩ := ziM hf as vs r' r u h h3 hl.2
  exact ⟨u2, by simp [List.foldlM_cons, h2, h4], h5⟩
 | [], _ :: _, _, _, _, _, _, hl => by simp [RepL] at hl
 | _ :: _, [], _, _, _, _, _, hl => by simp [RepL] at hl
theorem zrb {ts : Array TypeId} {xs : List Operand} {a : AV} {as : List AV} (ho : o.op = .call { callee := .builtin .min, args := xs.toArray, argTypes := ts }) (hm : zb9 c w o.op ev ρ) (hx : evs ev xs = some (a :: as))
  (h : ziQ (fun a b => decide (a < b)) a as = some v) : zaC P c w nx o ρ v none := by
 have hr := zgw (ρ := ρ) (fun x hx v hv => hm x (by simp [ho, Op.operands, Call.operands]; simpa using hx) v hv) hx
 cases xs with
 | nil => simp [RepL] at hr
 | cons x xs =>
  simp only [List.map_cons, RepL] at hr
  obtain ⟨u, h1, h2⟩ := ziM (P := P) (f := Builtin.min2) (fun h ha hb => zu0 h ha hb) as (xs.map ρ) a v (ρ x) h hr.1 hr.2
  exact zP (v' := u) (by simp [execOp, ho, resolve, invoke, builtin, Builtin.min_, h1]) h2
theorem zrx {ts : Array TypeId} {xs : List Operand} {a : AV} {as : List AV} (ho : o.op = .call { callee := .builtin .max, args := xs.toArray, argTypes := ts }) (hm : zb9 c w o.op ev ρ) (hx : evs ev xs = some (a :: as))
  (h : ziQ (fun a b => decide (b < a)) a as = some v) : zaC P c w nx o ρ v none := by
 have hr := zgw (ρ := ρ) (fun x hx v hv => hm x (by simp [ho, Op.operands, Call.operands]; simpa using hx) v hv) hx
 cases xs with
 | nil => simp [RepL] at hr
 | cons x xs =>
  simp only [List.map_cons, RepL] at hr
  obtain ⟨u, h1, h2⟩ := ziM (P := P) (f := Builtin.max2) (fun h ha hb => zu9 h ha hb) as (xs.map ρ) a v (ρ x) h hr.1 hr.2
  exact zP (v' := u) (by simp [execOp, ho, resolve, invoke, builtin, Builtin.max_, h1]) h2
theorem zcY {r : Option (Prop × AV)} (h : r.map (fun x => (x.1, x.2, (none : Option VObj))) = some (cond, v, new)) : r = some (cond, v) ∧ new = none := by
 simp only [Option.map_eq_some_iff, Prod.mk.injEq] at h
 obtain ⟨⟨c1, v1⟩, h1, h2, h3, h4⟩ := h
 simp only at h2 h3; subst h2 h3
 exact ⟨h1, h4.symm⟩
theorem zi6 {x : Operand} {e : TypeId} {sz : Nat} (hnx : c.φ nx = none) (ho : o.op = .assign x) (hρ : ∀ v, ρ (.const v) = v) (hn : zff x = true) : zaC P c w nx o ρ (.ref nx sz 0 0) (some (.row e sz [])) := by
 have hx : x = .const (.slice none 0 0) := by
  unfold zff at hn
  split at hn
  ·rfl
  ·simp at hn
 subst hx
 let c' : Ctx := { φ := fun id => if id = nx then some .virt else c.φ id, I := c.I }
 refine ⟨.slice none 0 0, w, c', by simp [execOp, ho, hρ], ⟨Nat.le_refl _, rfl, rfl, rfl, fun _ _ => rfl, rfl, fun id h => if_neg h, (fun h => by cases h), fun o' h => ?_⟩, ?_⟩
 ·cases h; exact ⟨.virt, if_pos rfl, rfl, by simp⟩
 ·simp only [Rep]; exact .inl ⟨if_pos rfl, trivial, trivial, none, rfl⟩
theorem zb4 : ∀ {xs : List Operand} {as : List AV}, evs ev xs = some as → xs.length = as.length
 | [], as, h => by simp only [evs] at h; obtain rfl := inj1 h; rfl
 | x :: xs, as, h => by
  simp only [evs] at h
  split at h
  ·rename_i a bs h1 h2
   obtain rfl := inj1 h
   simp [zb4 h2]
  ·simp at h
theorem zlF {t : TypeId} {x : Operand} {n m : Nat} {full : Bool} {cs : List PV} {e : TypeId} (ho : o.op = .sliceToArrayPointer t x) (hm : zb9 c w o.op ev ρ) (hx : ev x = some (.pv (.slc n full cs))) (ht : tarr P t = some (m, e)) (hn : m ≤ n) (hcs : cs ≠ []) : zaC P c w nx o ρ (.pptr cs 0) none := by
 have hr := hm x (by simp [ho, Op.operands]) _ hx
 simp only [Rep, RepP] at hr
 obtain ⟨a, cap, hv, _, _, _, h4⟩ := hr
 rcases h4 with ⟨_, h⟩ | ⟨b, off, rfl, hI, hc⟩
 ·exact absurd h hcs
 unfold tarr at ht
 split at ht
 case h_2 => cases ht
 rename_i m' e' hu
 cases ht
 exact zP (v' := .pointer (some ⟨b, off, none⟩)) (by simp [execOp, ho, Instr.arrayAt, run_underlying hu, hv, Nat.not_lt.2 hn]) ⟨b, off, rfl, hI, hc⟩
theorem zgi (hm : zb9 c w o.op ev ρ) (hconst : ∀ v, ρ (.const v) = v) (hH : zcX c w H) (hI : ∀ b, c.I b → b < w.heap.size) (hnx : new ≠ none → c.φ nx = none)
  (he : zcv P ev H nx o.op o.type = some (cond, v, new)) (hc : cond) : zaC P c w nx o ρ v new := by
 cases hop : o.op <;> rw [hop] at he <;> simp only [zcv] at he
 case move x =>
  simp only [Option.map_eq_some_iff, Prod.mk.injEq] at he
  obtain ⟨a, h1, _, rfl, rfl⟩ := he
  exact zo1 hop hm h1
 case assign x =>
  split at he
  ·rename_i hn
   split at he
   case h_2 => simp at he
   rename_i e he'
   split at he
   case h_2 => simp at he
   rename_i sz hsz
   obtain ⟨_, rfl, rfl⟩ := inj3 he
   exact zi6 (hnx (by simp)) hop hconst hn
  ·simp only [Option.map_eq_some_iff, Prod.mk.injEq] at he
   obtain ⟨a, h1, _, rfl, rfl⟩ := he
   exact zlO hop hm h1
 case pick x a b =>
  split at he
  case h_2 => simp at he
  rename_i t ht
  simp only [Option.map_eq_some_iff, Prod.mk.injEq] at he
  obtain ⟨u, h1, _, rfl, rfl⟩ := he
  exact zpo hop hm ht h1
 case alloc t =>
  simp only [Option.map_eq_some_iff, Prod.mk.injEq] at he
  obtain ⟨zs, h1, _, rfl, rfl⟩ := he
  exact znw (hnx (by simp)) hI hop h1
 case box t x =>
  split at he
  case h_2 => simp at he
  rename_i u hu
  split at he
  case isFalse => simp at he
  rename_i ht
  obtain ⟨_, rfl, rfl⟩ := inj3 he
  exact zqa (hnx (by simp)) hI hop hm hu ht.1
 case build t parts =>
  split at he
  case h_2 => simp at he
  rename_i ps hp
  split at he
  case isFalse => simp at he
  rename_i hz
  simp only [Option.map_eq_some_iff, Prod.mk.injEq] at he
  obtain ⟨u, h1, _, rfl, rfl⟩ := he
  exact znd hop hm hp hz h1
 case buildSlice t len parts =>
  split at he
  ·rename_i hb
   simp only [Bool.and_eq_true, decide_eq_true_eq] at hb
   obtain ⟨rfl, hb⟩ := hb
   split at he
   case h_2 => simp at he
   rename_i e he'
   split at he
   case h_2 => simp at he
   rename_i sz zs hsz hzs
   obtain ⟨rfl, rfl, rfl⟩ := inj3 he
   exact zhE (zs := zs) hop hb he' hsz
  split at he
  case h_2 => simp at he
  rename_i e ps he' hp
  split at he
  case h_2 => simp at he
  rename_i sz zs hsz hzs
  split at he
  case h_2 => simp at he
  rename_i cs hf
  split at he
  case h_2 =>
   obtain ⟨rfl, rfl, rfl⟩ := inj3 he
   exact zhG (hnx (by simp)) hI hop hm he' hp hsz hzs hf hc.1 hc.2.1 hc.2.2
  rename_i qs hq
  obtain ⟨rfl, rfl, rfl⟩ := inj3 he
  exact zic (hnx (by simp)) hI hop hm he' hp hsz hzs hf hq hc.1 hc.2.1 hc.2.2
 case load t x =>
  cases hx : ev x with
  | none => simp [hx] at he
  | some a => rw [hx] at he; exact zoV hH hop hm hx he hc
 case nilCheck x => exact zjD hop hm he
 case binOp op t x y yt =>
  split at he
  ·rename_i hn
   split at he
   case h_2 => simp at he
   rename_i a ha
   obtain ⟨h1, rfl⟩ := zcY he
   exact zlp hop hm hconst hn ha h1 hc
  ·split at he
   case h_2 => simp at he
   rename_i a b ha hb
   obtain ⟨h1, rfl⟩ := zcY he
   exact zna hop hm ha hb h1 hc
 case unOp op t x =>
  split at he
  case h_2 => simp at he
  rename_i a ha
  simp only [Option.map_eq_some_iff, Prod.mk.injEq] at he
  obtain ⟨u, h1, _, rfl, rfl⟩ := he
  exact zpd hop hm ha h1
 case convert s d x =>
  split at he
  ·rename_i n f cs hx
   split at he
   ·rename_i hcnd
    split at he
    case h_2 => simp at he
    rename_i bs hb
    obtain ⟨rfl, rfl, rfl⟩ := inj3 he
    exact zf3 hH hop hm hx hcnd.1 hcnd.2 (a := .pv (.slc n f cs)) rfl hb hc (by simp)
   ·simp at he
  ·rename_i id sz off n hx
   split at he
   case isFalse => simp at he
   rename_i hcnd
   split at he
   case h_2 => simp at he
   rename_i m cs hcs
   split at he
   case h_2 => simp at he
   rename_i bs hb
   obtain ⟨rfl, rfl, rfl⟩ := inj3 he
   exact zf3 hH hop hm hx hcnd.1 hcnd.2.1 hcs hb hc (by simp)
  ·rename_i a hx
   split at he
   case isFalse => simp at he
   rename_i hq
   obtain ⟨h1, rfl⟩ := zcY he
   exact zoQ hop hm hx h1 (Option.isSome_iff_exists.1 hq)
  ·simp at he
 case makeFunc fn first caps =>
  cases fn with
  | func f =>
   simp only at he
   split at he
   ·rename_i hf
    simp only [Option.map_eq_some_iff, Prod.mk.injEq] at he
    obtain ⟨vs, h1, _, rfl, rfl⟩ := he
    exact zjM hop hf hm h1
   ·split at he
    ·rename_i us vs h1 h2
     obtain ⟨_, rfl, rfl⟩ := inj3 he
     exact zja hop hm h1 h2
    ·simp at he
  | _ => simp at he
 case fieldAddr t x f =>
  split at he
  ·rename_i id p off ft hx hf
   split at he
   case h_2 => simp at he
   rename_i s hs
   obtain ⟨rfl, rfl, rfl⟩ := inj3 he
   exact zfp hop hm hx hf hs hc (.inl ⟨_, _, rfl, rfl⟩)
  ·rename_i cs p off ft hx hf
   split at he
   case h_2 => simp at he
   rename_i s hs
   obtain ⟨rfl, rfl, rfl⟩ := inj3 he
   exact zfp hop hm hx hf hs hc (.inr ⟨_, _, rfl, rfl⟩)
  ·simp at he
 case field t x f =>
  split at he
  case h_2 => simp at he
  rename_i cs off ft hx hf
  obtain ⟨h1, rfl⟩ := zcY he
  exact znn hop hm hx hf h1 hc
 case indexAddr t x i =>
  split at he
  case h_2 => simp at he
  rename_i a n hx hi
  obtain ⟨h1, rfl⟩ := zcY he
  exact zjt hop hm hx hi h1 hc
 case index t x i =>
  split at he
  case h_2 => simp at he
  rename_i a n hx hi
  obtain ⟨h1, rfl⟩ := zcY he
  exact zmI hop hm hx hi h1 hc
 case slice t x lo hi mx =>
  split at he
  case h_2 => simp at he
  rename_i a l h m hx hl hh hmx
  obtain ⟨h1, rfl⟩ := zcY he
  exact zm7 hop hm hx hl hh hmx h1 hc
 case sliceToArrayPointer t x =>
  split at he
  case h_2 => simp at he
  rename_i n full cs m e hx ht
  obtain ⟨rfl, rfl, rfl⟩ := inj3 he
  exact zlF hop hm hx ht hc.1 hc.2
 case makeSlice t l cc =>
  split at he
  case h_2 => simp at he
  rename_i e n m he' hl hcc
  split at he
  case h_2 => simp at he
  rename_i sz by' zs hsz hb hz
  obtain ⟨rfl, rfl, rfl⟩ := inj3 he
  exact zjs (hnx (by simp)) hI hop hm he' hl hcc hsz hb hz hc.1 hc.2.1 hc.2.2.1 hc.2.2.2.1 hc.2.2.2.2.1 hc.2.2.2.2.2
 case makeMap t r =>
  cases r with
  | some r => simp at he
  | none =>
   try simp only at he
   split at he
   case h_2 => simp at he
   rename_i kt htm
   obtain ⟨_, rfl, rfl⟩ := inj3 he
   exact zkX (k := kt.1) (v := kt.2) (hnx (by simp)) hI hop
 case lookup t x k ok =>
  cases ok with
  | true => simp at he
  | false =>
   try simp only at he
   split at he
   case h_2 => simp at he
   rename_i id kv hx hk
   split at he
   case h_2 => simp at he
   rename_i es hg
   simp only [Option.map_eq_some_iff, Prod.mk.injEq] at he
   obtain ⟨⟨c1, v1⟩, h1, rfl, rfl, rfl⟩ := he
   exact zmf hH hop hm hx hk hg h1
 case extract x k =>
  split at he
  case h_2 => simp at he
  rename_i vs hx
  split at he
  case h_2 => simp at he
  rename_i u hk
  obtain ⟨_, rfl, rfl⟩ := inj3 he
  exact zkM hop hm hx hk
 case call cl =>
  obtain ⟨callee, args, ts⟩ := cl
  split at he
  case h_2 => simp at he
  rename_i b hb
  simp only at hb
  subst hb
  split at he
  case h_2 => simp at he
  rename_i vs hvs
  unfold zcT at he
  split at he
  ·rename_i t r x hts
   simp only [Option.map_eq_some_iff, Prod.mk.injEq] at he
   obtain ⟨n, h1, _, rfl, rfl⟩ := he
   obtain ⟨xs, rfl⟩ : ∃ xs : List Operand, args = xs.toArray := ⟨args.toList, by simp⟩
   obtain ⟨tl, rfl⟩ : ∃ tl : List TypeId, ts = tl.toArray := ⟨ts.toList, by simp⟩
   simp only at hts hvs
   subst hts
   match xs, hvs with
   | [y], hvs =>
    simp only [evs] at hvs
    cases hy : ev y with
    | none => simp [hy] at hvs
    | some a =>
     simp [hy] at hvs
     subst hvs
     exact zqX hop hm hy h1
   | [], hvs => simp [evs] at hvs
   | _ :: _ :: _, hvs =>
    have := zb4 hvs
    simp at this
  ·rename_i y r
   simp only [Option.map_eq_some_iff, Prod.mk.injEq] at he
   obtain ⟨n, h1, _, rfl, rfl⟩ := he
   obtain ⟨xs, rfl⟩ : ∃ xs : List Operand, args = xs.toArray := ⟨args.toList, by simp⟩
   exact zrb hop hm (by simpa using hvs) h1
  ·rename_i y r
   simp only [Option.map_eq_some_iff, Prod.mk.injEq] at he
   obtain ⟨n, h1, _, rfl, rfl⟩ := he
   obtain ⟨xs, rfl⟩ : ∃ xs : List Operand, args = xs.toArray := ⟨args.toList, by simp⟩
   exact zrx hop hm (by simpa using hvs) h1
  ·rename_i t u n cs x hts
   split at he
   case h_2 => simp at he
   rename_i e m nw he' hcn
   split at he
   case h_2 => simp at he
   rename_i sz by' zs hsz hb hz
   split at he
   case isFalse => simp at he
   rename_i hu
   obtain ⟨rfl, rfl, rfl⟩ := inj3 he
   obtain ⟨xs, rfl⟩ : ∃ xs : List Operand, args = xs.toArray := ⟨args.toList, by simp⟩
   obtain ⟨tl, rfl⟩ : ∃ tl : List TypeId, ts = tl.toArray := ⟨ts.toList, by simp⟩
   simp only at hts hvs
   subst hts
   match xs, hvs with
   | [y1, y2], hvs =>
    simp only [evs] at hvs
    cases hy1 : ev y1 with
    | none => simp [hy1] at hvs
    | some a1 =>
     cases hy2 : ev y2 with
     | none => simp [hy1, hy2] at hvs
     | some a2 =>
      simp [hy1, hy2] at hvs
      obtain ⟨rfl, rfl⟩ := hvs
      exact zk2 (hnx (by simp)) hI hH hop hm hy1 hy2 he' hcn hsz hb hz hu hc.1 hc.2.1 hc.2.2.1 hc.2.2.2.1 hc.2.2.2.2.1 hc.2.2.2.2.2.1 hc.2.2.2.2.2.2
   | [], hvs => simp [evs] at hvs
   | [_], hvs =>
    have := zb4 hvs
    simp at this
   | _ :: _ :: _ :: _, hvs =>
    have := zb4 hvs
    simp at this
  ·simp at he
 all_goals simp at he
end
end Go.Proofs.YtppnccjeggnllaaGreatVm

import Derived.Test.YtppnccjeggnllaaGreatVmFa
namespace Go.Proofs.YtppnccjeggnllaaGreatVm
open Go Go.RowKit
set_option linter.all false
noncomputable section
def zsz (P : Program) (hg : Nat → Option VObj) (t u : TypeId) (id sz off n : Nat) (x : AV) : Option (Bool × Option AV × Nat × VObj × Option Nat) :=
 match zk4 hg id, zmm hg x with
 | some (e, sz', cs), some (m, new) => match zjl P t u e sz sz' m new with
  | true => match Nat.beq off 0 && Nat.beq cs.length (n * sz) with
   | true => match Nat.ble (n + m) zaW with
    | true => some (false, some (.ref id sz 0 (n + m)), id, .arow e sz (cs ++ new), some id)
    | false => none
   | false => match Nat.ble ((off + (n + m)) * sz) cs.length with
    | true => some (false, some (.ref id sz off (n + m)), id, .arow e sz (zat cs ((off + n) * sz) new), none)
    | false => none
  | false => none
 | _, _ => none
def wF (P : Program) (ev : Operand → Option AV) (hg : Nat → Option VObj) (op : Op) : Option (Bool × Option AV × Nat × VObj × Option Nat) :=
 match op with
 | .store t a x => match ev a, ev x, tsz P t with
  | some (.ptr id off), some v, some s => match told v && (zam v).all one && Nat.beq (zam v).length s with
   | true => match hg id with
    | some (.box cs) => match Nat.ble (off + s) cs.length with
     | true => some (true, none, id, .box (zat cs off (zam v)), none)
     | false => none
    | some (.row e sz cs) => match Nat.ble (off + s) cs.length with
     | true => match pvs (zam v) with
      | some ps => some (true, none, id, .row e sz (zlr cs off ps), none)
      | none => match sz with
       | 0 => none
       | k + 1 => some (false, none, id, .arow e (k + 1) (zat (cs.map .pv) off (zam v)), none)
     | false => none
    | some (.arow e (sz + 1) cs) => match Nat.ble (off + s) cs.length with
     | true => some (false, none, id, .arow e (sz + 1) (zat cs off (zam v)), none)
     | false => none
    | _ => none
   | false => none
  | _, _, _ => none
 | .call c => match c.callee, evs ev c.args.toList, c.argTypes.toList with
  | .builtin .append, some [.ref id sz off n, x], [t, u] => match hg id, zcd hg x with
   | some (.row e sz' cs), some (m, new) => match zjl P t u e sz sz' m (new.map .pv) && Nat.beq off 0 && Nat.beq cs.length (n * sz) && Nat.ble (n + m) zaW with
    | true => some (true, some (.ref id sz 0 (n + m)), id, .row e sz (cs ++ new), some id)
    | false => zsz P hg t u id sz off n x
   | _, _ => zsz P hg t u id sz off n x
  | .builtin .clear, some [.ref id sz off n], [t] => match zk4 hg id, za1 P t with
   | some (e, sz', cs), some e' => match zbZ P e' with
    | some zs => match Nat.beq sz' sz && (tsz P e' == some sz) && Nat.ble 1 sz && Nat.beq zs.length sz && Nat.ble ((off + n) * sz) cs.length with
     | true => some (false, some (.tup []), id, .arow e sz (zat cs (off * sz) ((zaK zs n).map .pv)), none)
     | false => none
    | none => none
   | _, _ => none
  | .builtin .copy, some [.ref id sz off n, .ref id2 sz2 off2 m], [t, _] => match zk4 hg id, zk4 hg id2, za1 P t with
   | some (e, sz', cs), some (_, sz2', cs2), some e' => match (tsz P e' == some sz) && Nat.beq sz' sz && Nat.beq sz2 sz && Nat.beq sz2' sz && Nat.ble 1 sz && Nat.ble 1 (min n m) && Nat.ble (off * sz) cs.length && Nat.ble ((off2 + min n m) * sz) cs2.length && ((cs2.drop (off2 * sz)).take (min n m * sz)).all one with
    | true => some (false, some (.pv (.int .i64 ((min n m : Nat) : Int))), id, .arow e sz (zhW cs (off * sz) ((cs2.drop (off2 * sz)).take (min n m * sz))), none)
    | false => none
   | _, _, _ => none
  | _, _, _ => none
 | _ => none
def gF (P : Program) (ev : Operand → Option AV) (hg : Nat → Option VObj) (op : Op) : Option AV :=
 match op with
 | .load t a => match ev a with
  | some (.ptr id off) => match zk4 hg id with
   | some (_, _, cs) => match zqj P t cs off with
    | some (true, v) => some v
    | _ => none
   | none => none
  | _ => none
 | .slice t x lo hi none => match ev x, optI ev lo, optI ev hi, za1 P t with
  | some (.ref id sz off n), some l, some h, some e => match zk4 hg id with
   | some (_, sz', cs) => match Nat.beq sz' sz && (tsz P e == some sz) && Nat.ble 1 sz && decide (0 ≤ l.getD 0) && decide (l.getD 0 ≤ h.getD n) && Nat.ble ((off + (h.getD n).toNat) * sz) cs.length with
    | true => some (.ref id sz (off + (l.getD 0).toNat) ((h.getD n).toNat - (l.getD 0).toNat))
    | false => none
   | none => none
  | _, _, _, _ => none
 | .call c => match c.callee, evs ev c.args.toList, c.argTypes.toList with
  | .builtin .len, some [.mapr id], [t] => match hg id with
   | some (.arow _ 0 cs) => match (zl6 P t).isSome with
    | true => some (.pv (.int .i64 (cs.length : Int)))
    | false => none
   | _ => none
  | _, _, _ => none
 | .build t parts => match zbY ev parts.toList with
  | some ps => match zlM P t with
   | true => znI P t ps
   | false => none
  | none => none
 | _ => none
section
variable {P : Program} {ev : Operand → Option AV} {H : Heap} {op : Op}
theorem zve {v : AV} (h : gF P ev (hget H) op = some v) : zek P ev H op = some (true, some v, H, none) := by
 unfold gF at h
 split at h
 ·rename_i t a
  split at h
  case h_2 => cases h
  rename_i id off ha
  split at h
  case h_2 => cases h
  rename_i e sz cs hr
  split at h
  case h_2 => cases h
  rename_i v' hp
  obtain rfl := inj1 h
  have hr' : hrow H id = some (e, sz, cs) := hr
  simp only [zek, ha, hr', hp, Option.map_some]
 ·rename_i t x lo hi
  split at h
  case h_2 => cases h
  rename_i id sz off n l h' e h1 h2 h3 h4
  split at h
  case h_2 => cases h
  rename_i e0 sz' cs hr
  split at h
  case h_2 => cases h
  rename_i hb
  obtain rfl := inj1 h
  have hr' : hrow H id = some (e0, sz', cs) := hr
  simp only [zek, h1, h2, h3, h4, hr', hb]
 ·rename_i c
  split at h
  case h_2 => cases h
  rename_i id t h1 h2 h3
  split at h
  case h_2 => cases h
  rename_i e cs hr
  split at h
  case h_2 => cases h
  rename_i hb
  obtain rfl := inj1 h
  show zek P ev H (.call c) = _
  simp only [zek, h1, h2, h3, hr, hb]
 ·rename_i t parts
  split at h
  case h_2 => cases h
  rename_i ps h1
  split at h
  case h_2 => cases h
  rename_i hz
  simp only [zek, h1, h, hz]
 ·cases h
def WOk (P : Program) (ev : Operand → Option AV) (H : Heap) (op : Op) (b : Bool) (v : Option AV) (id : Nat) (o' : VObj) (k : Option Nat) : Prop :=
 match b with
 | true => ∃ c : Prop, zez P ev H op = some (c, v, hset H id o', k) ∧ c
 | false => zek P ev H op = some (true, v, hset H id o', k)
theorem zou {c : Call} {t u : TypeId} {id sz off n : Nat} {x : AV} {b : Bool} {v : Option AV} {i : Nat} {o' : VObj} {k : Option Nat} (h1 : c.callee = .builtin .append) (h2 : evs ev c.args.toList = some [.ref id sz off n, x]) (h3 : c.argTypes.toList = [t, u]) (h : zsz P (hget H) t u id sz off n x = some (b, v, i, o', k)) : WOk P ev H (.call c) b v i o' k := by
 unfold zsz at h
 split at h
 case h_2 => cases h
 rename_i e sz' cs m new hr hc
 have hr' : hrow H id = some (e, sz', cs) := hr
 have hc' : zid H x = some (m, new) := by rw [zl5]; exact hc
 split at h
 case h_2 => cases h
 rename_i hok
 split at h
 ·rename_i hb
  split at h
  case h_2 => cases h
  rename_i hm
  simp only [Option.some.injEq, Prod.mk.injEq] at h
  obtain ⟨rfl, rfl, rfl, rfl, rfl⟩ := h
  show zek P ev H (.call c) = _
  simp only [zek, h1, h2, h3, hr', hc', hb, if_true, hok, hm, Bool.and_self]
 ·rename_i hb
  split at h
  case h_2 => cases h
  rename_i hm
  simp only [Option.some.injEq, Prod.mk.injEq] at h
  obtain ⟨rfl, rfl, rfl, rfl, rfl⟩ := h
  show zek P ev H (.call c) = _
  simp only [zek, h1, h2, h3, hr', hc', hb, Bool.false_eq_true, if_false, hok, hm, Bool.and_self]
theorem zt4 {b : Bool} {v : Option AV} {i : Nat} {o' : VObj} {k : Option Nat} (h : wF P ev (hget H) op = some (b, v, i, o', k)) : WOk P ev H op b v i o' k := by
 unfold wF at h
 split at h
 ·rename_i t a x
  split at h
  case h_2 => cases h
  rename_i id off v1 s h1 h2 h3
  split at h
  case h_2 => cases h
  rename_i hb
  have hb' := hb
  simp only [Bool.and_eq_true] at hb'
  obtain ⟨⟨g1, g2⟩, g3⟩ := hb'
  have g3' := Nat.eq_of_beq_eq_true g3
  split at h
  ·rename_i cs hg
   split at h
   case h_2 => cases h
   rename_i hle
   simp only [Option.some.injEq, Prod.mk.injEq] at h
   obtain ⟨rfl, rfl, rfl, rfl, rfl⟩ := h
   refine ⟨off + (zam v1).length ≤ cs.length, ?_, by rw [g3']; exact Nat.le_of_ble_eq_true hle⟩
   simp only [zez, h1, h2, h3, g1, g2, g3', hg, zem, and_self, if_true]
  ·rename_i e sz cs hg
   split at h
   case h_2 => cases h
   rename_i hle
   split at h
   ·rename_i ps hps
    simp only [Option.some.injEq, Prod.mk.injEq] at h
    obtain ⟨rfl, rfl, rfl, rfl, rfl⟩ := h
    refine ⟨off + (zam v1).length ≤ cs.length, ?_, by rw [g3']; exact Nat.le_of_ble_eq_true hle⟩
    simp only [zez, h1, h2, h3, g1, g2, g3', hg, zem, hps, and_self, if_true]
   ·split at h
    case h_1 => cases h
    rename_i k0
    simp only [Option.some.injEq, Prod.mk.injEq] at h
    obtain ⟨rfl, rfl, rfl, rfl, rfl⟩ := h
    have hr : hrow H id = some (e, k0 + 1, cs.map .pv) := by unfold hrow; rw [hg]
    show zek P ev H (.store t a x) = _
    simp only [zek, h1, h2, h3, hr, hb, hle, List.length_map, Bool.and_self]
  ·rename_i e sz cs hg
   split at h
   case h_2 => cases h
   rename_i hle
   simp only [Option.some.injEq, Prod.mk.injEq] at h
   obtain ⟨rfl, rfl, rfl, rfl, rfl⟩ := h
   have hr : hrow H id = some (e, sz + 1, cs) := by unfold hrow; rw [hg]
   show zek P ev H (.store t a x) = _
   simp only [zek, h1, h2, h3, hr, hb, hle, Bool.and_self]
  ·cases h
 ·rename_i c
  split at h
  ·rename_i id sz off n x t u h1 h2 h3
   split at h
   ·rename_i e sz' cs m new hg hc
    have hc' : zaU H x = some (m, new) := by rw [zc4]; exact hc
    split at h
    ·rename_i hb
     simp only [Bool.and_eq_true] at hb
     obtain ⟨⟨⟨hok, g1⟩, g2⟩, g3⟩ := hb
     simp only [Option.some.injEq, Prod.mk.injEq] at h
     obtain ⟨rfl, rfl, rfl, rfl, rfl⟩ := h
     obtain ⟨q1, by', zs, q2, q3, q4, q5, q6, q7, q8, q9, q10, q11⟩ := zhN hok
     obtain rfl := Nat.eq_of_beq_eq_true g1
     subst q1
     refine ⟨0 < sz' ∧ zs.length = sz' ∧ cs.length = n * sz' ∧ new.length = m * sz' ∧ n + m ≤ zaW ∧ by' ≤ 1024, ?_, q7, q8, Nat.eq_of_beq_eq_true g2, by simpa using q9, Nat.le_of_ble_eq_true g3, q11⟩
     simp only [zez, h1, h2, h3, hg, hc', q2, q3, q4, q5, q6, and_self, if_true]
    ·exact zou h1 h2 h3 h
   ·exact zou h1 h2 h3 h
  ·rename_i id sz off n t h1 h2 h3
   split at h
   case h_2 => cases h
   rename_i e sz' cs e' hr he
   split at h
   case h_2 => cases h
   rename_i zs hz
   split at h
   case h_2 => cases h
   rename_i hb
   simp only [Option.some.injEq, Prod.mk.injEq] at h
   obtain ⟨rfl, rfl, rfl, rfl, rfl⟩ := h
   have hr' : hrow H id = some (e, sz', cs) := hr
   show zek P ev H (.call c) = _
   simp only [zek, h1, h2, h3, hr', he, hz, hb]
  ·rename_i id sz off n id2 sz2 off2 m t u h1 h2 h3
   split at h
   case h_2 => cases h
   rename_i e sz' cs e2 sz2' cs2 e' hr hr2 he
   split at h
   case h_2 => cases h
   rename_i hb
   simp only [Option.some.injEq, Prod.mk.injEq] at h
   obtain ⟨rfl, rfl, rfl, rfl, rfl⟩ := h
   have hr' : hrow H id = some (e, sz', cs) := hr
   have hr2' : hrow H id2 = some (e2, sz2', cs2) := hr2
   show zek P ev H (.call c) = _
   simp only [zek, h1, h2, h3, hr', hr2', he, hb]
  ·cases h
 ·cases h
end
structure FS where
 T : Tri (Nat × AV)
 H : Tri (Nat × VObj)
 nx : Nat
 last : Tri Nat
 now : Nat
 mv : List Nat
 c : Nat × Nat
 wr : Nat
@[reducible] def FS.nt (fs : FS) : Nat := fs.c.1
@[reducible] def FS.lo (fs : FS) : Nat := fs.c.2
def zcQ (l : Tri Nat) (i : Nat) : Nat := match l.get (Nat.succ i) with
 | some t => t
 | none => 0
def zcZ (l : Tri Nat) (τ i : Nat) : Bool := Nat.blt τ (zcQ l i)
def FS.tg (fs : FS) (t : Nat) : Option AV := match fs.T.get (Nat.succ t) with
 | some p => some (fp2 (zcZ fs.last p.1) p.2)
 | none => none
def FS.hg (fs : FS) (i : Nat) : Option VObj := match fs.H.get (Nat.succ i) with
 | some p => some (fpO (zcZ fs.last p.1) p.2)
 | none => none
def FS.ev (fs : FS) : Operand → Option AV
 | .tmp t => fs.tg t
 | .const v => zhv v
 | .func f => some (.fnc f [])
 | .global _ => none
structure FOk (fs : FS) (S : St) : Prop where
 t : ∀ k, tget S.T k = fs.tg k
 h : ∀ i, hget S.H i = fs.hg i
 nx : S.nx = fs.nx
 mv : S.mv = fs.mv
 nt : S.nt = fs.nt
 lo : S.lo = fs.lo
structure FWf (fs : FS) (l0 : Tri Nat) (n0 : Nat) (h0 : Tri (Nat × VObj)) (m0 : Nat) : Prop where
 dense : ∀ i, i < fs.nx ↔ ∃ p, fs.H.get (Nat.succ i) = some p
 bt : ∀ k p, fs.T.get (Nat.succ k) = some p → zao fs.nx p.2 = true ∧ p.1 ≤ fs.now
 bh : ∀ i p, fs.H.get (Nat.succ i) = some p → zbC fs.nx p.2 = true ∧ p.1 ≤ fs.now
 la : ∀ i, zcQ fs.last i ≤ fs.now
 ge : n0 ≤ fs.now
 mvr : ∀ i, i < fs.lo → (i ∈ fs.mv ∧ n0 < zcQ fs.last i) ∨ (i ∉ fs.mv ∧ zcQ fs.last i = zcQ l0 i)
 lo : fs.lo ≤ fs.nx
 un : ∀ i, i < fs.lo → i < fs.wr → fs.H.get (Nat.succ i) = h0.get (Nat.succ i)
 lq : fs.lo = m0
def minW (id wr : Nat) : Nat := match Nat.ble id wr with | true => id | false => wr
def putT (fs : FS) (d : Option Tmp) (v : AV) : Option FS := match d with
 | none => some fs
 | some d => match Nat.blt d 65535 && blwT fs.nx v with
  | true => some { fs with T := Tri.put (fs.now, v) 16 fs.T (Nat.succ d) }
  | false => none
def putR (fs : FS) (d : Option Tmp) (v : AV) (new : Option VObj) : Option FS := match new with
 | none => putT fs d v
 | some ob => match Nat.blt fs.nx 65535 && blwO (Nat.succ fs.nx) ob with
  | true => putT { fs with H := Tri.put (fs.now, ob) 16 fs.H (Nat.succ fs.nx), nx := Nat.succ fs.nx } d v
  | false => none
def putW (fs : FS) (d : Option Tmp) (v : Option AV) (id : Nat) (o' : VObj) (k : Option Nat) : Option FS :=
 match Nat.blt id 65535 && Nat.blt id fs.nx && blwO fs.nx o' with
 | true => match k with
  | none => match Nat.ble id fs.wr with
   | true => putT { fs with H := Tri.put (fs.now, o') 16 fs.H (Nat.succ id), wr := id } d (v.getD .undef)
   | false => putT { fs with H := Tri.put (fs.now, o') 16 fs.H (Nat.succ id) } d (v.getD .undef)
  | some kk => match Nat.blt kk 65535 with
   | true => putT { fs with H := Tri.put (fs.now, o') 16 fs.H (Nat.succ id), wr := minW id fs.wr, last := Tri.put (Nat.succ fs.now) 16 fs.last (Nat.succ kk), now := Nat.succ fs.now, mv := kk :: fs.mv } d (v.getD .undef)
   | false => none
 | false => none
section
variable {fs fs' : FS} {S : St} {l0 : Tri Nat} {n0 : Nat} {h0 : Tri (Nat × VObj)} {m0 : Nat}
theorem lt16 {d : Nat} (h : Nat.blt d 65535 = true) : Nat.succ d < 2 ^ 16 := by
 rw [Nat.blt_eq] at h; show d + 1 < 65536; omega
theorem zgL (h : ∀ i, zcQ l0 i ≤ n0) {τ : Nat} (hτ : n0 ≤ τ) : zcZ l0 τ = fun _ => false := by
 funext i
 unfold zcZ
 rw [zeC]
 exact decide_eq_false (by have := h i; omega)
theorem zla {l : Tri Nat} {x k i : Nat} (h : Nat.blt k 65535 = true) : zcQ (Tri.put x 16 l (Nat.succ k)) i = if i = k then x else zcQ l i := by
 unfold zcQ
 rw [Tri.get_put (by omega) (lt16 h) (by omega)]
 by_cases e : i = k
 ·rw [if_pos (by omega), if_pos e]
 ·rw [if_neg (by omega), if_neg e]
theorem zdc (hw : FWf fs l0 n0 h0 m0) (hs : FOk fs S) {d : Option Tmp} {v : AV} (h : putT fs d v = some fs') : FWf fs' l0 n0 h0 m0 ∧ FOk fs' { S with T := tput S.T d v } := by
 cases d with
 | none => obtain rfl := inj1 h; exact ⟨hw, hs⟩
 | some d =>
  simp only [putT] at h
  split at h
  case h_2 => cases h
  rename_i hb
  simp only [Bool.and_eq_true] at hb
  rw [zrj] at hb
  obtain rfl := inj1 h
  have hg : ∀ k, (Tri.put (fs.now, v) 16 fs.T (Nat.succ d)).get (Nat.succ k) = if k = d then some (fs.now, v) else fs.T.get (Nat.succ k) := fun k => by
   rw [Tri.get_put (by omega) (lt16 hb.1) (by omega)]
   by_cases e : k = d
   ·rw [if_pos (by omega), if_pos e]
   ·rw [if_neg (by omega), if_neg e]
  refine ⟨⟨hw.dense, fun k p hk => ?_, hw.bh, hw.la, hw.ge, hw.mvr, hw.lo, hw.un, hw.lq⟩, ⟨fun k => ?_, hs.h, hs.nx, hs.mv, hs.nt, hs.lo⟩⟩
  ·have hk' : (Tri.put (fs.now, v) 16 fs.T (Nat.succ d)).get (Nat.succ k) = some p := hk
   rw [hg] at hk'
   split at hk'
   ·cases hk'; exact ⟨hb.2, Nat.le_refl _⟩
   ·exact hw.bt k p hk'
  ·show tget (tput S.T (some d) v) k = _
   rw [zfG]
   unfold FS.tg
   simp only
   rw [hg]
   by_cases e : k = d
   ·subst e
    rw [if_pos rfl, if_pos rfl]
    simp only
    rw [zgL hw.la (Nat.le_refl _), zib, zjo]
   ·rw [if_neg (by intro e'; cases e'; exact e rfl), if_neg e]
    exact hs.t k
theorem zli (hw : FWf fs l0 n0 h0 m0) (hs : FOk fs S) {d : Option Tmp} {v : AV} {new : Option VObj} (h : putR fs d v new = some fs') : FWf fs' l0 n0 h0 m0 ∧ FOk fs' (S.applyR d v new) := by
 cases new with
 | none => exact zdc hw hs h
 | some ob =>
  simp only [putR] at h
  split at h
  case h_2 => cases h
  rename_i hb
  simp only [Bool.and_eq_true] at hb
  rw [zqe] at hb
  have hg : ∀ i, (Tri.put (fs.now, ob) 16 fs.H (Nat.succ fs.nx)).get (Nat.succ i) = if i = fs.nx then some (fs.now, ob) else fs.H.get (Nat.succ i) := fun i => by
   rw [Tri.get_put (by omega) (lt16 hb.1) (by omega)]
   by_cases e : i = fs.nx
   ·rw [if_pos (by omega), if_pos e]
   ·rw [if_neg (by omega), if_neg e]
  have h1 : FWf { fs with H := Tri.put (fs.now, ob) 16 fs.H (Nat.succ fs.nx), nx := Nat.succ fs.nx } l0 n0 h0 m0 := by
   refine ⟨fun i => ?_, fun k p hk => ?_, fun i p hi => ?_, hw.la, hw.ge, hw.mvr, Nat.le_succ_of_le hw.lo, fun i h1 h2 => ?_, hw.lq⟩
   ·show i < Nat.succ fs.nx ↔ ∃ p, (Tri.put (fs.now, ob) 16 fs.H (Nat.succ fs.nx)).get (Nat.succ i) = some p
    rw [hg]
    by_cases e : i = fs.nx
    ·rw [if_pos e]; exact ⟨fun _ => ⟨_, rfl⟩, fun _ => by omega⟩
    ·rw [if_neg e, ← hw.dense i]; omega
   ·exact ⟨zfR (Nat.le_succ _) (hw.bt k p hk).1, (hw.bt k p hk).2⟩
   ·have hi' : (Tri.put (fs.now, ob) 16 fs.H (Nat.succ fs.nx)).get (Nat.succ i) = some p := hi
    rw [hg] at hi'
    split at hi'
    ·cases hi'; exact ⟨hb.2, Nat.le_refl _⟩
    ·exact ⟨zmF (Nat.le_succ _) (hw.bh i p hi').1, (hw.bh i p hi').2⟩
   ·show (Tri.put (fs.now, ob) 16 fs.H (Nat.succ fs.nx)).get (Nat.succ i) = _
    have h1' : i < fs.lo := h1
    have := hw.lo
    rw [hg, if_neg (by omega)]
    exact hw.un i h1 h2
  have h2 : FOk { fs with H := Tri.put (fs.now, ob) 16 fs.H (Nat.succ fs.nx), nx := Nat.succ fs.nx } { S with H := (S.nx, ob) :: S.H, nx := S.nx + 1 } := by
   refine ⟨hs.t, fun i => ?_, by show S.nx + 1 = fs.nx + 1; rw [hs.nx], hs.mv, hs.nt, hs.lo⟩
   show hget ((S.nx, ob) :: S.H) i = _
   unfold FS.hg
   simp only
   rw [hg]
   simp only [hget]
   by_cases e : i = fs.nx
   ·rw [if_pos (by rw [hs.nx, e]), if_pos e]
    simp only
    rw [zgL hw.la (Nat.le_refl _), zgQ, zkn]
   ·rw [if_neg (by rw [hs.nx]; exact fun e' => e e'.symm), if_neg e]
    exact hs.h i
  exact zdc h1 h2 h
theorem zn6 (a b : Nat) : minW a b ≤ a := by
 unfold minW
 split
 ·exact Nat.le_refl _
 ·rename_i hm
  have : ¬ a ≤ b := fun h => by rw [Nat.ble_eq_true_of_le h] at hm; cases hm
  omega
theorem zox (a b : Nat) : minW a b ≤ b := by
 unfold minW
 split
 ·rename_i hm; exact Nat.le_of_ble_eq_true hm
 ·exact Nat.le_refl _
theorem hgH (hw : FWf fs l0 n0 h0 m0) (hs : FOk fs S) {id : Nat} {o' : VObj} (h1 : Nat.blt id 65535 = true) (h2 : id < fs.nx) (hb : zbC fs.nx o' = true) {m : Nat} (hm1 : m ≤ id) (hm2 : m ≤ fs.wr) :
  FWf { fs with H := Tri.put (fs.now, o') 16 fs.H (Nat.succ id), wr := m } l0 n0 h0 m0 ∧ FOk { fs with H := Tri.put (fs.now, o') 16 fs.H (Nat.succ id), wr := m } { S with H := hset S.H id o' } := by
 have hg : ∀ i, (Tri.put (fs.now, o') 16 fs.H (Nat.succ id)).get (Nat.succ i) = if i = id then some (fs.now, o') else fs.H.get (Nat.succ i) := fun i => by
  rw [Tri.get_put (by omega) (lt16 h1) (by omega)]
  by_cases e : i = id
  ·rw [if_pos (by omega), if_pos e]
  ·rw [if_neg (by omega), if_neg e]
 refine ⟨⟨fun i => ?_, hw.bt, fun i p hi => ?_, hw.la, hw.ge, hw.mvr, hw.lo, fun i g1 g2 => ?_, hw.lq⟩, ⟨hs.t, fun i => ?_, hs.nx, hs.mv, hs.nt, hs.lo⟩⟩
 ·show i < fs.nx ↔ ∃ p, (Tri.put (fs.now, o') 16 fs.H (Nat.succ id)).get (Nat.succ i) = some p
  rw [hg]
  by_cases e : i = id
  ·rw [if_pos e]; exact ⟨fun _ => ⟨_, rfl⟩, fun _ => by omega⟩
  ·rw [if_neg e]; exact hw.dense i
 ·have hi' : (Tri.put (fs.now, o') 16 fs.H (Nat.succ id)).get (Nat.succ i) = some p := hi
  rw [hg] at hi'
  split at hi'
  ·cases hi'; exact ⟨hb, Nat.le_refl _⟩
  ·exact hw.bh i p hi'
 ·show (Tri.put (fs.now, o') 16 fs.H (Nat.succ id)).get (Nat.succ i) = _
  have g2' : i < m := g2
  rw [hg, if_neg (by omega)]
  exact hw.un i g1 (Nat.lt_of_lt_of_le g2' hm2)
 ·show hget (hset S.H id o') i = _
  rw [zbB]
  unfold FS.hg
  simp only
  rw [hg]
  by_cases e : i = id
  ·subst e
   rw [if_pos rfl, if_pos rfl]
   simp only
   rw [zgL hw.la (Nat.le_refl _), zgQ, zkn]
   obtain ⟨p, hp⟩ := (hw.dense i).1 h2
   have := hs.h i
   unfold FS.hg at this
   rw [hp] at this
   rw [this]; rfl
  ·rw [if_neg e, if_neg e]; exact hs.h i
theorem hgM (hw : FWf fs l0 n0 h0 m0) (hs : FOk fs S) {kk : Nat} (hk : Nat.blt kk 65535 = true) :
  FWf { fs with last := Tri.put (Nat.succ fs.now) 16 fs.last (Nat.succ kk), now := Nat.succ fs.now, mv := kk :: fs.mv } l0 n0 h0 m0 ∧ FOk { fs with last := Tri.put (Nat.succ fs.now) 16 fs.last (Nat.succ kk), now := Nat.succ fs.now, mv := kk :: fs.mv } { S with T := zfm [kk] S.T, H := zc1 [kk] S.H, mv := kk :: S.mv } := by
 have hst : ∀ {τ : Nat}, τ ≤ fs.now → zcZ (Tri.put (Nat.succ fs.now) 16 fs.last (Nat.succ kk)) τ = fun i => memB i [kk] || zcZ fs.last τ i := fun {τ} hτ => by
  funext i
  unfold zcZ
  rw [zla hk]
  simp only [memB, Bool.or_false]
  by_cases e : i = kk
  ·rw [if_pos e, e, Nat.beq_refl, zeC]
   simp; omega
  ·have hb : Nat.beq i kk = false := by cases hb : Nat.beq i kk; rfl; exact absurd (Nat.eq_of_beq_eq_true hb) e
   rw [if_neg e, hb]; rfl
 refine ⟨⟨hw.dense, fun k p h => ⟨(hw.bt k p h).1, Nat.le_succ_of_le (hw.bt k p h).2⟩, fun k p h => ⟨(hw.bh k p h).1, Nat.le_succ_of_le (hw.bh k p h).2⟩, fun i => ?_, Nat.le_succ_of_le hw.ge, fun i hi => ?_, hw.lo, hw.un, hw.lq⟩, ⟨fun k => ?_, fun i => ?_, hs.nx, by show kk :: S.mv = kk :: fs.mv; rw [hs.mv], hs.nt, hs.lo⟩⟩
 ·show zcQ (Tri.put (Nat.succ fs.now) 16 fs.last (Nat.succ kk)) i ≤ Nat.succ fs.now
  rw [zla hk]
  split
  ·exact Nat.le_refl _
  ·exact Nat.le_succ_of_le (hw.la i)
 ·show (i ∈ kk :: fs.mv ∧ n0 < zcQ (Tri.put (Nat.succ fs.now) 16 fs.last (Nat.succ kk)) i) ∨ (i ∉ kk :: fs.mv ∧ zcQ (Tri.put (Nat.succ fs.now) 16 fs.last (Nat.succ kk)) i = zcQ l0 i)
  rw [zla hk]
  by_cases e : i = kk
  ·left; rw [if_pos e]; exact ⟨by simp [e], by have := hw.ge; omega⟩
  ·rw [if_neg e]
   rcases hw.mvr i hi with ⟨h1, h2⟩ | ⟨h1, h2⟩
   ·exact .inl ⟨List.mem_cons_of_mem _ h1, h2⟩
   ·exact .inr ⟨by simp [e, h1], h2⟩
 ·show tget (zfm [kk] S.T) k = _
  rw [zdu, hs.t k]
  unfold FS.tg
  simp only
  cases hk' : fs.T.get (Nat.succ k) with
  | none => rfl
  | some p =>
   simp only [Option.map_some]
   rw [zib, zib, zhz, hst (hw.bt k p hk').2]
 ·show hget (zc1 [kk] S.H) i = _
  rw [zdr, hs.h i]
  unfold FS.hg
  simp only
  cases hk' : fs.H.get (Nat.succ i) with
  | none => rfl
  | some p =>
   simp only [Option.map_some]
   rw [zgQ, zgQ, zmC, hst (hw.bh i p hk').2]
theorem zhD (hw : FWf fs l0 n0 h0 m0) (hs : FOk fs S) {d : Option Tmp} {v : Option AV} {id : Nat} {o' : VObj} {k : Option Nat} (h : putW fs d v id o' k = some fs') : FWf fs' l0 n0 h0 m0 ∧ FOk fs' (S.applyW d v (hset S.H id o') k) := by
 unfold putW at h
 split at h
 case h_2 => cases h
 rename_i hb
 simp only [Bool.and_eq_true] at hb
 rw [zqe] at hb
 have hlt : id < fs.nx := by have := hb.1.2; rwa [Nat.blt_eq] at this
 cases k with
 | none =>
  simp only at h
  split at h
  ·rename_i hm
   obtain ⟨h1, h2⟩ := hgH hw hs hb.1.1 hlt hb.2 (Nat.le_refl _) (Nat.le_of_ble_eq_true hm)
   exact zdc h1 h2 h
  ·rename_i hm
   have hm' : ¬ id ≤ fs.wr := fun h => by rw [Nat.ble_eq_true_of_le h] at hm; cases hm
   obtain ⟨h1, h2⟩ := hgH hw hs hb.1.1 hlt hb.2 (m := fs.wr) (by omega) (Nat.le_refl _)
   exact zdc h1 h2 h
 | some kk =>
  simp only at h
  split at h
  case h_2 => cases h
  rename_i hk
  obtain ⟨h1, h2⟩ := hgH hw hs hb.1.1 hlt hb.2 (zn6 id fs.wr) (zox id fs.wr)
  obtain ⟨h3, h4⟩ := hgM h1 h2 hk
  exact zdc h3 h4 h
end
end
end Go.Proofs.YtppnccjeggnllaaGreatVm

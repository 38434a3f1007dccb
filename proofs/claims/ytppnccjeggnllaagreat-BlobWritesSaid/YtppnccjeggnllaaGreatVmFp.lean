import Derived.Test.YtppnccjeggnllaaGreatVmFb
namespace Go.Proofs.YtppnccjeggnllaaGreatVm
open Go Go.RowKit
set_option linter.all false
noncomputable section
def nthR {α : Type} (l : List α) : Nat → Option α := List.rec (motive := fun _ => Nat → Option α) (fun _ => none) (fun x _ ih i => Nat.rec (some x) (fun j _ => ih j) i) l
def lenR {α : Type} (l : List α) : Nat := List.rec (motive := fun _ => Nat) 0 (fun _ _ n => Nat.succ n) l
def zsS {α : Type} (i : Nat) (l : List α) : List α := List.rec (motive := fun _ => Nat → List α) (fun _ => []) (fun x r ih i => Nat.rec (x :: r) (fun j _ => ih j) i) l i
def zsm {α : Type} (i : Nat) (l : List α) : List α := List.rec (motive := fun _ => Nat → List α) (fun _ => []) (fun x _ ih i => Nat.rec [] (fun j _ => x :: ih j) i) l i
def setR {α : Type} (v : α) (l : List α) : Nat → List α := List.rec (motive := fun _ => Nat → List α) (fun _ => []) (fun x r ih i => Nat.rec (v :: r) (fun j _ => x :: ih j) i) l
theorem zkI {α : Type} : ∀ (l : List α) (i : Nat), nthR l i = l[i]?
 | [], i => by simp [nthR]
 | x :: r, 0 => rfl
 | x :: r, i + 1 => by rw [List.getElem?_cons_succ, ← zkI r i]; rfl
theorem zi7 {α : Type} : ∀ l : List α, lenR l = l.length
 | [] => rfl
 | x :: r => by rw [List.length_cons, ← zi7 r]; rfl
theorem zk0 {α : Type} : ∀ (i : Nat) (l : List α), zsS i l = l.drop i
 | i, [] => by simp [zsS]
 | 0, x :: r => rfl
 | i + 1, x :: r => by rw [List.drop_succ_cons, ← zk0 i r]; rfl
theorem zkH {α : Type} : ∀ (i : Nat) (l : List α), zsm i l = l.take i
 | i, [] => by simp [zsm]
 | 0, x :: r => rfl
 | i + 1, x :: r => by rw [List.take_succ_cons, ← zkH i r]; rfl
theorem zmD {α : Type} (v : α) : ∀ (l : List α) (i : Nat), setR v l i = l.set i v
 | [], i => by simp [setR]
 | x :: r, 0 => rfl
 | x :: r, i + 1 => by rw [List.set_cons_succ, ← zmD v r i]; rfl
def zpI : AV → Option (Nat × Nat) := AV.rec (motive_1 := fun _ => Option (Nat × Nat)) (motive_2 := fun _ => PUnit) none (fun _ => none) (fun _ _ => none) (fun i o => some (i, o)) (fun _ _ _ _ => none) (fun _ _ _ => none) (fun _ _ => none) (fun _ _ => none) (fun _ _ _ => none) (fun _ _ _ _ => none) (fun _ => none) ⟨⟩ (fun _ _ _ _ => ⟨⟩)
theorem zii {v : AV} {i o : Nat} (h : zpI v = some (i, o)) : v = .ptr i o := by
 cases v <;> first | (cases (show (none : Option (Nat × Nat)) = _ from h)) | (obtain ⟨rfl, rfl⟩ := inj2 (show some (_, _) = some (i, o) from h); rfl)
def pvOf : AV → Option PV := AV.rec (motive_1 := fun _ => Option PV) (motive_2 := fun _ => PUnit) none (fun p => some p) (fun _ _ => none) (fun _ _ => none) (fun _ _ _ _ => none) (fun _ _ _ => none) (fun _ _ => none) (fun _ _ => none) (fun _ _ _ => none) (fun _ _ _ _ => none) (fun _ => none) ⟨⟩ (fun _ _ _ _ => ⟨⟩)
theorem znt {v : AV} {p : PV} (h : pvOf v = some p) : v = .pv p := by
 cases v <;> first | (cases (show (none : Option PV) = _ from h)) | (obtain rfl := inj1 (show some _ = some p from h); rfl)
def zuD : AV → Option (Nat × Nat × Nat × Nat) := AV.rec (motive_1 := fun _ => Option (Nat × Nat × Nat × Nat)) (motive_2 := fun _ => PUnit) none (fun _ => none) (fun _ _ => none) (fun _ _ => none) (fun i s o n => some (i, s, o, n)) (fun _ _ _ => none) (fun _ _ => none) (fun _ _ => none) (fun _ _ _ => none) (fun _ _ _ _ => none) (fun _ => none) ⟨⟩ (fun _ _ _ _ => ⟨⟩)
theorem zsA {v : AV} {i s o n : Nat} (h : zuD v = some (i, s, o, n)) : v = .ref i s o n := by
 cases v <;> first | (cases (show (none : Option (Nat × Nat × Nat × Nat)) = _ from h)) | (have h' := inj1 (show some (_, _, _, _) = some (i, s, o, n) from h); cases h'; rfl)
def zuX : AV → Option (List AV) := AV.rec (motive_1 := fun _ => Option (List AV)) (motive_2 := fun _ => PUnit) none (fun _ => none) (fun _ _ => none) (fun _ _ => none) (fun _ _ _ _ => none) (fun _ _ _ => none) (fun _ _ => none) (fun cs _ => some cs) (fun _ _ _ => none) (fun _ _ _ _ => none) (fun _ => none) ⟨⟩ (fun _ _ _ _ => ⟨⟩)
theorem zr4 {v : AV} {l : List AV} (h : zuX v = some l) : v = .tup l := by
 cases v <;> first | (cases (show (none : Option (List AV)) = _ from h)) | (obtain rfl := inj1 (show some _ = some l from h); rfl)
def zuN : AV → Option (List AV) := AV.rec (motive_1 := fun _ => Option (List AV)) (motive_2 := fun _ => PUnit) none (fun _ => none) (fun _ _ => none) (fun _ _ => none) (fun _ _ _ _ => none) (fun _ _ _ => none) (fun cs _ => some cs) (fun _ _ => none) (fun _ _ _ => none) (fun _ _ _ _ => none) (fun _ => none) ⟨⟩ (fun _ _ _ _ => ⟨⟩)
theorem ztc {v : AV} {l : List AV} (h : zuN v = some l) : v = .agg l := by
 cases v <;> first | (cases (show (none : Option (List AV)) = _ from h)) | (obtain rfl := inj1 (show some _ = some l from h); rfl)
def pint : PV → Option (IntKind × Int) := PV.rec (motive_1 := fun _ => Option (IntKind × Int)) (motive_2 := fun _ => PUnit) (fun k n => some (k, n)) (fun _ => none) (fun _ => none) (fun _ _ _ _ => none) none (fun _ _ _ => none) none none (fun _ => none) ⟨⟩ (fun _ _ _ _ => ⟨⟩)
theorem zug {p : PV} {k : IntKind} {n : Int} (h : pint p = some (k, n)) : p = .int k n := by
 cases p <;> first | (cases (show (none : Option (IntKind × Int)) = _ from h)) | (obtain ⟨rfl, rfl⟩ := inj2 (show some (_, _) = some (k, n) from h); rfl)
def zuK : PV → Option Bool := PV.rec (motive_1 := fun _ => Option Bool) (motive_2 := fun _ => PUnit) (fun _ _ => none) (fun b => some b) (fun _ => none) (fun _ _ _ _ => none) none (fun _ _ _ => none) none none (fun _ => none) ⟨⟩ (fun _ _ _ _ => ⟨⟩)
theorem zsd {p : PV} {b : Bool} (h : zuK p = some b) : p = .bool b := by
 cases p <;> first | (cases (show (none : Option Bool) = _ from h)) | (obtain rfl := inj1 (show some _ = some b from h); rfl)
def zo3 (v : AV) : Option (IntKind × Int) := match pvOf v with | some p => pint p | none => none
theorem zih {v : AV} {k : IntKind} {n : Int} (h : zo3 v = some (k, n)) : v = .pv (.int k n) := by
 unfold zo3 at h
 split at h
 ·rename_i p hp; rw [znt hp, zug h]
 ·cases h
def ztO : VObj → Option (List AV) := VObj.rec (motive := fun _ => Option (List AV)) (fun _ _ _ => none) (fun cs => some cs) (fun _ => none) (fun _ _ _ => none)
def zt9 : VObj → Option (TypeId × Nat × List PV) := VObj.rec (motive := fun _ => Option (TypeId × Nat × List PV)) (fun e sz cs => some (e, sz, cs)) (fun _ => none) (fun _ => none) (fun _ _ _ => none)
theorem znC {o : VObj} {cs : List AV} (h : ztO o = some cs) : o = .box cs := by
 cases o <;> first | (cases (show (none : Option (List AV)) = _ from h)) | (obtain rfl := inj1 (show some _ = some cs from h); rfl)
theorem zoy {o : VObj} {e : TypeId} {sz : Nat} {cs : List PV} (h : zt9 o = some (e, sz, cs)) : o = .row e sz cs := by
 cases o <;> first | (cases (show (none : Option (TypeId × Nat × List PV)) = _ from h)) | (have h' := inj1 (show some (_, _, _) = some (e, sz, cs) from h); cases h'; rfl)
def ikN : IntKind → Nat := IntKind.rec (motive := fun _ => Nat) 0 1 2 3 4 5 6 7
theorem zuv {a b : IntKind} (h : Nat.beq (ikN a) (ikN b) = true) : a = b := by
 have := Nat.eq_of_beq_eq_true h
 cases a <;> cases b <;> first | rfl | (simp [ikN] at this)
def half : IntKind → Nat := IntKind.rec (motive := fun _ => Nat) 128 32768 2147483648 9223372036854775808 128 32768 2147483648 9223372036854775808
def zrA (k : IntKind) (n : Int) : Int := Int.rec (motive := fun _ => Int) (fun m => Bool.rec (k.wrap n) n (Nat.blt m (half k))) (fun _ => k.wrap n) n
theorem znP (k : IntKind) (n : Int) : zrA k n = k.wrap n := by
 cases n with
 | ofNat m =>
  show Bool.rec (motive := fun _ => Int) (k.wrap (Int.ofNat m)) (Int.ofNat m) (Nat.blt m (half k)) = _
  rw [zeC]
  by_cases h : m < half k
  ·rw [decide_eq_true h]
   show Int.ofNat m = k.wrap (Int.ofNat m)
   cases k <;> simp only [half] at h <;> simp only [IntKind.wrap, IntKind.bits, IntKind.signed] <;> (simp; omega)
  ·rw [decide_eq_false h]
 | negSucc m => rfl
def ltI (a b : Int) : Bool := Int.rec (motive := fun _ => Bool) (fun m => Int.rec (motive := fun _ => Bool) (fun n => Nat.blt m n) (fun _ => false) b) (fun m => Int.rec (motive := fun _ => Bool) (fun _ => true) (fun n => Nat.blt n m) b) a
theorem zuI (a b : Int) : ltI a b = decide (a < b) := by
 cases a with
 | ofNat m => cases b with
  | ofNat n =>
   show Nat.blt m n = _
   rw [zeC]
   exact decide_eq_decide.2 ⟨fun h => Int.ofNat_lt.2 h, fun h => Int.ofNat_lt.1 h⟩
  | negSucc n =>
   show false = _
   exact (decide_eq_false (fun h => by have h1 := Int.negSucc_lt_zero n; have h2 : (0 : Int) ≤ Int.ofNat m := Int.natCast_nonneg m; omega)).symm
 | negSucc m => cases b with
  | ofNat n =>
   show true = _
   exact (decide_eq_true (by have h1 := Int.negSucc_lt_zero m; have h2 : (0 : Int) ≤ Int.ofNat n := Int.natCast_nonneg n; omega)).symm
  | negSucc n =>
   show Nat.blt n m = _
   rw [zeC]
   exact decide_eq_decide.2 (by rw [Int.negSucc_eq, Int.negSucc_eq]; omega)
theorem zuY (a b : Int) : (!(decide (b < a))) = decide (a ≤ b) := by
 by_cases h : b < a
 ·rw [decide_eq_true h, decide_eq_false (by omega)]; rfl
 ·rw [decide_eq_false h, decide_eq_true (by omega)]; rfl
def eqI (a b : Int) : Bool := Int.rec (motive := fun _ => Bool) (fun m => Int.rec (motive := fun _ => Bool) (fun n => Nat.beq m n) (fun _ => false) b) (fun m => Int.rec (motive := fun _ => Bool) (fun _ => false) (fun n => Nat.beq n m) b) a
theorem zp8 {a b : Nat} : Nat.beq a b = decide (a = b) := by
 by_cases h : a = b
 ·subst h; simp
 ·rw [decide_eq_false h]; cases hb : Nat.beq a b; rfl; exact absurd (Nat.eq_of_beq_eq_true hb) h
theorem zu2 (a b : Int) : eqI a b = (a == b) := by
 have : (a == b) = decide (a = b) := rfl
 rw [this]
 cases a <;> cases b
 ·show Nat.beq _ _ = _; rw [zp8]; exact decide_eq_decide.2 ⟨fun h => by rw [h], fun h => by injection h⟩
 ·show false = _; symm; simp
 ·show false = _; symm; simp
 ·show Nat.beq _ _ = _; rw [zp8]; exact decide_eq_decide.2 ⟨fun h => by rw [h], fun h => by injection h with h; exact h.symm⟩
abbrev BinT := Program → TypeId → AV → AV → Option AV
def zjf (o : BinOp) : BinT := fun P t a b => match bin P o t a b, binB o a b with
 | some (_, v), true => some v
 | _, _ => none
def intB (o : BinOp) (f : IntKind → Int → Int → PV) : BinT := fun P t a b => match zo3 a with
 | some (k, n) => match zo3 b with
  | some (k', m) => match Nat.beq (ikN k) (ikN k') with
   | true => some (.pv (f k n m))
   | false => none
  | none => none
 | none => zjf o P t a b
def binQ (o : BinOp) : BinT := BinOp.rec (motive := fun _ => BinT)
 (intB .add fun k a b => .int k (zrA k (a + b))) (intB .sub fun k a b => .int k (zrA k (a - b))) (intB .mul fun k a b => .int k (zrA k (a * b)))
 (zjf .quo) (zjf .rem) (zjf .and) (zjf .or) (zjf .xor) (zjf .shl) (zjf .shr) (zjf .andNot)
 (intB .eql fun _ a b => .bool (eqI a b)) (intB .neq fun _ a b => .bool (!(eqI a b))) (intB .lss fun _ a b => .bool (ltI a b)) (intB .leq fun _ a b => .bool (!(ltI b a))) (intB .gtr fun _ a b => .bool (ltI b a)) (intB .geq fun _ a b => .bool (!(ltI a b))) o
theorem zob {o : BinOp} {P : Program} {t : TypeId} {a b v : AV} (h : zjf o P t a b = some v) : ∃ c, bin P o t a b = some (c, v) ∧ binB o a b = true := by
 unfold zjf at h
 split at h
 ·rename_i c v' h1 h2; obtain rfl := inj1 h; exact ⟨c, h1, h2⟩
 ·cases h
theorem zul {o : BinOp} {f : IntKind → Int → Int → PV} {P : Program} {t : TypeId} {a b v : AV} (h : intB o f P t a b = some v) (hf : ∀ k n m, ∃ c, bin P o t (.pv (.int k n)) (.pv (.int k m)) = some (c, .pv (f k n m)) ∧ binB o (.pv (.int k n)) (.pv (.int k m)) = true) : ∃ c, bin P o t a b = some (c, v) ∧ binB o a b = true := by
 unfold intB at h
 split at h
 ·rename_i k n h1
  split at h
  ·rename_i k' m h2
   split at h
   ·rename_i h3
    obtain rfl := inj1 h
    rw [zih h1, zih h2, ← zuv h3]
    exact hf k n m
   ·cases h
  ·cases h
 ·exact zob h
theorem ztI {o : BinOp} {P : Program} {t : TypeId} {a b v : AV} (h : binQ o P t a b = some v) : ∃ c, bin P o t a b = some (c, v) ∧ binB o a b = true := by
 cases o <;> first
  | exact zob h
  | exact zul h (fun k n m => ⟨True, by simp only [bin, zo7, if_true, znP, zuI, zu2, zuY] <;> rfl, rfl⟩)
section
variable {P : Program} {fs : FS} {ty : TypeId} {v : AV}
def FS.evq : Operand → FS → Option AV := Operand.rec (motive := fun _ => FS → Option AV) (fun t fs => fs.tg t) (fun v _ => zhv v) (fun _ _ => none) (fun f _ => some (.fnc f []))
theorem zdM {x : Operand} : FS.evq x fs = fs.ev x := by cases x <;> rfl
def RF (P : Program) (fs : FS) (op : Op) (v : AV) : Prop := ∀ ty, ∃ c, zcR P fs.ev fs.hg fs.nx op ty = some (c, v, none) ∧ zfj P fs.ev fs.hg op = true
abbrev QT := Program → FS → Option AV
def zuS (x : Operand) : QT := fun _ fs => FS.evq x fs
theorem zsU {x : Operand} (h : zuS x P fs = some v) : RF P fs (.move x) v := fun ty => by
 have h' : fs.ev x = some v := zdM.symm.trans h
 exact ⟨True, by simp only [zcR, h', Option.map_some], rfl⟩
def zm5 (x : Operand) : QT := fun _ fs => match zff x with | true => none | false => FS.evq x fs
theorem zpe {x : Operand} (h : zm5 x P fs = some v) : RF P fs (.assign x) v := fun ty => by
 unfold zm5 at h
 split at h
 ·cases h
 ·rename_i hn
  have h' : fs.ev x = some v := zdM.symm.trans h
  exact ⟨True, by simp only [zcR, hn, h', Option.map_some], rfl⟩
def zuj (c a b : Operand) : QT := fun _ fs => match FS.evq c fs with
 | some v => match pvOf v with
  | some p => match zuK p with
   | some t => match t with
    | true => FS.evq a fs
    | false => FS.evq b fs
   | none => none
  | none => none
 | none => none
theorem zti {c a b : Operand} (h : zuj c a b P fs = some v) : RF P fs (.pick c a b) v := fun ty => by
 unfold zuj at h
 split at h
 case h_2 => cases h
 rename_i w hc
 split at h
 case h_2 => cases h
 rename_i p hp
 split at h
 case h_2 => cases h
 rename_i t ht
 rw [zdM] at hc
 rw [znt hp, zsd ht] at hc
 split at h
 ·have h' : fs.ev a = some v := zdM.symm.trans h
  exact ⟨True, by simp only [zcR, hc, h', if_true, Option.map_some], rfl⟩
 ·have h' : fs.ev b = some v := zdM.symm.trans h
  exact ⟨True, by simp only [zcR, hc, h', Bool.false_eq_true, if_false, Option.map_some], rfl⟩
def qBin (o : BinOp) (t : TypeId) (x y : Operand) (_ : TypeId) : QT := fun P fs => match zff y with
 | true => none
 | false => match FS.evq x fs with
  | some a => match FS.evq y fs with
   | some b => binQ o P t a b
   | none => none
  | none => none
theorem zt8 {o : BinOp} {t u : TypeId} {x y : Operand} (h : qBin o t x y u P fs = some v) : RF P fs (.binOp o t x y u) v := fun ty => by
 unfold qBin at h
 split at h
 ·cases h
 ·rename_i hn
  split at h
  case h_2 => cases h
  rename_i a ha
  split at h
  case h_2 => cases h
  rename_i b hb
  rw [zdM] at ha hb
  obtain ⟨c, h1, h2⟩ := ztI h
  exact ⟨c, by simp only [zcR, hn, ha, hb, h1, Option.map_some], by simp only [zfj, hn, ha, hb, h2]⟩
def qUn (o : UnOp) (_ : TypeId) (x : Operand) : QT := fun _ fs => match FS.evq x fs with
 | some a => un o a
 | none => none
theorem zu4 {o : UnOp} {t : TypeId} {x : Operand} (h : qUn o t x P fs = some v) : RF P fs (.unOp o t x) v := fun ty => by
 unfold qUn at h
 split at h
 case h_2 => cases h
 rename_i a ha
 rw [zdM] at ha
 exact ⟨True, by simp only [zcR, ha, h, Option.map_some], rfl⟩
def znQ (P : Program) (t : TypeId) (cs : List AV) (off : Nat) : Option AV := match tagg P t with
 | some b => match tsz P t with
  | some s => match b with
   | true => match Nat.ble (off + s) (lenR cs) with
    | true => some (.agg (zsm s (zsS off cs)))
    | false => none
   | false => nthR cs off
  | none => none
 | none => none
theorem zl9 {t : TypeId} {cs : List AV} {off : Nat} (h : znQ P t cs off = some v) : ∃ c, zdn P t cs off = some (c, v) ∧ zeR P t cs.length off = true := by
 unfold znQ at h
 split at h
 case h_2 => cases h
 rename_i b hb
 split at h
 case h_2 => cases h
 rename_i s hs
 split at h
 ·split at h
  case h_2 => cases h
  rename_i hl
  obtain rfl := inj1 h
  rw [zi7] at hl
  rw [zkH, zk0]
  exact ⟨off + s ≤ cs.length, by simp only [zdn, hb, hs], by simp only [zeR, hb, hs, hl]⟩
 ·rw [zkI] at h
  exact ⟨True, by simp only [zdn, hb, hs, h], by simp only [zeR, hb, hs]⟩
def zqT (P : Program) (t : TypeId) (cs : List PV) (off : Nat) : Option AV := match tagg P t with
 | some b => match tsz P t with
  | some s => match b with
   | true => match Nat.ble (off + s) (lenR cs) with
    | true => some (.agg ((zsm s (zsS off cs)).map .pv))
    | false => none
   | false => match nthR cs off with
    | some p => some (.pv p)
    | none => none
  | none => none
 | none => none
theorem zqd {t : TypeId} {cs : List PV} {off : Nat} (h : zqT P t cs off = some v) : ∃ c, zgt P t cs off = some (c, v) ∧ zeR P t cs.length off = true := by
 unfold zqT at h
 split at h
 case h_2 => cases h
 rename_i b hb
 split at h
 case h_2 => cases h
 rename_i s hs
 split at h
 ·split at h
  case h_2 => cases h
  rename_i hl
  obtain rfl := inj1 h
  rw [zi7] at hl
  rw [zkH, zk0]
  exact ⟨off + s ≤ cs.length, by simp only [zgt, hb, hs], by simp only [zeR, hb, hs, hl]⟩
 ·split at h
  case h_2 => cases h
  rename_i p hp
  obtain rfl := inj1 h
  rw [zkI] at hp
  exact ⟨True, by simp only [zgt, hb, hs, hp], by simp only [zeR, hb, hs]⟩
def zuw (t : TypeId) (a : Operand) : QT := fun P fs => match FS.evq a fs with
 | some v => match zpI v with
  | some (id, off) => match fs.hg id with
   | some o => match ztO o with
    | some cs => znQ P t cs off
    | none => match zt9 o with
     | some (_, _, cs) => zqT P t cs off
     | none => none
   | none => none
  | none => none
 | none => none
theorem ztq {t : TypeId} {a : Operand} (h : zuw t a P fs = some v) : RF P fs (.load t a) v := fun ty => by
 unfold zuw at h
 split at h
 case h_2 => cases h
 rename_i w ha
 split at h
 case h_2 => cases h
 rename_i id off hp
 rw [zdM, zii hp] at ha
 split at h
 case h_2 => cases h
 rename_i o ho
 split at h
 ·rename_i cs hb
  rw [znC hb] at ho
  obtain ⟨c, h1, h2⟩ := zl9 h
  exact ⟨c, by simp only [zcR, ha, ho, h1, Option.map_some], by simp only [zfj, ha, ho, h2]⟩
 ·split at h
  case h_2 => cases h
  rename_i e sz cs hr
  rw [zoy hr] at ho
  obtain ⟨c, h1, h2⟩ := zqd h
  exact ⟨c, by simp only [zcR, ha, ho, h1, Option.map_some], by simp only [zfj, ha, ho, h2]⟩
def qNil (x : Operand) : QT := fun _ fs => match FS.evq x fs with
 | some v => match zpI v with
  | some (id, off) => some (.ptr id off)
  | none => none
 | none => none
theorem ztJ {x : Operand} (h : qNil x P fs = some v) : RF P fs (.nilCheck x) v := fun ty => by
 unfold qNil at h
 split at h
 case h_2 => cases h
 rename_i w ha
 split at h
 case h_2 => cases h
 rename_i id off hp
 rw [zdM, zii hp] at ha
 obtain rfl := inj1 h
 exact ⟨True, by simp only [zcR, ha], rfl⟩
def znA (t : TypeId) (x : Operand) (f : Nat) : QT := fun P fs => match FS.evq x fs with
 | some v => match zpI v with
  | some (id, o) => match tfld P t f with
   | some (off, ft) => match tsz P ft with
    | some s => match Nat.beq s 0 with
     | true => none
     | false => some (.ptr id (o + off))
    | none => none
   | none => none
  | none => none
 | none => none
theorem zoT {t : TypeId} {x : Operand} {f : Nat} (h : znA t x f P fs = some v) : RF P fs (.fieldAddr t x f) v := fun ty => by
 unfold znA at h
 split at h
 case h_2 => cases h
 rename_i w ha
 split at h
 case h_2 => cases h
 rename_i id off hp
 rw [zdM, zii hp] at ha
 split at h
 case h_2 => cases h
 rename_i off' ft hf
 split at h
 case h_2 => cases h
 rename_i s hs
 split at h
 ·cases h
 ·rename_i hz
  obtain rfl := inj1 h
  exact ⟨s ≠ 0, by simp only [zcR, ha, hf, hs], by simp only [zfj, hf, hs, hz]; rfl⟩
def zqh (t : TypeId) (x : Operand) (f : Nat) : QT := fun P fs => match FS.evq x fs with
 | some v => match zuN v with
  | some cs => match tfld P t f with
   | some (off, ft) => znQ P ft cs off
   | none => none
  | none => none
 | none => none
theorem zrT {t : TypeId} {x : Operand} {f : Nat} (h : zqh t x f P fs = some v) : RF P fs (.field t x f) v := fun ty => by
 unfold zqh at h
 split at h
 case h_2 => cases h
 rename_i w ha
 split at h
 case h_2 => cases h
 rename_i cs hp
 rw [zdM, ztc hp] at ha
 split at h
 case h_2 => cases h
 rename_i off' ft hf
 obtain ⟨c, h1, h2⟩ := zl9 h
 exact ⟨c, by simp only [zcR, ha, hf, h1, Option.map_some], by simp only [zfj, ha, hf, h2]⟩
def inN (i : Int) (n : Nat) : Option Nat := Int.rec (motive := fun _ => Option Nat) (fun m => Bool.rec none (some m) (Nat.blt m n)) (fun _ => none) i
theorem zu8 {i : Int} {n m : Nat} (h : inN i n = some m) : i = (m : Int) ∧ m < n := by
 cases i with
 | ofNat k =>
  have h' : Bool.rec (motive := fun _ => Option Nat) none (some k) (Nat.blt k n) = some m := h
  rw [zeC] at h'
  by_cases hk : k < n
  ·rw [decide_eq_true hk] at h'
   obtain rfl := inj1 (show some k = some m from h')
   exact ⟨rfl, hk⟩
  ·rw [decide_eq_false hk] at h'; cases h'
 | negSucc k => cases (show (none : Option Nat) = some m from h)
def zns (t : TypeId) (x i : Operand) : QT := fun P fs => match FS.evq x fs with
 | some v => match zuD v with
  | some (id, sz, off, n) => match FS.evq i fs with
   | some w => match zo3 w with
    | some (_, q) => match inN q n with
     | some m => match za1 P t with
      | some e => match tsz P e with
       | some s => match Nat.beq s sz with
        | true => some (.ptr id ((off + m) * sz))
        | false => none
       | none => none
      | none => none
     | none => none
    | none => none
   | none => none
  | none => none
 | none => none
theorem zo0 {t : TypeId} {x i : Operand} (h : zns t x i P fs = some v) : RF P fs (.indexAddr t x i) v := fun ty => by
 unfold zns at h
 split at h
 case h_2 => cases h
 rename_i w ha
 split at h
 case h_2 => cases h
 rename_i id sz off n hp
 rw [zdM, zsA hp] at ha
 split at h
 case h_2 => cases h
 rename_i u hu
 split at h
 case h_2 => cases h
 rename_i k q hq
 rw [zdM, zih hq] at hu
 split at h
 case h_2 => cases h
 rename_i m hm
 obtain ⟨rfl, hlt⟩ := zu8 hm
 split at h
 case h_2 => cases h
 rename_i e he
 split at h
 case h_2 => cases h
 rename_i s hs
 split at h
 case h_2 => cases h
 rename_i hb
 obtain rfl := Nat.eq_of_beq_eq_true hb
 obtain rfl := inj1 h
 refine ⟨0 ≤ (m : Int) ∧ (m : Int) < n, by simp only [zcR, ha, hu, intA, zha, he, hs, if_true, Option.map_some, Int.toNat_natCast], ?_⟩
 simp only [zfj, ha, hu, intA, zi4, inB]
 simp; omega
def zk6 (x : Operand) (k : Nat) : QT := fun _ fs => match FS.evq x fs with
 | some v => match zuX v with
  | some vs => nthR vs k
  | none => none
 | none => none
theorem zmJ {x : Operand} {k : Nat} (h : zk6 x k P fs = some v) : RF P fs (.extract x k) v := fun ty => by
 unfold zk6 at h
 split at h
 case h_2 => cases h
 rename_i w ha
 split at h
 case h_2 => cases h
 rename_i vs hp
 rw [zdM, zr4 hp] at ha
 rw [zkI] at h
 exact ⟨True, by simp only [zcR, ha, h], rfl⟩
def zut (s d : TypeId) (x : Operand) : QT := fun P fs => match FS.evq x fs with
 | some v => match zo3 v with
  | some (_, n) => match tint P d with
   | some k => match (P.underlying s).isSome with
    | true => some (.pv (.int k (zrA k n)))
    | false => none
   | none => none
  | none => none
 | none => none
theorem zs0 {s d : TypeId} {x : Operand} (h : zut s d x P fs = some v) : RF P fs (.convert s d x) v := fun ty => by
 unfold zut at h
 split at h
 case h_2 => cases h
 rename_i w ha
 split at h
 case h_2 => cases h
 rename_i k0 n hp
 rw [zdM, zih hp] at ha
 split at h
 case h_2 => cases h
 rename_i k hk
 split at h
 case h_2 => cases h
 rename_i hu
 obtain rfl := inj1 h
 rw [znP]
 exact ⟨True, by simp only [zcR, ha, hu, if_true, conv, hk, Option.map_some], by simp only [zfj, ha]⟩
def zhX {α : Type} (_ : α) : QT := fun _ _ => none
def zf7 {α β : Type} (_ : α) (_ : β) : QT := fun _ _ => none
def zjd {α β γ : Type} (_ : α) (_ : β) (_ : γ) : QT := fun _ _ => none
def zlE {α β γ δ : Type} (_ : α) (_ : β) (_ : γ) (_ : δ) : QT := fun _ _ => none
def zu7 {α β γ δ ε : Type} (_ : α) (_ : β) (_ : γ) (_ : δ) (_ : ε) : QT := fun _ _ => none
def zs3 : Op → QT := Op.rec (motive := fun _ => QT) zuS zm5 zuj zhX zf7 zf7 zjd zlE zuw zjd zhX zhX qNil qBin qUn zut zf7 zf7 zjd zf7 zf7 zjd zu7 znA zqh zns zjd zlE zlE zjd zlE zf7 zf7 zhX zlE zk6 zhX zhX zhX zhX zf7 zjd zf7
theorem zsf {op : Op} (h : zs3 op P fs = some v) : RF P fs op v := by
 cases op <;> first
  | exact zsU h | exact zpe h | exact zti h | exact ztq h | exact ztJ h | exact zt8 h | exact zu4 h | exact zs0 h | exact zoT h | exact zrT h | exact zo0 h | exact zmJ h
  | cases (show (none : Option AV) = some v from h)
end
section
variable {P : Program} {fs : FS}
abbrev WT := Program → FS → Option (Nat × VObj)
def zpS (t : TypeId) (a x : Operand) : WT := fun P fs => match FS.evq a fs with
 | some v => match zpI v with
  | some (id, off) => match fs.hg id with
   | some o => match FS.evq x fs with
    | some w => match tsz P t with
     | some s => match pvOf w with
      | some p => match Nat.beq s 1 with
       | true => match ztO o with
        | some cs => match Nat.ble (Nat.succ off) (lenR cs) with
         | true => some (id, .box (setR w cs off))
         | false => none
        | none => match zt9 o with
         | some (e, sz, cs) => match Nat.ble (Nat.succ off) (lenR cs) with
          | true => some (id, .row e sz (setR p cs off))
          | false => none
         | none => none
       | false => none
      | none => none
     | none => none
    | none => none
   | none => none
  | none => none
 | none => none
theorem zrc {t : TypeId} {a x : Operand} {id : Nat} {o' : VObj} (h : zpS t a x P fs = some (id, o')) : (∀ ty, zcR P fs.ev fs.hg fs.nx (.store t a x) ty = none) ∧ wF P fs.ev fs.hg (.store t a x) = some (true, none, id, o', none) := by
 refine ⟨fun ty => rfl, ?_⟩
 unfold zpS at h
 split at h
 case h_2 => cases h
 rename_i v ha
 split at h
 case h_2 => cases h
 rename_i id' off hp
 rw [zdM, zii hp] at ha
 split at h
 case h_2 => cases h
 rename_i o ho
 split at h
 case h_2 => cases h
 rename_i w hx
 split at h
 case h_2 => cases h
 rename_i s hs
 split at h
 case h_2 => cases h
 rename_i p hp2
 have hw := znt hp2
 subst hw
 rw [zdM] at hx
 split at h
 case h_2 => cases h
 rename_i hb
 obtain rfl := Nat.eq_of_beq_eq_true hb
 split at h
 ·rename_i cs hbx
  rw [znC hbx] at ho
  split at h
  case h_2 => cases h
  rename_i hl
  rw [zi7] at hl
  obtain ⟨rfl, rfl⟩ := inj2 h
  rw [zmD]
  simp only [wF, ha, hx, hs, ho, told, one, zam, List.all_cons, List.all_nil, Bool.and_true, Bool.and_self, List.length_cons, List.length_nil, Nat.zero_add, Nat.beq_refl, zat]
  rw [show Nat.ble (off + 1) cs.length = true from hl]
 ·split at h
  case h_2 => cases h
  rename_i e sz cs hr
  rw [zoy hr] at ho
  split at h
  case h_2 => cases h
  rename_i hl
  rw [zi7] at hl
  obtain ⟨rfl, rfl⟩ := inj2 h
  rw [zmD]
  simp only [wF, ha, hx, hs, ho, told, one, zam, List.all_cons, List.all_nil, Bool.and_true, Bool.and_self, List.length_cons, List.length_nil, Nat.zero_add, Nat.beq_refl, pvs, Option.map_some, zlr]
  rw [show Nat.ble (off + 1) cs.length = true from hl]
def zfx {α : Type} (_ : α) : WT := fun _ _ => none
def zfi {α β : Type} (_ : α) (_ : β) : WT := fun _ _ => none
def zfn {α β γ : Type} (_ : α) (_ : β) (_ : γ) : WT := fun _ _ => none
def zly {α β γ δ : Type} (_ : α) (_ : β) (_ : γ) (_ : δ) : WT := fun _ _ => none
def ztA {α β γ δ ε : Type} (_ : α) (_ : β) (_ : γ) (_ : δ) (_ : ε) : WT := fun _ _ => none
def zu1 : Op → WT := Op.rec (motive := fun _ => WT) zfx zfx zfn zfx zfi zfi zfn zly zfi zpS zfx zfx zfx ztA zfn zfn zfi zfi zfn zfi zfi zfn ztA zfn zfn zfn zfn zly zly zfn zly zfi zfi zfx zly zfi zfx zfx zfx zfx zfi zfn zfi
theorem zte {op : Op} {id : Nat} {o' : VObj} (h : zu1 op P fs = some (id, o')) : (∀ ty, zcR P fs.ev fs.hg fs.nx op ty = none) ∧ wF P fs.ev fs.hg op = some (true, none, id, o', none) := by
 cases op <;> first
  | exact zrc h
  | cases (show (none : Option (Nat × VObj)) = some _ from h)
end
def zuC : Op → Bool := Op.rec (motive := fun _ => Bool) (fun _ => false) (fun _ => false) (fun _ _ _ => false) (fun _ => false) (fun _ _ => false) (fun _ _ => false) (fun _ _ _ => false) (fun _ _ _ _ => false) (fun _ _ => false) (fun _ _ _ => false) (fun _ => false) (fun _ => false) (fun _ => false) (fun _ _ _ _ _ => false) (fun _ _ _ => false) (fun _ _ _ => true) (fun _ _ => false) (fun _ _ => false) (fun _ _ _ => false) (fun _ _ => false) (fun _ _ => false) (fun _ _ _ => false) (fun _ _ _ _ _ => false) (fun _ _ _ => false) (fun _ _ _ => false) (fun _ _ _ => false) (fun _ _ _ => false) (fun _ _ _ _ => false) (fun _ _ _ _ => false) (fun _ _ _ => false) (fun _ _ _ _ => false) (fun _ _ => false) (fun _ _ => false) (fun _ => false) (fun _ _ _ _ => false) (fun _ _ => false) (fun _ => false) (fun _ => false) (fun _ => false) (fun _ => false) (fun _ _ => false) (fun _ _ _ => false) (fun _ _ => false)
end
end Go.Proofs.YtppnccjeggnllaaGreatVm

import Derived.Test.YtppnccjeggnllaaGreatVmA
namespace Go.Proofs.YtppnccjeggnllaaGreatVm
open Go Go.RowKit
set_option linter.all false
def tsz (P : Program) (t : TypeId) : Option Nat := (P.info? t).map (·.size)
def zcy (P : Program) (t : TypeId) : Option Nat := (P.info? t).map (·.bytes)
def tagg (P : Program) (t : TypeId) : Option Bool := (P.underlying t).map fun | .struct _ => true | .array _ _ => true | _ => false
def za1 (P : Program) (t : TypeId) : Option TypeId := match P.underlying t with | some (.slice e) => some e | _ => none
def tarr (P : Program) (t : TypeId) : Option (Nat × TypeId) := match P.underlying t with | some (.array n e) => some (n, e) | _ => none
def tfld (P : Program) (t : TypeId) (f : Nat) : Option (Nat × TypeId) := match P.underlying t with
 | some (.struct fs) => (fs[f]?).map fun x => (x.offset, x.type)
 | _ => none
def tint (P : Program) (t : TypeId) : Option IntKind := match P.underlying t with | some (.int k) => some k | _ => none
def tstr (P : Program) (t : TypeId) : Bool := match P.underlying t with | some .string => true | _ => false
def tslc (P : Program) (t : TypeId) : Bool := match P.underlying t with | some (.slice _) => true | _ => false
def zlo (P : Program) (t : TypeId) : Bool := match za1 P t with | some e => tint P e == some .u8 | none => false
def tsub (P : Program) (u : TypeId) (e : TypeId) : Bool := tstr P u || za1 P u == some e
def tptr (P : Program) (t : TypeId) : Bool := match P.underlying t with | some (.pointer _) => true | _ => false
def ziI : Value → Option PV
 | .int k n => some (.int k n)
 | .bool b => some (.bool b)
 | .string s => some (.str s.data.toList)
 | .slice none 0 0 => some (.slc 0 true [])
 | .pointer none => some .nilp
 | .nilFunc => some .nilf
 | .func (.func f) first caps => if first.size = 0 ∧ caps.size = 0 then some (.fn f) else none
 | _ => none
def zdB : List Value → Option (List PV)
 | [] => some []
 | v :: vs => match ziI v, zdB vs with
  | some p, some ps => some (p :: ps)
  | _, _ => none
def zhv : Value → Option AV
 | .agg cs => (zdB cs.toList).map fun ps => .agg (ps.map .pv)
 | v => (ziI v).map .pv
def zbZ (P : Program) (t : TypeId) : Option (List PV) := ((P.info? t).bind (·.zero)).bind fun z => zdB z.cells.toList
def pvs : List AV → Option (List PV)
 | [] => some []
 | .pv p :: as => (pvs as).map (p :: ·)
 | _ :: _ => none
def zam : AV → List AV
 | .agg cs => cs
 | v => [v]
def one : AV → Bool
 | .pv _ => true
 | .ptr _ _ => true
 | .ref _ _ _ _ => true
 | .view _ _ _ => true
 | .fnc _ _ => true
 | .bnd _ _ _ => true
 | .pptr _ _ => true
 | .mapr _ => true
 | _ => false
def zdn (P : Program) (t : TypeId) (cs : List AV) (off : Nat) : Option (Prop × AV) :=
 match tagg P t, tsz P t with
 | some true, some s => some (off + s ≤ cs.length, .agg ((cs.drop off).take s))
 | some false, some _ => match cs[off]? with
  | some v => some (True, v)
  | none => none
 | _, _ => none
def zgt (P : Program) (t : TypeId) (cs : List PV) (off : Nat) : Option (Prop × AV) :=
 match tagg P t, tsz P t with
 | some true, some s => some (off + s ≤ cs.length, .agg (((cs.drop off).take s).map .pv))
 | some false, some _ => match cs[off]? with
  | some v => some (True, .pv v)
  | none => none
 | _, _ => none
def tmap (P : Program) (t : TypeId) : Option (TypeId × TypeId) := match P.underlying t with | some (.map k v) => some (k, v) | _ => none
def pvEq : PV → PV → Option Bool
 | .int k a, .int k' b => if k = k' then some (a == b) else none
 | .str a, .str b => some (a == b)
 | _, _ => none
def DV.eq : DV → DV → Option Bool
 | .one a, .one b => pvEq a b
 | _, _ => none
def zpT (k : DV) : List (DV × DV) → Option (Option DV)
 | [] => some none
 | (k', v) :: r => match k.eq k' with
  | some true => some (some v)
  | some false => zpT k r
  | none => none
def DV.of : AV → Option DV
 | .pv p => some (.one p)
 | .agg cs => (pvs cs).map .agg
 | _ => none
def zqv (P : Program) (t : TypeId) : Option AV := ((P.info? t).bind (·.zero)).bind zhv
def zpf (P : Program) (t : TypeId) : DV → Bool
 | .one (.int k _) => match P.underlying t with | some (.int k') => k == k' | _ => false
 | .one (.str _) => match P.underlying t with | some .string => true | _ => false
 | _ => false
def zoR (P : Program) (t : TypeId) (es : List (DV × DV)) (k : AV) : Option (Prop × AV) := match tmap P t, DV.of k with
 | some (kt, et), some d => match zpT d es, zqv P et with
  | some r, some z => if zpf P kt d = true then some (True, match r with | some v => v.av | none => z) else none
  | _, _ => none
 | _, _ => none
def zo7 (op : BinOp) (k : IntKind) (a b : Int) : Option (Prop × AV) :=
 match op with
 | .add => some (True, .pv (.int k (k.wrap (a + b))))
 | .sub => some (True, .pv (.int k (k.wrap (a - b))))
 | .mul => some (True, .pv (.int k (k.wrap (a * b))))
 | .quo => some (b ≠ 0, .pv (.int k (k.wrap (a.tdiv b))))
 | .rem => some (b ≠ 0, .pv (.int k (a.tmod b)))
 | .and => some (True, .pv (.int k (k.wrap (BitVec.ofInt k.bits a &&& BitVec.ofInt k.bits b).toNat)))
 | .or => some (True, .pv (.int k (k.wrap (BitVec.ofInt k.bits a ||| BitVec.ofInt k.bits b).toNat)))
 | .xor => some (True, .pv (.int k (k.wrap (BitVec.ofInt k.bits a ^^^ BitVec.ofInt k.bits b).toNat)))
 | .eql => some (True, .pv (.bool (a == b)))
 | .neq => some (True, .pv (.bool (a != b)))
 | .lss => some (True, .pv (.bool (decide (a < b))))
 | .leq => some (True, .pv (.bool (decide (a ≤ b))))
 | .gtr => some (True, .pv (.bool (decide (a > b))))
 | .geq => some (True, .pv (.bool (decide (a ≥ b))))
 | _ => none
def zsW (op : BinOp) (a b : List UInt8) : Option (Prop × AV) :=
 match op with
 | .add => some (a.length + b.length ≤ maxLen, .pv (.str (a ++ b)))
 | .eql => some (True, .pv (.bool (a == b)))
 | .neq => some (True, .pv (.bool !(a == b)))
 | .lss => some (True, .pv (.bool (Op.bytesLess a b)))
 | .leq => some (True, .pv (.bool (Op.bytesLess a b || a == b)))
 | .gtr => some (True, .pv (.bool !(Op.bytesLess a b || a == b)))
 | .geq => some (True, .pv (.bool !(Op.bytesLess a b)))
 | _ => none
def zrG : AV → AV → Option Bool
 | .pv (.int k a), .pv (.int k' b) => if k = k' then some (a == b) else none
 | .pv (.bool a), .pv (.bool b) => some (a == b)
 | .pv (.str a), .pv (.str b) => some (a == b)
 | _, _ => none
def ze1 : List AV → List AV → Option Bool
 | [], [] => some true
 | a :: as, b :: bs => match zrG a b, ze1 as bs with
  | some x, some y => some (x && y)
  | _, _ => none
 | _, _ => none
inductive SK where
 | int (k : IntKind) | bool | str
 deriving DecidableEq
def zlQ (P : Program) (flat : TypeId → Option (List SK)) : Nat → List Field → Option (List SK)
 | _, [] => some []
 | off, f :: fs => if f.offset = off ∧ f.name ≠ "_" then
   match flat f.type with
   | some ks => match zlQ P flat (off + ks.length) fs with
    | some r => some (ks ++ r)
    | none => none
   | none => none
  else none
def zmd (P : Program) : Nat → TypeId → Option (List SK)
 | 0, _ => none
 | d + 1, t => match P.underlying t with
  | some .bool => if tsz P t = some 1 then some [.bool] else none
  | some (.int k) => if tsz P t = some 1 then some [.int k] else none
  | some .string => if tsz P t = some 1 then some [.str] else none
  | some (.struct fs) => if P.stoodInHeld t then none else match zlQ P (zmd P d) 0 fs.toList with
   | some ks => if tsz P t = some ks.length then some ks else none
   | none => none
  | some (.array n e) => match zmd P d e with
   | some ks => if tsz P t = some (n * ks.length) ∧ tsz P e = some ks.length then some ((List.replicate n ks).flatten) else none
   | none => none
  | _ => none
def zrv : AV → Option SK
 | .pv (.int k _) => some (.int k)
 | .pv (.bool _) => some .bool
 | .pv (.str _) => some .str
 | _ => none
def zeB : List AV → Option (List SK)
 | [] => some []
 | a :: as => match zrv a, zeB as with
  | some k, some ks => some (k :: ks)
  | _, _ => none
def eqOk (P : Program) (t : TypeId) : Option (List SK) := if P.eqGuardType P.depth t then none else zmd P 20 t
def eqA (P : Program) (t : TypeId) (x y : AV) : Option (Prop × Bool) :=
 match x, y with
 | .pv (.bool a), .pv (.bool b) => match P.underlying t with | some .bool => some (True, a == b) | _ => none
 | .pv .nilp, .pv .nilp => if tptr P t then some (True, true) else none
 | .pv .nilp, .ptr _ _ => if tptr P t then some (True, false) else none
 | .ptr _ _, .pv .nilp => if tptr P t then some (True, false) else none
 | .pptr _ _, .pv .nilp => if tptr P t then some (True, false) else none
 | .agg xs, .agg ys => match eqOk P t, zeB xs, zeB ys, ze1 xs ys with
  | some ks, some ka, some kb, some r => if ks = ka ∧ ks = kb ∧ tagg P t = some true then some (True, r) else none
  | _, _, _, _ => none
 | _, _ => none
def bin (P : Program) (op : BinOp) (t : TypeId) (x y : AV) : Option (Prop × AV) :=
 match x, y with
 | .pv (.int k a), .pv (.int k' b) => match op with
  | .shl => some (0 ≤ b, .pv (.int k (k.wrap (a * 2 ^ (min b.toNat k.bits)))))
  | .shr => some (0 ≤ b, .pv (.int k (a.fdiv (2 ^ (min b.toNat k.bits)))))
  | _ => if k = k' then zo7 op k a b else none
 | .pv (.str a), .pv (.str b) => zsW op a b
 | _, _ => match op with
  | .eql => (eqA P t x y).map fun r => (r.1, .pv (.bool r.2))
  | .neq => (eqA P t x y).map fun r => (r.1, .pv (.bool !r.2))
  | _ => none
def zff : Operand → Bool
 | .const (.slice none 0 0) => true
 | _ => false
def zpg (x : AV) : Option (Prop × Bool) :=
 match x with
 | .pv .nils => some (True, true)
 | .pv (.nnl _ _) => some (True, false)
 | .pv (.slc n _ cs) => some (cs ≠ [] ∧ 0 < n, false)
 | _ => none
def zjQ (P : Program) (op : BinOp) (t : TypeId) (x : AV) : Option (Prop × AV) :=
 if tslc P t then match op with
  | .eql => (zpg x).map fun r => (r.1, .pv (.bool r.2))
  | .neq => (zpg x).map fun r => (r.1, .pv (.bool !r.2))
  | _ => none
 else none
def un (op : UnOp) (x : AV) : Option AV :=
 match op, x with
 | .neg, .pv (.int k n) => some (.pv (.int k (k.wrap (0 - n))))
 | .xor, .pv (.int k n) => some (.pv (.int k (k.wrap (BitVec.ofInt k.bits (if k.signed then -1 else k.max) ^^^ BitVec.ofInt k.bits n).toNat)))
 | .not, .pv (.bool b) => some (.pv (.bool !b))
 | _, _ => none
def zba : List PV → Option (List UInt8)
 | [] => some []
 | .int .u8 n :: ps => (zba ps).map (UInt8.ofNat n.toNat :: ·)
 | _ => none
def conv (P : Program) (src dst : TypeId) (x : AV) : Option (Prop × AV) :=
 match x with
 | .pv (.int _ n) => match tint P dst with
  | some k => some (True, .pv (.int k (k.wrap n)))
  | none => none
 | .pv (.str s) => if tstr P src && tstr P dst then some (True, .pv (.str s)) else none
 | _ => none
def mm (lt : Int → Int → Bool) : AV → AV → Option AV
 | .pv (.int k x), .pv (.int k' y) => if k = k' then some (.pv (.int k (if lt y x then y else x))) else none
 | _, _ => none
def ziQ (lt : Int → Int → Bool) : AV → List AV → Option AV
 | a, [] => some a
 | a, b :: bs => match mm lt a b with
  | some r => ziQ lt r bs
  | none => none
def intA : Option AV → Option Int
 | some (.pv (.int _ n)) => some n
 | _ => none
def evs (ev : Operand → Option AV) : List Operand → Option (List AV)
 | [] => some []
 | x :: xs => match ev x, evs ev xs with
  | some a, some as => some (a :: as)
  | _, _ => none
def zat : List AV → Nat → List AV → List AV
 | cs, _, [] => cs
 | cs, i, v :: vs => zat (cs.set i v) (i + 1) vs
def zlr : List PV → Nat → List PV → List PV
 | cs, _, [] => cs
 | cs, i, v :: vs => zlr (cs.set i v) (i + 1) vs
def told : AV → Bool
 | .agg _ => true
 | v => one v
def zeZ (place : Nat → Option (Nat × Nat)) : List AV → List (Nat × AV) → Option (List AV)
 | cs, [] => some cs
 | cs, (i, v) :: r => match place i with
  | some (off, s) => if told v = true ∧ (zam v).length = s ∧ off + s ≤ cs.length then zeZ place (zat cs off (zam v)) r else none
  | none => none
def places (P : Program) (fs : Array Field) (i : Nat) : Option (Nat × Nat) := match fs[i]? with
 | some f => (tsz P f.type).map fun s => (f.offset, s)
 | none => none
def zbY (ev : Operand → Option AV) : List (Nat × Operand) → Option (List (Nat × AV))
 | [] => some []
 | (i, x) :: r => match ev x, zbY ev r with
  | some v, some vs => some ((i, v) :: vs)
  | _, _ => none
def zlM (P : Program) (t : TypeId) : Bool := match P.underlying t with
 | some (.struct fs) => fs.toList.all fun f => (tsz P f.type).isSome
 | _ => true
def znM (P : Program) (t : TypeId) (ps : List (Nat × AV)) : Option AV :=
 match zbZ P t, P.underlying t with
 | some zs, some (.struct fs) => (zeZ (places P fs) (zs.map .pv) ps).map .agg
 | some zs, some (.array _ e) => match tsz P e with
  | some s => (zeZ (fun i => some (i * s, s)) (zs.map .pv) ps).map .agg
  | none => none
 | _, _ => none
def zaK (zs : List PV) : Nat → List PV
 | 0 => []
 | n + 1 => zs ++ zaK zs n
def zha (P : Program) (t : TypeId) (x : AV) (i : Int) : Option (Prop × AV) :=
 match x with
 | .pv (.slc n _ cs) => match za1 P t with
  | some e => match tsz P e with
   | some s => some (0 ≤ i ∧ i < n ∧ cs ≠ [], .pptr cs (i.toNat * s))
   | none => none
  | none => none
 | .ref id sz off n => match za1 P t with
  | some e => if tsz P e = some sz then some (0 ≤ i ∧ i < n, .ptr id ((off + i.toNat) * sz)) else none
  | none => none
 | .view id off n => match za1 P t with
  | some e => match tsz P e with
   | some s => some (0 ≤ i ∧ i < n, .ptr id (off + i.toNat * s))
   | none => none
  | none => none
 | .ptr id off => match tarr P t with
  | some (n, e) => match tsz P e with
   | some s => some (0 ≤ i ∧ i < n, .ptr id (off + i.toNat * s))
   | none => none
  | none => none
 | .pptr cs off => match tarr P t with
  | some (n, e) => match tsz P e with
   | some s => some (0 ≤ i ∧ i < n, .pptr cs (off + i.toNat * s))
   | none => none
  | none => none
 | _ => none
def zkk (P : Program) (t : TypeId) (x : AV) (i : Int) : Option (Prop × AV) :=
 match x with
 | .pv (.str s) => if tstr P t then some (0 ≤ i ∧ i < s.length, .pv (.int .u8 (s.getD i.toNat 0).toNat)) else none
 | .agg cs => match tarr P t with
  | some (n, e) => match tsz P e with
   | some s => match zdn P e cs (i.toNat * s) with
    | some (c, v) => some (c ∧ 0 ≤ i ∧ i < n, v)
    | none => none
   | none => none
  | none => none
 | _ => none
def zjX (P : Program) (t : TypeId) (x : AV) (lo hi mx : Option Int) : Option (Prop × AV) :=
 match x with
 | .pv (.str s) => if tstr P t ∧ mx = none then
   some (0 ≤ lo.getD 0 ∧ lo.getD 0 ≤ hi.getD s.length ∧ hi.getD s.length ≤ s.length, .pv (.str ((s.drop (lo.getD 0).toNat).take ((hi.getD s.length).toNat - (lo.getD 0).toNat)))) else none
 | .pv (.slc n full cs) => match za1 P t with
  | some e => match tsz P e with
   | some sz => let l := lo.getD 0
    let h := hi.getD n
    let cs' := (cs.drop (l.toNat * sz)).take ((h.toNat - l.toNat) * sz)
    match mx with
    | none => some (0 ≤ l ∧ l ≤ h ∧ h ≤ n, .pv (.slc (h.toNat - l.toNat) (full && decide (h = n)) cs'))
    | some m => some (0 ≤ l ∧ l ≤ h ∧ h ≤ m ∧ m ≤ n ∧ hi ≠ none, .pv (.slc (h.toNat - l.toNat) (decide (h = m)) cs'))
   | none => none
  | none => none
 | .ref id sz off n => match za1 P t with
  | some e => if tsz P e = some sz ∧ mx = none then
    let l := lo.getD 0
    let h := hi.getD n
    some (0 ≤ l ∧ l ≤ h ∧ h ≤ n, .ref id sz (off + l.toNat) (h.toNat - l.toNat)) else none
  | none => none
 | .ptr id off => match tarr P t with
  | some (n, e) => match tsz P e with
   | some sz => if mx = none then
    let l := lo.getD 0
    let h := hi.getD n
    some (0 ≤ l ∧ l ≤ h ∧ h ≤ n ∧ n ≤ maxLen, .view id (off + l.toNat * sz) (h.toNat - l.toNat)) else none
   | none => none
  | none => none
 | _ => none
def optI (ev : Operand → Option AV) : Option Operand → Option (Option Int)
 | none => some none
 | some x => (intA (ev x)).map some
def lenA (P : Program) (t : TypeId) : AV → Option Int
 | .pv (.str s) => if tstr P t then some s.length else none
 | .pv (.slc n _ _) => if tslc P t then some n else none
 | .ref _ _ _ n => if tslc P t then some n else none
 | .view _ _ n => if tslc P t then some n else none
 | .agg _ => (tarr P t).map fun r => (r.1 : Int)
 | _ => none
def zaU (H : Heap) : AV → Option (Nat × List PV)
 | .pv (.slc n _ cs) => some (n, cs)
 | .pv (.nnl n cs) => some (n, cs)
 | .pv (.str s) => some (s.length, s.map fun b => .int .u8 b.toNat)
 | .ref id sz off n => match hget H id with
  | some (.row _ sz' cs) => if sz' = sz then some (n, (cs.drop (off * sz)).take (n * sz)) else none
  | _ => none
 | .view id off n => match hget H id with
  | some (.box cs) => (pvs ((cs.drop off).take n)).map fun ps => (n, ps)
  | _ => none
 | _ => none
def zaW : Nat := 16777216
def zcT (P : Program) (H : Heap) (nx : Nat) (b : Builtin) (ts : List TypeId) (vs : List AV) : Option (Prop × AV × Option VObj) :=
 match b, ts, vs with
 | .len, t :: _, [v] => (lenA P t v).map fun n => (True, .pv (.int .i64 n), none)
 | .min, _, v :: r => (ziQ (fun a b => decide (a < b)) v r).map fun x => (True, x, none)
 | .max, _, v :: r => (ziQ (fun a b => decide (b < a)) v r).map fun x => (True, x, none)
 | .append, [t, u], [.pv (.slc n true cs), x] => match za1 P t, zaU H x with
  | some e, some (m, new) => match tsz P e, zcy P e, zbZ P e with
   | some sz, some by', some zs => if tsub P u e = true then
     some (0 < sz ∧ zs.length = sz ∧ cs.length = n * sz ∧ new.length = m * sz ∧ (n = 0 ∨ 0 < m) ∧ n + m ≤ zaW ∧ by' ≤ 1024, .ref nx sz 0 (n + m), some (.row e sz (cs ++ new))) else none
   | _, _, _ => none
  | _, _ => none
 | _, _, _ => none
def zcv (P : Program) (ev : Operand → Option AV) (H : Heap) (nx : Nat) (op : Op) (ty : TypeId) : Option (Prop × AV × Option VObj) :=
 let plain (r : Option (Prop × AV)) : Option (Prop × AV × Option VObj) := r.map fun x => (x.1, x.2, none)
 match op with
 | .move x => (ev x).map fun v => (True, v, none)
 | .assign x => match zff x with
  | true => match za1 P ty with
   | some e => match tsz P e with
    | some sz => some (True, .ref nx sz 0 0, some (.row e sz []))
    | none => none
   | none => none
  | false => (ev x).map fun v => (True, v, none)
 | .pick c a b => match ev c with
  | some (.pv (.bool t)) => (if t then ev a else ev b).map fun v => (True, v, none)
  | _ => none
 | .alloc t => (zbZ P t).map fun zs => (True, .ptr nx 0, some (.box (zs.map .pv)))
 | .box _ x => match ev x with
  | some v => if told v = true ∧ (zam v).all one = true then some (True, .ptr nx 0, some (.box (zam v))) else none
  | none => none
 | .build t parts => match zbY ev parts.toList with
  | some ps => if zlM P t = true then (znM P t ps).map fun v => (True, v, none) else none
  | none => none
 | .buildSlice t len parts => if (decide (len = 0) && parts.isEmpty) = true then
   match za1 P t with
   | some e => match tsz P e, zbZ P e with
    | some sz, some zs => some (0 < sz ∧ zs.length = sz, .pv (.slc 0 true []), none)
    | _, _ => none
   | none => none
  else match za1 P t, zbY ev parts.toList with
  | some e, some ps => match tsz P e, zbZ P e with
   | some sz, some zs => match zeZ (fun i => some (i * sz, sz)) ((zaK zs len).map .pv) ps with
    | some cs => match pvs cs with
     | some qs => some (0 < sz ∧ zs.length = sz ∧ len * sz ≤ 16777216, .ref nx sz 0 len, some (.row e sz qs))
     | none => some (0 < sz ∧ zs.length = sz ∧ len * sz ≤ 16777216, .view nx 0 len, some (.box cs))
    | none => none
   | _, _ => none
  | _, _ => none
 | .load t a => match ev a with
  | some (.ptr id off) => match hget H id with
   | some (.box cs) => plain (zdn P t cs off)
   | some (.row _ _ cs) => plain (zgt P t cs off)
   | _ => none
  | some (.pptr cs off) => plain (zgt P t cs off)
  | _ => none
 | .nilCheck x => match ev x with
  | some (.ptr id off) => some (True, .ptr id off, none)
  | some (.pptr cs off) => some (True, .pptr cs off, none)
  | some (.fnc f cs) => some (True, .fnc f cs, none)
  | _ => none
 | .binOp o t x y _ => match zff y with
  | true => match ev x with
   | some a => plain (zjQ P o t a)
   | none => none
  | false => match ev x, ev y with
   | some a, some b => plain (bin P o t a b)
   | _, _ => none
 | .unOp o _ x => match ev x with
  | some a => (un o a).map fun v => (True, v, none)
  | none => none
 | .convert s d x => match ev x with
  | some (.pv (.slc n _ cs)) => if tstr P d = true ∧ zlo P s = true then
    match zba cs with
    | some bs => some (cs.length = n, .pv (.str bs), none)
    | none => none
   else none
  | some (.ref id sz off n) => if tstr P d = true ∧ zlo P s = true ∧ sz = 1 then
    match zaU H (.ref id sz off n) with
    | some (m, cs) => match zba cs with
     | some bs => some (cs.length = m, .pv (.str bs), none)
     | none => none
    | none => none
   else none
  | some a => if (P.underlying s).isSome = true then plain (conv P s d a) else none
  | none => none
 | .makeFunc (.func f) first caps => if first.size = 0 then (evs ev caps.toList).map fun vs => (True, .fnc f vs, none) else match evs ev first.toList, evs ev caps.toList with
  | some us, some vs => some (True, .bnd f us.length (us ++ vs), none)
  | _, _ => none
 | .fieldAddr t x f => match ev x, tfld P t f with
  | some (.ptr id o), some (off, ft) => match tsz P ft with
   | some s => some (s ≠ 0, .ptr id (o + off), none)
   | none => none
  | some (.pptr cs o), some (off, ft) => match tsz P ft with
   | some s => some (s ≠ 0, .pptr cs (o + off), none)
   | none => none
  | _, _ => none
 | .field t x f => match ev x, tfld P t f with
  | some (.agg cs), some (off, ft) => plain (zdn P ft cs off)
  | _, _ => none
 | .indexAddr t x i => match ev x, intA (ev i) with
  | some a, some n => plain (zha P t a n)
  | _, _ => none
 | .index t x i => match ev x, intA (ev i) with
  | some a, some n => plain (zkk P t a n)
  | _, _ => none
 | .slice t x lo hi mx => match ev x, optI ev lo, optI ev hi, optI ev mx with
  | some a, some l, some h, some m => plain (zjX P t a l h m)
  | _, _, _, _ => none
 | .sliceToArrayPointer t x => match ev x, tarr P t with
  | some (.pv (.slc n _ cs)), some (m, _) => some (m ≤ n ∧ cs ≠ [], .pptr cs 0, none)
  | _, _ => none
 | .makeSlice t l c => match za1 P t, intA (ev l), intA (ev c) with
  | some e, some n, some m => match tsz P e, zcy P e, zbZ P e with
   | some sz, some by', some zs => some (n = m ∧ 0 ≤ n ∧ n ≤ 4611686018427387904 ∧ (by' : Int) * n ≤ 281474976710656 ∧ 0 < sz ∧ zs.length = sz, .ref nx sz 0 n.toNat, some (.row e sz (zaK zs n.toNat)))
   | _, _, _ => none
  | _, _, _ => none
 | .makeMap t none => match tmap P t with
  | some _ => some (True, .mapr nx, some (.mp []))
  | none => none
 | .lookup t x k false => match ev x, ev k with
  | some (.mapr id), some kv => match hget H id with
   | some (.mp es) => plain (zoR P t es kv)
   | _ => none
  | _, _ => none
 | .extract x k => match ev x with
  | some (.tup vs) => match vs[k]? with
   | some v => some (True, v, none)
   | none => none
  | _ => none
 | .call c => match c.callee with
  | .builtin b => match evs ev c.args.toList with
   | some vs => zcT P H nx b c.argTypes.toList vs
   | none => none
  | _ => none
 | _ => none
def zem (o : VObj) (off : Nat) (vs : List AV) : Option (Prop × VObj) :=
 match o with
 | .box cs => some (off + vs.length ≤ cs.length, .box (zat cs off vs))
 | .row e sz cs => match pvs vs with
  | some ps => some (off + vs.length ≤ cs.length, .row e sz (zlr cs off ps))
  | none => none
 | .mp _ => none
 | .arow _ _ _ => none
def zez (P : Program) (ev : Operand → Option AV) (H : Heap) (op : Op) : Option (Prop × Option AV × Heap × Option Nat) :=
 match op with
 | .store t a x => match ev a, ev x, tsz P t with
  | some (.ptr id off), some v, some s => if told v = true ∧ (zam v).all one = true ∧ (zam v).length = s then
    match hget H id with
    | some o => match zem o off (zam v) with
     | some (c, o') => some (c, none, hset H id o', none)
     | none => none
    | none => none
   else none
  | _, _, _ => none
 | .call c => match c.callee with
  | .builtin .append => match evs ev c.args.toList, c.argTypes.toList with
   | some [.ref id sz off n, x], [t, u] => match hget H id, zaU H x, za1 P t with
    | some (.row e sz' cs), some (m, new), some e' => match tsz P e, zcy P e, zbZ P e with
     | some sz2, some by', some zs => if e' = e ∧ sz' = sz ∧ sz2 = sz ∧ off = 0 ∧ tsub P u e = true then
       some (0 < sz ∧ zs.length = sz ∧ cs.length = n * sz ∧ new.length = m * sz ∧ n + m ≤ zaW ∧ by' ≤ 1024,
        some (.ref id sz 0 (n + m)), hset H id (.row e sz (cs ++ new)), some id) else none
     | _, _, _ => none
    | _, _, _ => none
   | _, _ => none
  | _ => none
 | _ => none
end Go.Proofs.YtppnccjeggnllaaGreatVm

import Derived.Test.YtppnccjeggnllaaGreatVmZB
namespace Go.Proofs.YtppnccjeggnllaaGreatVm
open Go Go.RowKit
set_option linter.all false
def zeR (P : Program) (t : TypeId) (len off : Nat) : Bool := match tagg P t, tsz P t with
  | some true, some s => Nat.ble (off + s) len
  | some false, some _ => true
  | _, _ => false
section
variable {P : Program} {t : TypeId} {off : Nat} {c : Prop} {v : AV}
theorem zkx {cs : List AV} (h : zdn P t cs off = some (c, v)) (hb : zeR P t cs.length off = true) : c := by
  unfold zdn at h
  unfold zeR at hb
  split at h
  · rename_i s h1 h2
    rw [h1, h2] at hb
    obtain ⟨rfl, _⟩ := z9 h
    exact Nat.le_of_ble_eq_true hb
  · rename_i s h1 h2
    split at h
    · obtain ⟨rfl, _⟩ := z9 h; trivial
    · cases h
  · cases h
theorem zrd {cs : List PV} (h : zgt P t cs off = some (c, v)) (hb : zeR P t cs.length off = true) : c := by
  unfold zgt at h
  unfold zeR at hb
  split at h
  · rename_i s h1 h2
    rw [h1, h2] at hb
    obtain ⟨rfl, _⟩ := z9 h
    exact Nat.le_of_ble_eq_true hb
  · rename_i s h1 h2
    split at h
    · obtain ⟨rfl, _⟩ := z9 h; trivial
    · cases h
  · cases h
end
def zp4 (op : BinOp) (b : Int) : Bool := match op with
  | .quo => decide (b ≠ 0)
  | .rem => decide (b ≠ 0)
  | _ => true
def binB (op : BinOp) (x y : AV) : Bool := match x, y with
  | .pv (.int _ _), .pv (.int _ b) => match op with
    | .shl => decide (0 ≤ b)
    | .shr => decide (0 ≤ b)
    | _ => zp4 op b
  | .pv (.str a), .pv (.str b) => match op with
    | .add => Nat.ble (a.length + b.length) maxLen
    | _ => true
  | _, _ => true
theorem zrU {op : BinOp} {k : IntKind} {a b : Int} {c : Prop} {v : AV} (h : zo7 op k a b = some (c, v)) (hb : zp4 op b = true) : c := by
  unfold zo7 at h
  unfold zp4 at hb
  cases op <;> simp only [reduceCtorEq] at h hb <;> first | (obtain ⟨rfl, _⟩ := z9 h; first | trivial | exact of_decide_eq_true hb) | cases h
theorem zvc {P : Program} {t : TypeId} {x y : AV} {c : Prop} {r : Bool} (h : eqA P t x y = some (c, r)) : c := by
  unfold eqA at h
  repeat' split at h
  all_goals first | (cases h; done) | (obtain ⟨rfl, _⟩ := z9 h; trivial)
theorem zue {P : Program} {op : BinOp} {t : TypeId} {x y : AV} {c : Prop} {v : AV} (h : bin P op t x y = some (c, v)) (hb : binB op x y = true) : c := by
  unfold bin at h
  unfold binB at hb
  split at h
  · rename_i k a k' b
    split at h
    · obtain ⟨rfl, _⟩ := z9 h; exact of_decide_eq_true hb
    · obtain ⟨rfl, _⟩ := z9 h; exact of_decide_eq_true hb
    · rename_i h1 h2
      split at h
      · refine zrU h ?_
        cases op <;> first | exact hb | exact absurd rfl h1 | exact absurd rfl h2
      · cases h
  · rename_i a b
    unfold zsW at h
    cases op <;> simp only [reduceCtorEq] at h hb <;> first | (obtain ⟨rfl, _⟩ := z9 h; first | trivial | exact Nat.le_of_ble_eq_true hb) | cases h
  · split at h
    · simp only [Option.map_eq_some_iff] at h
      obtain ⟨⟨c1, r⟩, h1, h2⟩ := h
      obtain ⟨rfl, _⟩ := z9 (congrArg some h2)
      exact zvc h1
    · simp only [Option.map_eq_some_iff] at h
      obtain ⟨⟨c1, r⟩, h1, h2⟩ := h
      obtain ⟨rfl, _⟩ := z9 (congrArg some h2)
      exact zvc h1
    · cases h
def inB (i : Int) (n : Nat) : Bool := decide (0 ≤ i) && decide (i < n)
def zi4 (P : Program) (t : TypeId) (x : AV) (i : Int) : Bool := match x with
  | .pv (.slc n _ cs) => inB i n && !cs.isEmpty
  | .ref _ _ _ n => inB i n
  | .view _ _ n => inB i n
  | .ptr _ _ => match tarr P t with | some (n, _) => inB i n | none => false
  | .pptr _ _ => match tarr P t with | some (n, _) => inB i n | none => false
  | _ => false
theorem zhY {i : Int} {n : Nat} (h : inB i n = true) : 0 ≤ i ∧ i < n := by
  unfold inB at h
  simp only [Bool.and_eq_true, decide_eq_true_eq] at h
  exact h
theorem zjm {α : Type} {l : List α} (h : (!l.isEmpty) = true) : l ≠ [] := by
  intro e; subst e; cases h
theorem zoX {P : Program} {t : TypeId} {x : AV} {i : Int} {c : Prop} {v : AV} (h : zha P t x i = some (c, v)) (hb : zi4 P t x i = true) : c := by
  unfold zha at h
  unfold zi4 at hb
  split at h
  · simp only [Bool.and_eq_true] at hb
    repeat' split at h
    all_goals first | (cases h; done) | (obtain ⟨rfl, _⟩ := z9 h; exact ⟨(zhY hb.1).1, (zhY hb.1).2, zjm hb.2⟩)
  · repeat' split at h
    all_goals first | (cases h; done) | (obtain ⟨rfl, _⟩ := z9 h; exact zhY hb)
  · repeat' split at h
    all_goals first | (cases h; done) | (obtain ⟨rfl, _⟩ := z9 h; exact zhY hb)
  · split at h
    case h_2 => cases h
    rename_i n e h1
    simp only [h1] at hb
    split at h
    case h_2 => cases h
    obtain ⟨rfl, _⟩ := z9 h; exact zhY hb
  · split at h
    case h_2 => cases h
    rename_i n e h1
    simp only [h1] at hb
    split at h
    case h_2 => cases h
    obtain ⟨rfl, _⟩ := z9 h; exact zhY hb
  · cases h
def zlj (P : Program) (t : TypeId) (x : AV) (i : Int) : Bool := match x with
  | .pv (.str s) => inB i s.length
  | .agg cs => match tarr P t with
    | some (n, e) => match tsz P e with
      | some s => zeR P e cs.length (i.toNat * s) && inB i n
      | none => false
    | none => false
  | _ => false
theorem zoW {P : Program} {t : TypeId} {x : AV} {i : Int} {c : Prop} {v : AV} (h : zkk P t x i = some (c, v)) (hb : zlj P t x i = true) : c := by
  unfold zkk at h
  unfold zlj at hb
  split at h
  · split at h
    · obtain ⟨rfl, _⟩ := z9 h; exact zhY hb
    · cases h
  · split at h
    case h_2 => cases h
    rename_i n e h1
    split at h
    case h_2 => cases h
    rename_i s h2
    simp only [h1, h2, Bool.and_eq_true] at hb
    split at h
    case h_2 => cases h
    rename_i c1 v1 h3
    obtain ⟨rfl, _⟩ := z9 h
    exact ⟨zkx h3 hb.1, zhY hb.2⟩
  · cases h
def znN (P : Program) (t : TypeId) (x : AV) (lo hi mx : Option Int) : Bool := match x with
  | .pv (.str s) => decide (0 ≤ lo.getD 0) && decide (lo.getD 0 ≤ hi.getD s.length) && decide (hi.getD s.length ≤ s.length)
  | .pv (.slc n _ _) => match mx with
    | none => decide (0 ≤ lo.getD 0) && decide (lo.getD 0 ≤ hi.getD n) && decide (hi.getD n ≤ n)
    | some m => decide (0 ≤ lo.getD 0) && decide (lo.getD 0 ≤ hi.getD n) && decide (hi.getD n ≤ m) && decide (m ≤ n) && hi.isSome
  | .ref _ _ _ n => decide (0 ≤ lo.getD 0) && decide (lo.getD 0 ≤ hi.getD n) && decide (hi.getD n ≤ n)
  | .ptr _ _ => match tarr P t with
    | some (n, _) => decide (0 ≤ lo.getD 0) && decide (lo.getD 0 ≤ hi.getD n) && decide (hi.getD n ≤ n) && Nat.ble n maxLen
    | none => false
  | _ => false
theorem zqk {P : Program} {t : TypeId} {x : AV} {lo hi mx : Option Int} {c : Prop} {v : AV} (h : zjX P t x lo hi mx = some (c, v)) (hb : znN P t x lo hi mx = true) : c := by
  unfold zjX at h
  unfold znN at hb
  split at h
  · simp only [Bool.and_eq_true, decide_eq_true_eq] at hb
    split at h
    · obtain ⟨rfl, _⟩ := z9 h; exact ⟨hb.1.1, hb.1.2, hb.2⟩
    · cases h
  · split at h
    case h_2 => cases h
    split at h
    case h_2 => cases h
    split at h
    · simp only [Bool.and_eq_true, decide_eq_true_eq] at hb
      obtain ⟨rfl, _⟩ := z9 h; exact ⟨hb.1.1, hb.1.2, hb.2⟩
    · simp only [Bool.and_eq_true, decide_eq_true_eq] at hb
      obtain ⟨rfl, _⟩ := z9 h
      refine ⟨hb.1.1.1.1, hb.1.1.1.2, hb.1.1.2, hb.1.2, fun e => ?_⟩
      rw [e] at hb; cases hb.2
  · simp only [Bool.and_eq_true, decide_eq_true_eq] at hb
    split at h
    case h_2 => cases h
    split at h
    · obtain ⟨rfl, _⟩ := z9 h; exact ⟨hb.1.1, hb.1.2, hb.2⟩
    · cases h
  · split at h
    case h_2 => cases h
    rename_i n e h1
    simp only [h1, Bool.and_eq_true, decide_eq_true_eq] at hb
    split at h
    case h_2 => cases h
    split at h
    · obtain ⟨rfl, _⟩ := z9 h; exact ⟨hb.1.1.1, hb.1.1.2, hb.1.2, Nat.le_of_ble_eq_true hb.2⟩
    · cases h
  · cases h
def zph (P : Program) (H : Heap) (ts : List TypeId) (vs : List AV) : Bool := match ts, vs with
  | [t, _], [.pv (.slc n true cs), x] => match za1 P t, zaU H x with
    | some e, some (m, new) => match tsz P e, zcy P e, zbZ P e with
      | some sz, some by', some zs => Nat.ble 1 sz && Nat.beq zs.length sz && Nat.beq cs.length (n * sz) && Nat.beq new.length (m * sz) && (Nat.beq n 0 || Nat.ble 1 m) && Nat.ble (n + m) zaW && Nat.ble by' 1024
      | _, _, _ => false
    | _, _ => false
  | _, _ => false
theorem zsC {P : Program} {H : Heap} {nx : Nat} {ts : List TypeId} {vs : List AV} {c : Prop} {v : AV} {new : Option VObj} (hb : zph P H ts vs = true) (h : zcT P H nx .append ts vs = some (c, v, new)) : c := by
  unfold zcT at h
  unfold zph at hb
  split at h
  · contradiction
  · contradiction
  · contradiction
  · rename_i t u n cs x _
    simp only at hb
    split at h
    case h_2 => cases h
    rename_i e m nw h1 h2
    rw [h1, h2] at hb
    simp only at hb
    split at h
    case h_2 => cases h
    rename_i sz by' zs h3 h4 h5
    rw [h3, h4, h5] at hb
    simp only [Bool.and_eq_true, Bool.or_eq_true] at hb
    split at h
    case isFalse => cases h
    obtain ⟨rfl, _⟩ := inj3 h
    obtain ⟨⟨⟨⟨⟨⟨g1, g2⟩, g3⟩, g4⟩, g5⟩, g6⟩, g7⟩ := hb
    exact ⟨Nat.le_of_ble_eq_true g1, Nat.eq_of_beq_eq_true g2, Nat.eq_of_beq_eq_true g3, Nat.eq_of_beq_eq_true g4, g5.imp Nat.eq_of_beq_eq_true Nat.le_of_ble_eq_true, Nat.le_of_ble_eq_true g6, Nat.le_of_ble_eq_true g7⟩
  · cases h
def zsn (P : Program) (ev : Operand → Option AV) (H : Heap) (op : Op) : Bool := match op with
  | .buildSlice t len parts => match za1 P t with
    | some e => match tsz P e, zbZ P e with
      | some sz, some zs => Nat.ble 1 sz && Nat.beq zs.length sz && ((decide (len = 0) && parts.isEmpty) || (Nat.ble (len * sz) 16777216 && match zbY ev parts.toList with
        | some ps => match zeZ (fun i => some (i * sz, sz)) ((zaK zs len).map .pv) ps with
          | some cs => (pvs cs).isSome
          | none => false
        | none => false))
      | _, _ => false
    | none => false
  | .load t a => match ev a with
    | some (.ptr id off) => match hget H id with
      | some (.box cs) => zeR P t cs.length off
      | some (.row _ _ cs) => zeR P t cs.length off
      | _ => false
    | some (.pptr cs off) => zeR P t cs.length off
    | _ => false
  | .binOp o t x y _ => match zff y with
    | true => match ev x with
      | some (.pv .nils) => true
      | some (.pv (.nnl _ _)) => true
      | some (.pv (.slc n _ cs)) => !cs.isEmpty && Nat.ble 1 n
      | _ => false
    | false => match ev x, ev y with
      | some a, some b => binB o a b
      | _, _ => false
  | .convert s d x => match ev x with
    | some (.pv (.slc n _ cs)) => Nat.beq cs.length n
    | some (.ref id sz off n) => match zaU H (.ref id sz off n) with
      | some (m, cs) => Nat.beq cs.length m
      | none => false
    | some (.pv (.int _ _)) => true
    | some (.pv (.str _)) => true
    | _ => false
  | .fieldAddr t x f => match tfld P t f with
    | some (_, ft) => match tsz P ft with
      | some s => !(Nat.beq s 0)
      | none => false
    | none => false
  | .field t x f => match ev x, tfld P t f with
    | some (.agg cs), some (off, ft) => zeR P ft cs.length off
    | _, _ => false
  | .indexAddr t x i => match ev x, intA (ev i) with
    | some a, some n => zi4 P t a n
    | _, _ => false
  | .index t x i => match ev x, intA (ev i) with
    | some a, some n => zlj P t a n
    | _, _ => false
  | .slice t x lo hi mx => match ev x, optI ev lo, optI ev hi, optI ev mx with
    | some a, some l, some h, some m => znN P t a l h m
    | _, _, _, _ => false
  | .sliceToArrayPointer t x => match ev x, tarr P t with
    | some (.pv (.slc n _ cs)), some (m, _) => Nat.ble m n && !cs.isEmpty
    | _, _ => false
  | .makeSlice t l c => match za1 P t, intA (ev l), intA (ev c) with
    | some e, some n, some m => match tsz P e, zcy P e, zbZ P e with
      | some sz, some by', some zs => decide (n = m) && decide (0 ≤ n) && decide (n ≤ 4611686018427387904) && decide ((by' : Int) * n ≤ 281474976710656) && Nat.ble 1 sz && Nat.beq zs.length sz
      | _, _, _ => false
    | _, _, _ => false
  | .call c => match c.callee with
    | .builtin b => match b with
      | .len => true
      | .min => true
      | .max => true
      | .append => match evs ev c.args.toList with
        | some vs => zph P H c.argTypes.toList vs
        | none => false
      | _ => false
    | _ => false
  | .move _ => true
  | .assign _ => true
  | .pick _ _ _ => true
  | .alloc _ => true
  | .box _ _ => true
  | .build _ _ => true
  | .nilCheck _ => true
  | .unOp _ _ _ => true
  | .makeFunc _ _ _ => true
  | .makeMap _ _ => true
  | .lookup _ _ _ _ => true
  | .extract _ _ => true
  | _ => false
theorem zfK {r : Option (Prop × AV)} {c : Prop} {v : AV} {new : Option VObj} (h : (r.map fun x => (x.1, x.2, (none : Option VObj))) = some (c, v, new)) : r = some (c, v) := (zcY h).1
theorem mapT {α : Type} {r : Option α} {f : α → AV × Option VObj} {c : Prop} {v : AV} {new : Option VObj} (h : (r.map fun x => (True, f x)) = some (c, v, new)) : c := by
  cases r with
  | none => cases h
  | some x => simp only [Option.map_some, Option.some.injEq, Prod.mk.injEq] at h; rw [← h.1]; trivial
theorem zus {P : Program} {t : TypeId} {es : List (DV × DV)} {k : AV} {c : Prop} {v : AV} (h : zoR P t es k = some (c, v)) : c := by
  unfold zoR at h
  repeat' split at h
  all_goals first | (cases h; done) | (obtain ⟨rfl, _⟩ := z9 h; trivial)
theorem zhm {P : Program} {H : Heap} {nx : Nat} {b : Builtin} {ts : List TypeId} {vs : List AV} {c : Prop} {v : AV} {new : Option VObj} (hb : b = .len ∨ b = .min ∨ b = .max) (h : zcT P H nx b ts vs = some (c, v, new)) : c := by
  unfold zcT at h
  split at h
  · exact mapT h
  · exact mapT h
  · exact mapT h
  · rcases hb with h | h | h <;> cases h
  · cases h
theorem zkR {P : Program} {ev : Operand → Option AV} {H : Heap} {nx : Nat} {op : Op} {ty : TypeId} {c : Prop} {v : AV} {new : Option VObj} (h : zcv P ev H nx op ty = some (c, v, new)) (hb : zsn P ev H op = true) : c := by
  cases op <;> simp only [zcv, zsn, Bool.false_eq_true] at h hb
  case move x => exact mapT h
  case assign x =>
    cases hn : zff x with
    | true =>
      rw [hn] at h
      simp only at h
      repeat' split at h
      all_goals first | (cases h; done) | (obtain ⟨rfl, _⟩ := inj3 h; trivial)
    | false => rw [hn] at h; exact mapT h
  case pick => split at h <;> first | exact mapT h | cases h
  case alloc => exact mapT h
  case box => repeat' split at h
              all_goals first | (cases h; done) | (obtain ⟨rfl, _⟩ := inj3 h; trivial)
  case build =>
    split at h
    · split at h
      · exact mapT h
      · cases h
    · cases h
  case buildSlice t len parts =>
    cases he : za1 P t with
    | none => rw [he] at hb; cases hb
    | some e =>
      rw [he] at hb h
      simp only at hb h
      cases q1 : tsz P e with
      | none => rw [q1] at hb; cases hb
      | some sz =>
        cases q2 : zbZ P e with
        | none => rw [q1, q2] at hb; cases hb
        | some zs =>
          rw [q1, q2] at hb h
          simp only [Bool.and_eq_true, Bool.or_eq_true] at hb
          obtain ⟨⟨h1, h2⟩, h3⟩ := hb
          split at h
          · obtain ⟨rfl, _⟩ := inj3 h
            exact ⟨Nat.le_of_ble_eq_true h1, Nat.eq_of_beq_eq_true h2⟩
          · rename_i hne
            rcases h3 with h3 | h3
            · exact absurd (by simpa using h3) hne
            · split at h
              case h_2 => cases h
              rename_i e' ps q3 q4
              cases q3
              split at h
              case h_2 => cases h
              rename_i sz' zs' q5 q6
              rw [q1] at q5; rw [q2] at q6
              cases q5; cases q6
              split at h
              case h_2 => cases h
              split at h
              all_goals (obtain ⟨rfl, _⟩ := inj3 h; exact ⟨Nat.le_of_ble_eq_true h1, Nat.eq_of_beq_eq_true h2, Nat.le_of_ble_eq_true h3.1⟩)
  case load t a =>
    split at h
    · rename_i id off ha
      rw [ha] at hb
      simp only at hb
      split at h
      · rename_i cs hg
        rw [hg] at hb
        exact zkx (zfK h) hb
      · rename_i e sz cs hg
        rw [hg] at hb
        exact zrd (zfK h) hb
      · cases h
    · rename_i cs off ha
      rw [ha] at hb
      exact zrd (zfK h) hb
    · cases h
  case nilCheck => repeat' split at h
                   all_goals first | (cases h; done) | (obtain ⟨rfl, _⟩ := inj3 h; trivial)
  case binOp o t x y z =>
    cases hn : zff y with
    | true =>
      rw [hn] at h hb
      simp only at h hb
      split at h
      case h_2 => cases h
      rename_i a ha
      rw [ha] at hb
      have h1 := zfK h
      unfold zjQ at h1
      split at h1
      case isFalse => cases h1
      have key : ∀ {r : Prop × Bool}, zpg a = some r → r.1 := fun {r} hr => by
        unfold zpg at hr
        split at hr
        · cases hr; trivial
        · cases hr; trivial
        · rename_i n f cs
          cases hr
          simp only [Bool.and_eq_true] at hb
          exact ⟨zjm hb.1, Nat.le_of_ble_eq_true hb.2⟩
        · cases hr
      split at h1
      · simp only [Option.map_eq_some_iff] at h1
        obtain ⟨r, h2, h3⟩ := h1
        obtain ⟨rfl, _⟩ := z9 (congrArg some h3)
        exact key h2
      · simp only [Option.map_eq_some_iff] at h1
        obtain ⟨r, h2, h3⟩ := h1
        obtain ⟨rfl, _⟩ := z9 (congrArg some h3)
        exact key h2
      · cases h1
    | false =>
      rw [hn] at h hb
      simp only at h hb
      split at h
      case h_2 => cases h
      rename_i a b ha hb'
      rw [ha, hb'] at hb
      exact zue (zfK h) hb
  case unOp => split at h <;> first | exact mapT h | cases h
  case convert s d x =>
    split at h
    · rename_i n f cs hx
      rw [hx] at hb
      split at h
      case isFalse => cases h
      split at h
      · obtain ⟨rfl, _⟩ := inj3 h; exact Nat.eq_of_beq_eq_true hb
      · cases h
    · rename_i id sz off n hx
      rw [hx] at hb
      simp only at hb
      split at h
      case isFalse => cases h
      split at h
      case h_2 => cases h
      rename_i m cs hc
      rw [hc] at hb
      split at h
      · obtain ⟨rfl, _⟩ := inj3 h; exact Nat.eq_of_beq_eq_true hb
      · cases h
    · rename_i a hx1 hx2 hx
      rw [hx] at hb
      split at h
      case isFalse => cases h
      have h1 := zfK h
      unfold conv at h1
      repeat' split at h1
      all_goals first | (cases h1; done) | (obtain ⟨rfl, _⟩ := z9 h1; trivial)
    · cases h
  case makeFunc f first caps =>
    cases f <;> simp only at h <;> first | (cases h; done) | skip
    split at h
    · exact mapT h
    · split at h
      · obtain ⟨rfl, _⟩ := inj3 h; trivial
      · cases h
  case fieldAddr t x f =>
    split at h
    · rename_i id o off ft h1 h2
      rw [h2] at hb
      simp only at hb
      split at h
      case h_2 => cases h
      rename_i s hs
      rw [hs] at hb
      obtain ⟨rfl, _⟩ := inj3 h
      intro e; subst e; cases hb
    · rename_i id o off ft h1 h2
      rw [h2] at hb
      simp only at hb
      split at h
      case h_2 => cases h
      rename_i s hs
      rw [hs] at hb
      obtain ⟨rfl, _⟩ := inj3 h
      intro e; subst e; cases hb
    · cases h
  case field t x f =>
    split at h
    case h_2 => cases h
    rename_i cs off ft h1 h2
    rw [h1, h2] at hb
    exact zkx (zfK h) hb
  case indexAddr t x i =>
    split at h
    case h_2 => cases h
    rename_i a n h1 h2
    rw [h1, h2] at hb
    exact zoX (zfK h) hb
  case index t x i =>
    split at h
    case h_2 => cases h
    rename_i a n h1 h2
    rw [h1, h2] at hb
    exact zoW (zfK h) hb
  case slice t x lo hi mx =>
    split at h
    case h_2 => cases h
    rename_i a l h' m h1 h2 h3 h4
    rw [h1, h2, h3, h4] at hb
    exact zqk (zfK h) hb
  case sliceToArrayPointer t x =>
    split at h
    case h_2 => cases h
    rename_i n f cs m e h1 h2
    rw [h1, h2] at hb
    simp only [Bool.and_eq_true] at hb
    obtain ⟨rfl, _⟩ := inj3 h
    exact ⟨Nat.le_of_ble_eq_true hb.1, zjm hb.2⟩
  case makeSlice t l c' =>
    split at h
    case h_2 => cases h
    rename_i e n m h1 h2 h3
    rw [h1, h2, h3] at hb
    simp only at hb
    split at h
    case h_2 => cases h
    rename_i sz by' zs q1 q2 q3
    rw [q1, q2, q3] at hb
    simp only [Bool.and_eq_true, decide_eq_true_eq] at hb
    obtain ⟨rfl, _⟩ := inj3 h
    exact ⟨hb.1.1.1.1.1, hb.1.1.1.1.2, hb.1.1.1.2, hb.1.1.2, Nat.le_of_ble_eq_true hb.1.2, Nat.eq_of_beq_eq_true hb.2⟩
  case makeMap t o =>
    cases o with
    | some _ => cases h
    | none =>
      simp only at h
      split at h
      · obtain ⟨rfl, _⟩ := inj3 h; trivial
      · cases h
  case lookup t x k b =>
    cases b with
    | true => cases h
    | false =>
      simp only at h
      split at h
      · split at h
        · exact zus (zfK h)
        · cases h
      · cases h
  case extract =>
    split at h
    · split at h
      · obtain ⟨rfl, _⟩ := inj3 h; trivial
      · cases h
    · cases h
  case call cl =>
    cases hc : cl.callee with
    | builtin b =>
      rw [hc] at h hb
      simp only at h hb
      split at h
      case h_2 => cases h
      rename_i vs hvs
      cases b <;> simp only [Bool.false_eq_true] at hb <;> first | exact zhm (.inl rfl) h | exact zhm (.inr (.inl rfl)) h | exact zhm (.inr (.inr rfl)) h | skip
      rw [hvs] at hb
      exact zsC hb h
    | _ => rw [hc] at h; cases h
end Go.Proofs.YtppnccjeggnllaaGreatVm
namespace Go.Proofs.YtppnccjeggnllaaGreatVm
open Go Go.RowKit
set_option linter.all false
def memB (x : Nat) : List Nat → Bool
 | [] => false
 | y :: ys => Nat.beq x y || memB x ys
theorem zdi {x : Nat} : ∀ {l : List Nat}, memB x l = true ↔ x ∈ l
 | [] => by simp [memB]
 | y :: ys => by
  simp only [memB, Bool.or_eq_true, List.mem_cons, zdi (l := ys)]
  exact ⟨fun h => h.imp Nat.eq_of_beq_eq_true id, fun h => h.imp (fun e => by subst e; exact Nat.beq_refl _) id⟩
abbrev zvi := FuncId → List AV → List VObj → Option (AV × List VObj × List Nat)
end Go.Proofs.YtppnccjeggnllaaGreatVm
namespace Go.Proofs.YtppnccjeggnllaaGreatVm
open Go Go.RowKit
set_option linter.all false
mutual
def pvB : PV → PV → Bool
 | .int k n, .int k' n' => decide (k = k') && decide (n = n')
 | .bool a, .bool b => a == b
 | .str s, .str t => s == t
 | .slc n f cs, .slc n' f' cs' => Nat.beq n n' && (f == f') && pvLB cs cs'
 | .nils, .nils => true
 | .nnl n cs, .nnl n' cs' => Nat.beq n n' && pvLB cs cs'
 | .nilp, .nilp => true
 | .nilf, .nilf => true
 | .fn f, .fn g => Nat.beq f g
 | _, _ => false
def pvLB : List PV → List PV → Bool
 | [], [] => true
 | a :: as, b :: bs => pvB a b && pvLB as bs
 | _, _ => false
end
mutual
theorem ztE : ∀ {a b : PV}, pvB a b = true → a = b
 | .int k n, b, h => by cases b <;> simp only [pvB, Bool.and_eq_true, decide_eq_true_eq, Bool.false_eq_true] at h; rw [h.1, h.2]
 | .bool a, b, h => by cases b <;> simp only [pvB, beq_iff_eq, Bool.false_eq_true] at h; rw [h]
 | .str s, b, h => by cases b <;> simp only [pvB, beq_iff_eq, Bool.false_eq_true] at h; rw [h]
 | .slc n f cs, b, h => by
  cases b <;> simp only [pvB, Bool.and_eq_true, beq_iff_eq, Bool.false_eq_true] at h
  rw [Nat.eq_of_beq_eq_true h.1.1, h.1.2, zjg h.2]
 | .nils, b, h => by cases b <;> simp only [pvB, Bool.false_eq_true] at h; rfl
 | .nnl n cs, b, h => by
  cases b <;> simp only [pvB, Bool.and_eq_true, Bool.false_eq_true] at h
  rw [Nat.eq_of_beq_eq_true h.1, zjg h.2]
 | .nilp, b, h => by cases b <;> simp only [pvB, Bool.false_eq_true] at h; rfl
 | .nilf, b, h => by cases b <;> simp only [pvB, Bool.false_eq_true] at h; rfl
 | .fn f, b, h => by cases b <;> simp only [pvB, Bool.false_eq_true] at h; rw [Nat.eq_of_beq_eq_true h]
theorem zjg : ∀ {a b : List PV}, pvLB a b = true → a = b
 | [], b, h => by cases b <;> simp only [pvLB, Bool.false_eq_true] at h; rfl
 | a :: as, b, h => by
  cases b <;> simp only [pvLB, Bool.and_eq_true, Bool.false_eq_true] at h
  rw [ztE h.1, zjg h.2]
end
mutual
def avB : AV → AV → Bool
 | .undef, .undef => true
 | .pv p, .pv q => pvB p q
 | .pptr cs o, .pptr cs' o' => pvLB cs cs' && Nat.beq o o'
 | .ptr i o, .ptr i' o' => Nat.beq i i' && Nat.beq o o'
 | .ref i s o n, .ref i' s' o' n' => Nat.beq i i' && Nat.beq s s' && Nat.beq o o' && Nat.beq n n'
 | .view i o n, .view i' o' n' => Nat.beq i i' && Nat.beq o o' && Nat.beq n n'
 | .agg cs, .agg cs' => avLB cs cs'
 | .tup cs, .tup cs' => avLB cs cs'
 | .fnc f cs, .fnc f' cs' => Nat.beq f f' && avLB cs cs'
 | .bnd f q cs, .bnd f' q' cs' => Nat.beq f f' && Nat.beq q q' && avLB cs cs'
 | .mapr i, .mapr j => Nat.beq i j
 | _, _ => false
def avLB : List AV → List AV → Bool
 | [], [] => true
 | a :: as, b :: bs => avB a b && avLB as bs
 | _, _ => false
end
mutual
theorem znX : ∀ {a b : AV}, avB a b = true → a = b
 | .undef, b, h => by cases b <;> simp only [avB, Bool.false_eq_true] at h; rfl
 | .pv p, b, h => by cases b <;> simp only [avB, Bool.false_eq_true] at h; rw [ztE h]
 | .pptr cs o, b, h => by cases b <;> simp only [avB, Bool.and_eq_true, Bool.false_eq_true] at h; rw [zjg h.1, Nat.eq_of_beq_eq_true h.2]
 | .ptr i o, b, h => by cases b <;> simp only [avB, Bool.and_eq_true, Bool.false_eq_true] at h; rw [Nat.eq_of_beq_eq_true h.1, Nat.eq_of_beq_eq_true h.2]
 | .ref i s o n, b, h => by cases b <;> simp only [avB, Bool.and_eq_true, Bool.false_eq_true] at h; rw [Nat.eq_of_beq_eq_true h.1.1.1, Nat.eq_of_beq_eq_true h.1.1.2, Nat.eq_of_beq_eq_true h.1.2, Nat.eq_of_beq_eq_true h.2]
 | .view i o n, b, h => by cases b <;> simp only [avB, Bool.and_eq_true, Bool.false_eq_true] at h; rw [Nat.eq_of_beq_eq_true h.1.1, Nat.eq_of_beq_eq_true h.1.2, Nat.eq_of_beq_eq_true h.2]
 | .agg cs, b, h => by cases b <;> simp only [avB, Bool.false_eq_true] at h; rw [zgk h]
 | .tup cs, b, h => by cases b <;> simp only [avB, Bool.false_eq_true] at h; rw [zgk h]
 | .fnc f cs, b, h => by cases b <;> simp only [avB, Bool.and_eq_true, Bool.false_eq_true] at h; rw [Nat.eq_of_beq_eq_true h.1, zgk h.2]
 | .bnd f q cs, b, h => by cases b <;> simp only [avB, Bool.and_eq_true, Bool.false_eq_true] at h; rw [Nat.eq_of_beq_eq_true h.1.1, Nat.eq_of_beq_eq_true h.1.2, zgk h.2]
 | .mapr i, b, h => by cases b <;> simp only [avB, Bool.false_eq_true] at h; rw [Nat.eq_of_beq_eq_true h]
theorem zgk : ∀ {a b : List AV}, avLB a b = true → a = b
 | [], b, h => by cases b <;> simp only [avLB, Bool.false_eq_true] at h; rfl
 | a :: as, b, h => by
  cases b <;> simp only [avLB, Bool.and_eq_true, Bool.false_eq_true] at h
  rw [znX h.1, zgk h.2]
end
def voB : VObj → VObj → Bool
 | .row e s cs, .row e' s' cs' => Nat.beq e e' && Nat.beq s s' && pvLB cs cs'
 | .arow e s cs, .arow e' s' cs' => Nat.beq e e' && Nat.beq s s' && avLB cs cs'
 | .box cs, .box cs' => avLB cs cs'
 | _, _ => false
theorem ztu {a b : VObj} (h : voB a b = true) : a = b := by
 cases a <;> cases b <;> simp only [voB, Bool.and_eq_true, Bool.false_eq_true] at h
 ·rw [Nat.eq_of_beq_eq_true h.1.1, Nat.eq_of_beq_eq_true h.1.2, zjg h.2]
 ·rw [zgk h]
 ·rw [Nat.eq_of_beq_eq_true h.1.1, Nat.eq_of_beq_eq_true h.1.2, zgk h.2]
theorem zD.sub {S S' : St} (ht : ∀ k v, tget S'.T k = some v → tget S.T k = some v) (hh : ∀ k o, hget S'.H k = some o → hget S.H k = some o) (h1 : S'.nx = S.nx) (h2 : S'.mv = S.mv) (h3 : S'.nt = S.nt) (h4 : S'.lo = S.lo) : zD S S' := fun B c w a hs => by
 refine ⟨c, ⟨⟨fun id o loc g1 g2 => hs.h.heap id o loc (hh _ _ g1) g2, fun id o b cap g1 g2 => hs.h.own id o b cap (hh _ _ g1) g2, fun id id' o o' b cap cap' hne g1 g2 => hs.h.apart id id' o o' b cap cap' hne (hh _ _ g1) (hh _ _ g2), hs.h.imm, hs.h.size, hs.h.os, hs.h.tape, hs.h.output, hs.h.blk, hs.h.I, by rw [h2]; exact hs.h.φ, hs.h.und⟩, fun t v h => hs.t t v (ht t v h), h3 ▸ hs.nt, hs.df, by rw [h1]; exact hs.fresh, by rw [h4]; exact hs.lo, fun id o h => by rw [h1]; exact hs.wf id o (hh _ _ h), by rw [h4]; exact hs.mlo, by rw [h1, h4]; exact hs.nlo⟩⟩
section
variable {P : Program} {call : zvi}
def ztv (o : Oper) : Bool := o.guard.isNone && match o.op with
 | .extract (.tmp _) _ => true
 | .move (.tmp _) => true
 | .slice _ (.tmp _) _ _ none => true
 | .fieldAddr _ (.tmp _) _ => true
 | _ => false
def zuP (o : Oper) : List Nat := (o.after.toList.filter fun e => Region.binds .any e).map (·.on)
end
end Go.Proofs.YtppnccjeggnllaaGreatVm

import Derived.Test.YtppnccjeggnllaaGreatVmT
namespace Go.Proofs.YtppnccjeggnllaaGreatVm
open Go Go.RowKit
set_option linter.all false
theorem zpc {listed : Array Bool} {i : Nat} (h : listed.getD i true = false) : listed.getD i false = false := by
 rcases Nat.lt_or_ge i listed.size with h' | h'
 ·simp [h'] at h ⊢; exact h
 ·simp [Array.getElem?_eq_none h']
theorem zsZ {listed : Array Bool} {i : Nat} (hi : i < listed.size) (h : listed.getD i false = false) : listed.getD i true = false := by
 simp [hi] at h ⊢; exact h
theorem ziR (m j : Nat) : (Array.replicate m false).getD j false = false := by
 simp [Array.getElem?_replicate]; split <;> rfl
def zfY {α : Type} (P : Program) (s : Sem α) : Prop := ∀ w v w1, s.run P w = .ok v w1 → w1 = w ∧ ∀ w', s.run P w' = .ok v w'
def Dies {α : Type} (P : Program) (s : Sem α) : Prop := ∀ w v w1, s.run P w ≠ .ok v w1
section
variable {α β : Type} {P : Program}
theorem zap (x : α) : zfY P (pure x : Sem α) := fun w v w1 h => by
 simp only [Sem.run_pure] at h ⊢
 cases h; exact ⟨rfl, fun _ => rfl⟩
theorem zac {s : Sem α} {f : α → Sem β} (h : zfY P s) (hf : ∀ x, zfY P (f x)) : zfY P (s >>= f) := fun w v w1 h1 => by
 rw [Sem.run_bind] at h1
 cases hs : s.run P w with
 | ok x w2 =>
  rw [hs] at h1
  obtain ⟨rfl, h2⟩ := h _ _ _ hs
  obtain ⟨rfl, h3⟩ := hf x _ _ _ h1
  exact ⟨rfl, fun w' => by rw [Sem.run_bind, h2 w']; exact h3 w'⟩
 | halt x w2 => rw [hs] at h1; cases h1
theorem zcf {s : Sem α} (h : Dies P s) : zfY P s := fun w v w1 h1 => absurd h1 (h w v w1)
theorem zjv {s : Sem α} {f : α → Sem β} (hf : ∀ x, Dies P (f x)) : Dies P (s >>= f) := fun w v w1 h1 => by
 rw [Sem.run_bind] at h1
 cases hs : s.run P w with
 | ok x w2 => rw [hs] at h1; exact hf x _ _ _ h1
 | halt x w2 => rw [hs] at h1; cases h1
theorem zdx (s : String) : Dies P (stuck s : Sem α) := fun w v w1 h => by cases h
theorem zsb (s : Unsupported) : Dies P (unsupported s : Sem α) := fun w v w1 h => by cases h
theorem zj3 (s : Value) : Dies P (goPanic s : Sem α) := fun w v w1 h => by cases h
theorem zgT : zfY P program := fun w v w1 h => by
 rw [run_program] at h; cases h; exact ⟨rfl, fun w' => rfl⟩
theorem zoP (t : TypeId) : zfY P (typeInfo t) := by
 unfold typeInfo
 refine zac zgT fun p => ?_
 split
 ·exact zap _
 ·exact zcf (zdx _)
theorem zhn (t : TypeId) : zfY P (sizeOf t) := zac (zoP t) fun _ => zap _
theorem zgq (t : TypeId) : zfY P (underlying t) := by
 unfold underlying
 refine zac zgT fun p => ?_
 split
 ·exact zap _
 ·exact zcf (zdx _)
theorem zmZ (k : IntKind) (x y : Int) (c : BoundsCode) : Dies P (boundsPanic k x y c : Sem α) := by
 unfold boundsPanic
 split <;> exact zjv fun _ => zjv fun _ => zj3 _
theorem zsp : Dies P (runtimePanic .nilDeref : Sem α) := zjv fun b => zj3 _
theorem zrB (v : Value) : zfY P (asIntOf v) := by
 unfold asIntOf
 split
 ·exact zap _
 ·exact zcf (zsb _)
 ·exact zcf (zdx _)
theorem ze3 (x : Value) (y : Nat) (c : BoundsCode) : zfY P (Instr.sliceBound x y c) := by
 unfold Instr.sliceBound
 refine zac (zrB x) fun r => ?_
 obtain ⟨k, i⟩ := r
 show zfY P (if 0 ≤ i ∧ i ≤ y then pure i.toNat else boundsPanic k i y c)
 split
 ·exact zap _
 ·exact zcf (zmZ _ _ _ _)
theorem zen (b : Bool) (len cap : Nat) (lo hi : Option Value) : zfY P (Instr.sliceBounds b len cap lo hi none) := by
 unfold Instr.sliceBounds
 cases hi with
 | none => cases lo with
  | none => exact zac (zap _) fun m => zac (zap _) fun h => zac (zap _) fun l => zap _
  | some x => exact zac (zap _) fun m => zac (zap _) fun h => zac (ze3 _ _ _) fun l => zap _
 | some y => cases lo with
  | none => exact zac (zap _) fun m => zac (ze3 _ _ _) fun h => zac (zap _) fun l => zap _
  | some x => exact zac (zap _) fun m => zac (ze3 _ _ _) fun h => zac (ze3 _ _ _) fun l => zap _
theorem zoO (v : Value) : zfY P (asAddr v) := by
 unfold asAddr
 split
 ·exact zap _
 ·exact zcf zsp
 ·exact zcf (zdx _)
theorem zmT {t ft : TypeId} {off s : Nat} (x : Value) {f : Nat} (hf : tfld P t f = some (off, ft)) (hs : tsz P ft = some s) (h0 : s ≠ 0) : zfY P (Instr.fieldAt t x f) := by
 unfold tfld at hf
 split at hf
 case h_2 => simp at hf
 rename_i fs hun
 simp only [Option.map_eq_some_iff] at hf
 obtain ⟨fd, h1, h2⟩ := hf
 cases h2
 have hsz : ∀ w, (sizeOf fd.type).run P w = .ok s w := zaY hs
 have key : ∀ w', (Instr.fieldAt t x f).run P w' = ((Instr.sureAddr x).run P w').andThen (fun a w => .ok (.pointer (some (a.add fd.offset))) w) := fun w' => by
  unfold Instr.fieldAt
  simp only [Sem.run_bind, run_underlying hun, Result.andThen_ok, h1, fieldPlace, hsz, h0, if_false, Sem.run_pure]
 intro w v w1 h
 rw [key] at h
 cases x with
 | pointer a => cases a with
  | none => cases h
  | some a =>
   simp only [Instr.sureAddr, Sem.run_pure, Result.andThen_ok] at h
   cases h
   exact ⟨rfl, fun w' => by rw [key]; rfl⟩
 | _ => cases h
theorem zno (t : TypeId) (x : Value) (lo hi : Option Value) : zfY P (Instr.sliceAt t x lo hi none) := by
 unfold Instr.sliceAt
 refine zac (zgq t) fun d => ?_
 split
 ·refine zac ?_ fun a => zac (zen _ _ _ _ _) fun r => zac (zhn _) fun z => zap _
  unfold Instr.sureAddr
  split
  ·exact zap _
  ·exact zcf (zdx _)
 ·unfold Instr.slice
  refine zac (zgq t) fun d => ?_
  split
  ·simp only [Option.isSome_none]
   exact zac (zen _ _ _ _ _) fun r => zap _
  ·exact zac (zen _ _ _ _ _) fun r => zac (zhn _) fun z => zap _
  ·refine zac (zoO _) fun a => zac (zgq _) fun d => ?_
   split
   ·exact zac (zen _ _ _ _ _) fun r => zac (zhn _) fun z => zap _
   ·exact zcf (zdx _)
  ·exact zcf (zdx _)
end
def za2 (ops : Array Oper) (j i : Nat) : Array Oper := (ops.toList.modify j fun o => { o with after := o.after.push ⟨i, .data⟩ }).toArray
def zpU (P : Program) (o : Oper) : Bool := o.guard.isNone && match o.op with | .extract (.tmp _) _ => true | .move (.tmp _) => true | .slice _ (.tmp _) _ _ none => true | .fieldAddr t (.tmp _) f => (match tfld P t f with | some (_, ft) => (match tsz P ft with | some s => decide (s ≠ 0) | none => false) | none => false) | _ => false
def zrQ (P : Program) (ops : Array Oper) (j i : Nat) : Bool := match ops[i]? with
 | some oi => zpU P oi && (oi.after.toList.all fun e => !Region.binds .any e || bef ops j e.on) && Region.noSelect ops && decide (i < j) &&
  (List.range ops.size).all fun m => m == i || bef ops i m || match ops[m]? with
   | some om => om.after.any (fun e => Region.binds .any e && e.on == i) || oi.apart ops om
   | none => true
 | none => false
section
variable {P : Program} {ops : Array Oper} {j i : Nat} {Q : Exit → Act → World → Prop}
theorem zgh (m : Nat) : (za2 ops j i)[m]? = if m = j then (ops[m]?).map fun o => { o with after := o.after.push ⟨i, .data⟩ } else ops[m]? := by
 unfold za2
 rw [List.getElem?_toArray, List.getElem?_modify, Array.getElem?_toList]
 by_cases h : j = m
 ·subst h; simp
 ·simp [h, Ne.symm h]
theorem znq (m : Nat) : ((za2 ops j i)[m]?).bind (·.dst) = (ops[m]?).bind (·.dst) := by
 rw [zgh]
 split
 ·cases ops[m]? <;> rfl
 ·rfl
theorem zfq (t : Array Value) : yielded (za2 ops j i) t = yielded ops t := by
 funext m
 unfold yielded
 rw [znq]
theorem zhT : (za2 ops j i).size = ops.size := by unfold za2; simp
theorem zh7 {ρ : Operand → Value} {o : Oper} {x : Array Edge} : execOp ρ { o with after := x } = execOp ρ o := by
 obtain ⟨dst, op, type, pos, after, guard⟩ := o
 cases op <;> rfl
theorem zc2 {m : Nat} {K : Act → World → Prop} {a : Act} {w : World} : wpOp P (za2 ops j i) Q m K a w = wpOp P ops Q m K a w := by
 have hg := zgh (ops := ops) (j := j) (i := i) m
 cases ho : ops[m]? with
 | none =>
  rw [ho] at hg
  have hg' : (za2 ops j i)[m]? = none := by rw [hg]; split <;> rfl
  simp only [wpOp, hg', ho]
 | some o =>
  rw [ho] at hg
  by_cases e : m = j
  ·rw [if_pos e] at hg
   simp only [Option.map_some] at hg
   have e1 : Region.wanted { o with after := o.after.push ⟨i, .data⟩ } (yielded ops a.tmps) = Region.wanted o (yielded ops a.tmps) := rfl
   have e2 : Oper.wp P { o with after := o.after.push ⟨i, .data⟩ } a w K Q = Oper.wp P o a w K Q := by
    unfold Oper.wp
    rw [zh7]
    generalize (execOp a.eval o).run P w = r
    cases r with
    | ok n w' => cases n <;> rfl
    | halt x w' => cases x <;> rfl
   have e3 : Oper.asks P { o with after := o.after.push ⟨i, .data⟩ } a w = Oper.asks P o a w := by
    unfold Oper.asks
    rw [zh7]
   simp only [wpOp, hg, ho, zfq]
   rw [e1, e2, e3]
  ·rw [if_neg e] at hg
   simp only [wpOp, hg, ho, zfq]
theorem zan {m : Nat} {listed : Array Bool} : m ∈ Region.ready .any (za2 ops j i) listed ↔ m ∈ Region.ready .any ops listed ∧ (m = j → listed.getD i false = true) := by
 rw [mem_ready, mem_ready, zgh]
 have hb : Region.binds .any ⟨i, .data⟩ = true := rfl
 by_cases e : m = j
 ·rw [if_pos e]
  simp only [e, forall_const]
  constructor
  ·rintro ⟨h0, o, ho, hall⟩
   simp only [Option.map_eq_some_iff] at ho
   obtain ⟨o', ho', rfl⟩ := ho
   exact ⟨⟨h0, o', ho', fun x hx hbx => hall x (by simp [hx]) hbx⟩, hall ⟨i, .data⟩ (by simp) hb⟩
  ·rintro ⟨⟨h0, o, ho, hall⟩, hi⟩
   refine ⟨h0, _, by rw [ho]; rfl, fun x hx hbx => ?_⟩
   simp only [Array.mem_push] at hx
   rcases hx with hx | rfl
   ·exact hall x hx hbx
   ·exact hi
 ·rw [if_neg e]
  simp [e]
theorem zmn {oi : Oper} {K : Act → World → Prop} {a : Act} {w : World} (hi : ops[i]? = some oi) (hin : zpU P oi = true) (hQ : ∀ e a w, Q e a w → e = .normal) (h : wpOp P ops Q i K a w) : ∃ v, Yields P ops oi v a ∧ K (a.put oi.dst v) w := by
 unfold zpU at hin
 simp only [Bool.and_eq_true] at hin
 obtain ⟨hg, hop⟩ := hin
 have hw : Region.wanted oi (yielded ops a.tmps) = true := by
  unfold Region.wanted
  cases hgg : oi.guard with
  | none => rfl
  | some g => rw [hgg] at hg; simp at hg
 unfold wpOp at h
 simp only [hi, hw, if_true] at h
 have hl : ¬ LetsOut Q := by
  rintro ⟨a, w, h⟩
  have := hQ _ _ _ h
  cases this
 rcases h with h | ⟨_, h⟩
 case inr => exact absurd h hl
 obtain ⟨dst, op, type, pos, after, guard⟩ := oi
 simp only at hop
 split at hop
 ·rename_i t n
  unfold Oper.wp at h
  simp only [execOp] at h
  cases hx : a.eval (.tmp t) with
  | tuple vs =>
   cases hv : vs[n]? with
   | some v =>
    refine ⟨v, .inl ⟨hw, fun w => ?_⟩, ?_⟩
    ·simp [execOp, Instr.extract, hx, hv]
    ·simpa [Instr.extract, hx, hv, Oper.upon] using h
   | none => simp [Instr.extract, hx, hv, Oper.upon] at h
  | _ => simp [Instr.extract, hx, Oper.upon] at h
 ·rename_i t
  unfold Oper.wp at h
  simp only [execOp] at h
  refine ⟨a.eval (.tmp t), .inl ⟨hw, fun w => ?_⟩, ?_⟩
  ·simp [execOp]
  ·simpa [Oper.upon] using h
 ·rename_i t x lo ho
  unfold Oper.wp at h
  simp only [execOp] at h
  cases hr : (Instr.sliceAt t (a.eval (.tmp x)) (lo.map a.eval) (ho.map a.eval) none).run P w with
  | ok v w1 =>
   obtain ⟨rfl, hall⟩ := zno _ _ _ _ _ _ _ hr
   refine ⟨v, .inl ⟨hw, fun w' => ?_⟩, ?_⟩
   ·simp [execOp, hall w']
   ·simpa [hr, Oper.upon] using h
  | halt z w1 =>
   exfalso
   simp only [Option.map_none, Sem.run_bind, hr] at h
   cases z <;> simp [Oper.upon, Result.andThen] at h <;> exact absurd (hQ _ _ _ h) (by simp)
 ·rename_i t x fd
  unfold Oper.wp at h
  simp only [execOp] at h
  split at hop
  case h_2 => cases hop
  rename_i off ft hfld
  split at hop
  case h_2 => cases hop
  rename_i sz hsz
  cases hr : (Instr.fieldAt t (a.eval (.tmp x)) fd).run P w with
  | ok v w1 =>
   obtain ⟨rfl, hall⟩ := zmT _ hfld hsz (by simpa using hop) _ _ _ hr
   refine ⟨v, .inl ⟨hw, fun w' => ?_⟩, ?_⟩
   ·simp [execOp, hall w']
   ·simpa [hr, Oper.upon] using h
  | halt z w1 =>
   exfalso
   simp only [Sem.run_bind, hr] at h
   cases z <;> simp [Oper.upon, Result.andThen] at h <;> exact absurd (hQ _ _ _ h) (by simp)
 ·simp at hop
theorem zsj (he : zrQ P ops j i = true) (hQ : ∀ e a w, Q e a w → e = .normal) : ∀ (fuel : Nat) (listed : Array Bool) (a : Act) (w : World), listed.size = ops.size → zgA ops listed → wpAny P .any (za2 ops j i) Q fuel listed a w → wpAny P .any ops Q fuel listed a w := by
 unfold zrQ at he
 split at he
 case h_2 => simp at he
 rename_i oi hoi
 simp only [Bool.and_eq_true, decide_eq_true_eq] at he
 obtain ⟨⟨⟨⟨hin, hdep⟩, hsel⟩, hij⟩, hfree⟩ := he
 have hilt : i < ops.size := (Array.getElem?_eq_some_iff.1 hoi).1
 have hpan : ∀ c a w, Q (.panic c) (a.put oi.dst (default : Value)) w → Q (.panic c) a w := fun c a w h => by have := hQ _ _ _ h; cases this
 -- when j is ready and i is not done, i is ready
 have iready : ∀ listed : Array Bool, listed.size = ops.size → zgA ops listed → j ∈ Region.ready .any ops listed → listed.getD i false = false → i ∈ Region.ready .any ops listed := by
  intro listed hsz hc hj hi
  rw [mem_ready]
  refine ⟨zsZ (by omega) hi, oi, hoi, fun e hm hb => ?_⟩
  have h1 := List.all_eq_true.1 hdep e (by simpa using hm)
  simp only [hb, Bool.not_true, Bool.false_or] at h1
  exact zc5 hc hj h1
 have key : ∀ (fuel : Nat), (∀ (listed : Array Bool) (a : Act) (w : World), listed.size = ops.size → zgA ops listed → wpAny P .any (za2 ops j i) Q fuel listed a w → wpAny P .any ops Q fuel listed a w) := by
  intro fuel
  induction fuel with
  | zero =>
   intro listed a w hsz hc h
   refine ⟨?_, h.2⟩
   cases hr : Region.ready .any ops listed with
   | nil => rfl
   | cons m l =>
    exfalso
    have hm : m ∈ Region.ready .any ops listed := by rw [hr]; simp
    have hn := h.1
    by_cases hmj : m = j
    ·cases hl : listed.getD i false with
     | true =>
      have : m ∈ Region.ready .any (za2 ops j i) listed := zan.2 ⟨hm, fun _ => hl⟩
      rw [hn] at this; cases this
     | false =>
      have : i ∈ Region.ready .any (za2 ops j i) listed := zan.2 ⟨iready listed hsz hc (hmj ▸ hm) hl, fun e => by omega⟩
      rw [hn] at this; cases this
    ·have : m ∈ Region.ready .any (za2 ops j i) listed := zan.2 ⟨hm, fun e => absurd e hmj⟩
     rw [hn] at this; cases this
  | succ fuel ih =>
   intro listed a w hsz hc h
   by_cases hir : i ∈ Region.ready .any ops listed
   ·have h1 := h.2 i (zan.2 ⟨hir, fun e => by omega⟩)
    rw [zc2] at h1
    obtain ⟨v, hy, h2⟩ := zmn hoi hin hQ h1
    refine wpAny_first hoi (Region.noSelect_spec hsel) (fun c a w h => by have := hQ _ _ _ h; cases this) fuel listed a w (fun m om hom hmi hun hno => ?_) hir hy (ih _ _ _ (by simp [hsz]) (zeH hc hsz hir) h2)
    have h3 := List.all_eq_true.1 hfree m (by simp; exact (Array.getElem?_eq_some_iff.1 hom).1)
    simp only [hom, Bool.or_eq_true, beq_iff_eq, hmi, false_or] at h3
    rcases h3 with h3 | h3 | h3
    ·have h4 := zc5 hc hir h3
     have h5 := zpc hun
     rw [h5] at h4; cases h4
    ·obtain ⟨e, hem, hb⟩ := Array.any_eq_true'.1 h3
     simp only [Bool.and_eq_true, beq_iff_eq] at hb
     exact absurd hb.2 (hno e hem hb.1)
    ·exact h3
   ·refine ⟨fun h0 => h.1 ?_, fun m hm => ?_⟩
    ·cases hr : Region.ready .any (za2 ops j i) listed with
     | nil => rfl
     | cons m l =>
      exfalso
      have hm : m ∈ Region.ready .any (za2 ops j i) listed := by rw [hr]; simp
      have := (zan.1 hm).1
      rw [h0] at this; cases this
    ·have hm' : m ∈ Region.ready .any (za2 ops j i) listed := zan.2 ⟨hm, fun e => by
      cases hl : listed.getD i false with
      | true => rfl
      | false => exact absurd (iready listed hsz hc (e ▸ hm) hl) hir⟩
     have h1 := h.2 m hm'
     rw [zc2] at h1
     exact wpOp_mono (fun a w => ih _ a w (by simp [hsz]) (zeH hc hsz hm)) h1
 exact key
def zcJ (ops : Array Oper) : List (Nat × Nat) → Array Oper
 | [] => ops
 | (j, i) :: r => za2 (zcJ ops r) j i
def zjq (P : Program) (ops : Array Oper) : List (Nat × Nat) → Bool
 | [] => true
 | (j, i) :: r => zrQ P (zcJ ops r) j i && zjq P ops r
theorem ze4 : ∀ es, (zcJ ops es).size = ops.size
 | [] => rfl
 | (j, i) :: r => by simp only [zcJ, zhT, ze4 r]
theorem zlG (hQ : ∀ e a w, Q e a w → e = .normal) {a : Act} {w : World} : ∀ (es : List (Nat × Nat)), zjq P ops es = true → wpAny P .any (zcJ ops es) Q ops.size (Array.replicate ops.size false) a w → wpAny P .any ops Q ops.size (Array.replicate ops.size false) a w
 | [], _, h => h
 | (j, i) :: r, he, h => by
  simp only [zjq, Bool.and_eq_true] at he
  refine zlG hQ r he.2 (zsj he.1 hQ _ _ _ _ (by simp [ze4]) (fun j i hj _ => ?_) h)
  rw [ziR] at hj; cases hj
end
end Go.Proofs.YtppnccjeggnllaaGreatVm

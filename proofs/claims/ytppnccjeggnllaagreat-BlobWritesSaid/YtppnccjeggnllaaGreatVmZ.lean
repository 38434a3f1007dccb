import Derived.Test.YtppnccjeggnllaaGreatVmY
namespace Go.Proofs.YtppnccjeggnllaaGreatVm
open Go Go.RowKit
set_option linter.all false
section
variable {P : Program} {ops : Array Oper} {j i : Nat} {Q : Exit → Act → World → Prop}
theorem zfW : ∀ (fuel : Nat) (listed : Array Bool) (a : Act) (w : World), listed.getD i false = true → wpAny P .any (za2 ops j i) Q fuel listed a w → wpAny P .any ops Q fuel listed a w
 | 0, listed, a, w, hi, h => by
  refine ⟨?_, h.2⟩
  rw [List.eq_nil_iff_forall_not_mem]
  intro m hm
  have : m ∈ Region.ready .any (za2 ops j i) listed := zan.2 ⟨hm, fun _ => hi⟩
  rw [h.1] at this; cases this
 | fuel + 1, listed, a, w, hi, h => by
  refine ⟨fun h0 => h.1 ?_, fun m hm => ?_⟩
  ·rw [List.eq_nil_iff_forall_not_mem]
   intro m hm
   have := (zan.1 hm).1
   rw [h0] at this; cases this
  ·have h1 := h.2 m (zan.2 ⟨hm, fun _ => hi⟩)
   rw [zc2] at h1
   refine wpOp_mono (fun a w => zfW fuel _ a w ?_) h1
   simp only [Array.getD_eq_getD_getElem?, Array.getElem?_setIfInBounds] at hi ⊢
   split
   ·split <;> simp_all
   ·exact hi
def zjx : Op → Bool
 | .move _ => true
 | .assign _ => true
 | .alloc _ => true
 | .box _ _ => true
 | .build _ _ => true
 | .buildSlice _ _ _ => true
 | .load _ _ => true
 | .store _ _ _ => true
 | .nilCheck x => match x with | .tmp _ => true | _ => false
 | .binOp _ _ _ _ _ => true
 | .unOp _ _ _ => true
 | .convert _ _ _ => true
 | .makeFunc _ _ _ => true
 | .makeSlice _ _ _ => true
 | .slice _ _ _ _ _ => true
 | .fieldAddr _ _ _ => true
 | .field _ _ _ => true
 | .indexAddr _ _ _ => true
 | .index _ _ _ => true
 | .extract _ _ => true
 | .pick _ _ _ => true
 | .call c => match c.callee with
  | .builtin b => match b with
   | .append => true
   | .len => true
   | .min => true
   | .max => true
   | _ => false
  | _ => false
 | _ => false
theorem zst {o : Oper} {a : Act} {K1 K2 : Act → World → Prop} {r : Result Next} (hr : (∃ v w, r = .ok (.value v) w) ∨ (∃ w, r = .ok .skip w) ∨ ∃ x w, r = .halt x w) (h1 : o.upon P a K1 Q r) (h2 : o.upon P a K2 Q r) : o.upon P a (fun a w => K1 a w ∧ K2 a w) Q r := by
 rcases hr with ⟨v, w, rfl⟩ | ⟨w, rfl⟩ | ⟨x, w, rfl⟩
 ·exact ⟨h1, h2⟩
 ·exact ⟨h1, h2⟩
 ·cases x <;> exact h1
theorem zrH (s : Sem Value) (w : World) : (∃ v w', ((do pure (.value (← s)) : Sem Next)).run P w = .ok (.value v) w') ∨ (∃ w', ((do pure (.value (← s)) : Sem Next)).run P w = .ok .skip w') ∨ ∃ x w', ((do pure (.value (← s)) : Sem Next)).run P w = .halt x w' := by
 simp only [Sem.run_bind]
 cases s.run P w with
 | ok v w' => exact .inl ⟨v, w', by simp [Result.andThen]⟩
 | halt x w' => exact .inr (.inr ⟨x, w', by simp [Result.andThen]⟩)
theorem zsD (s : Sem Unit) (w : World) : (∃ v w', ((do s; pure .skip : Sem Next)).run P w = .ok (.value v) w') ∨ (∃ w', ((do s; pure .skip : Sem Next)).run P w = .ok .skip w') ∨ ∃ x w', ((do s; pure .skip : Sem Next)).run P w = .halt x w' := by
 simp only [Sem.run_bind]
 cases s.run P w with
 | ok v w' => exact .inr (.inl ⟨w', by simp [Result.andThen]⟩)
 | halt x w' => exact .inr (.inr ⟨x, w', by simp [Result.andThen]⟩)
def NC (P : Program) (s : Sem Next) (w : World) : Prop := (∃ v w', s.run P w = .ok (.value v) w') ∨ (∃ w', s.run P w = .ok .skip w') ∨ ∃ x w', s.run P w = .halt x w'
theorem zhy {α : Type} {s : Sem α} {f : α → Sem Next} (h : ∀ x w, NC P (f x) w) (w : World) : NC P (s >>= f) w := by
 unfold NC
 simp only [Sem.run_bind]
 cases s.run P w with
 | ok v w' => exact h v w'
 | halt x w' => exact .inr (.inr ⟨x, w', rfl⟩)
theorem zfX (v : Value) (w : World) : NC P (pure (.value v)) w := .inl ⟨v, w, rfl⟩
theorem zr2 (v : Value) (w : World) : NC P (goPanic v) w := .inr (.inr ⟨_, _, rfl⟩)
theorem zoo (w : World) : NC P (runtimePanic .nilDeref) w := zhy (fun p w => zr2 _ w) w
theorem zqF {o : Oper} {ρ : Operand → Value} {w : World} (h : zjx o.op = true) : (∃ v w', (execOp ρ o).run P w = .ok (.value v) w') ∨ (∃ w', (execOp ρ o).run P w = .ok .skip w') ∨ ∃ x w', (execOp ρ o).run P w = .halt x w' := by
 obtain ⟨dst, op, type, pos, after, guard⟩ := o
 cases op <;> simp only [zjx] at h <;> first | (exact absurd h (by decide)) | skip
 all_goals (simp only [execOp])
 all_goals first | exact zrH _ _ | exact zsD _ _ | exact .inl ⟨_, _, rfl⟩ | skip
 case pick => exact zhy (fun _ w => zfX _ w) w
 case call c =>
  obtain ⟨cal, args, ts⟩ := c
  cases cal with
  | builtin b =>
   show NC P (builtin b ts type _ (args.map ρ)) w
   cases b <;> simp only [] at h <;> first | (exact absurd h (by decide)) | exact zhy (fun v w => zfX v w) w
  | _ => simp at h
 case nilCheck x =>
  show NC P _ w
  split
  ·exact zoo w
  ·exact zoo w
  ·exact zoo w
  ·split
   ·exact zoo w
   ·refine zhy (fun p w => zhy (fun b w => ?_) w) w
    split
    ·exact zhy (fun _ w => zfX _ w) w
    ·exact zfX _ w
   ·exact zfX _ w
  ·exact zfX _ w
theorem zsB {m : Nat} {K1 K2 : Act → World → Prop} {a : Act} {w : World} (hp : ∀ o, ops[m]? = some o → zjx o.op = true) (hQ : ∀ e a w, Q e a w → e = .normal) (h1 : wpOp P ops Q m K1 a w) (h2 : wpOp P ops Q m K2 a w) : wpOp P ops Q m (fun a w => K1 a w ∧ K2 a w) a w := by
 have hl : ¬ LetsOut Q := by
  rintro ⟨a, w, h⟩
  have := hQ _ _ _ h
  cases this
 unfold wpOp at h1 h2 ⊢
 cases ho : ops[m]? with
 | none => rw [ho] at h1 h2; exact ⟨h1, h2⟩
 | some o =>
  rw [ho] at h1 h2
  simp only at h1 h2 ⊢
  split
  ·rename_i hw
   rw [if_pos hw] at h1 h2
   rcases h1 with h1 | ⟨_, h1⟩
   case inr => exact absurd h1 hl
   rcases h2 with h2 | ⟨_, h2⟩
   case inr => exact absurd h2 hl
   exact .inl (zst (zqF (hp o ho)) h1 h2)
  ·rename_i hw
   rw [if_neg hw] at h1 h2
   exact ⟨h1, h2⟩
def zkW (ops : Array Oper) (j i : Nat) : Bool := !(Nat.beq i j) && (List.range ops.size).all fun m => Nat.beq m i || Nat.beq m j || bef ops m i || bef ops m j || match ops[m]? with
 | some o => zjx o.op
 | none => true
theorem zrO (hs : zkW ops j i = true) (hQ : ∀ e a w, Q e a w → e = .normal) : ∀ (fuel : Nat) (listed : Array Bool) (a : Act) (w : World), listed.size = ops.size → zgA ops listed → wpAny P .any (za2 ops j i) Q fuel listed a w → wpAny P .any (za2 ops i j) Q fuel listed a w → wpAny P .any ops Q fuel listed a w := by
 unfold zkW at hs
 simp only [Bool.and_eq_true] at hs
 have hij : i ≠ j := fun e => by
  have := hs.1
  rw [e] at this; simp at this
 intro fuel
 induction fuel with
 | zero =>
  intro listed a w hsz hc h h'
  by_cases hi : listed.getD i false = true
  ·exact zfW 0 listed a w hi h
  refine ⟨?_, h.2⟩
  rw [List.eq_nil_iff_forall_not_mem]
  intro m hm
  by_cases e : m = j
  ·have : m ∈ Region.ready .any (za2 ops i j) listed := zan.2 ⟨hm, fun e' => absurd (e'.symm.trans e) hij⟩
   rw [h'.1] at this; cases this
  ·have : m ∈ Region.ready .any (za2 ops j i) listed := zan.2 ⟨hm, fun e' => absurd e' e⟩
   rw [h.1] at this; cases this
 | succ fuel ih =>
  intro listed a w hsz hc h h'
  by_cases hi : listed.getD i false = true
  ·exact zfW _ listed a w hi h
  by_cases hj : listed.getD j false = true
  ·exact zfW _ listed a w hj h'
  refine ⟨fun h0 => h.1 ?_, fun m hm => ?_⟩
  ·rw [List.eq_nil_iff_forall_not_mem]
   intro m hm
   have := (zan.1 hm).1
   rw [h0] at this; cases this
  ·have hml : m < ops.size := by
    obtain ⟨_, o, ho, _⟩ := mem_ready.1 hm
    exact (Array.getElem?_eq_some_iff.1 ho).1
   have hset : (listed.setIfInBounds m true).getD m false = true := by simp [hsz, hml]
   by_cases e : m = j
   ·subst e
    have h1 := h'.2 m (zan.2 ⟨hm, fun e' => absurd e'.symm hij⟩)
    rw [zc2] at h1
    exact wpOp_mono (fun a w hh => zfW fuel _ a w hset hh) h1
   ·by_cases e' : m = i
    ·subst e'
     have h1 := h.2 m (zan.2 ⟨hm, fun e'' => absurd e'' e⟩)
     rw [zc2] at h1
     exact wpOp_mono (fun a w hh => zfW fuel _ a w hset hh) h1
    ·have h1 := h.2 m (zan.2 ⟨hm, fun e'' => absurd e'' e⟩)
     have h2 := h'.2 m (zan.2 ⟨hm, fun e'' => absurd e'' e'⟩)
     rw [zc2] at h1 h2
     have hp : ∀ o, ops[m]? = some o → zjx o.op = true := fun o ho => by
      have h3 := List.all_eq_true.1 hs.2 m (List.mem_range.2 hml)
      simp only [ho, Bool.or_eq_true, Nat.beq_eq_true_eq] at h3
      rcases h3 with (((h3 | h3) | h3) | h3) | h3
      ·exact absurd (Nat.eq_of_beq_eq_true h3) e'
      ·exact absurd (Nat.eq_of_beq_eq_true h3) e
      ·exact absurd (zc5 hc hm h3) hi
      ·exact absurd (zc5 hc hm h3) hj
      ·exact h3
     exact wpOp_mono (fun a w hh => ih _ a w (by simp [hsz]) (zeH hc hsz hm) hh.1 hh.2) (zsB hp hQ h1 h2)
end
def zjL (p : List Nat) (o : Oper) : Oper := { o with after := o.after.map fun e => { e with on := p.idxOf e.on }, guard := o.guard.map fun g => (p.idxOf g.1, g.2) }
def getO (ops : Array Oper) (k : Nat) : Oper := match ops[k]? with
 | some o => o
 | none => { dst := none, op := .move (.tmp 0), type := 0, pos := "", after := #[], guard := none }
def zhK (ops : Array Oper) (p : List Nat) : Array Oper := (p.map fun k => zjL p (getO ops k)).toArray
def zfl (ops : Array Oper) (p : List Nat) : Bool := Nat.beq p.length ops.size && ((List.range ops.size).all fun k => decide (p[p.idxOf k]? = some k)) && (List.range ops.size).all fun i => match p[i]? with
 | some k => Nat.blt k ops.size && Nat.beq (p.idxOf k) i
 | none => false
section
variable {P : Program} {ops : Array Oper} {p : List Nat} {Q : Exit → Act → World → Prop}
theorem zea (h : zfl ops p = true) : p.length = ops.size ∧ (∀ k, k < ops.size → p[p.idxOf k]? = some k) ∧ (∀ k, ops.size ≤ k → p.idxOf k = ops.size) ∧ ∀ i, i < ops.size → ∃ k, p[i]? = some k ∧ k < ops.size ∧ p.idxOf k = i := by
 unfold zfl at h
 simp only [Bool.and_eq_true] at h
 obtain ⟨⟨h1, h2⟩, h3⟩ := h
 have h1' := Nat.eq_of_beq_eq_true h1
 have h4 : ∀ i, i < ops.size → ∃ k, p[i]? = some k ∧ k < ops.size ∧ p.idxOf k = i := fun i hi => by
  have := List.all_eq_true.1 h3 i (List.mem_range.2 hi)
  split at this
  ·rename_i k hk
   simp only [Bool.and_eq_true] at this
   exact ⟨k, hk, by simpa [Nat.blt_eq] using this.1, Nat.eq_of_beq_eq_true this.2⟩
  ·cases this
 refine ⟨h1', fun k hk => by simpa using List.all_eq_true.1 h2 k (List.mem_range.2 hk), fun k hk => ?_, h4⟩
 rw [← h1']
 refine List.idxOf_eq_length (fun hm => ?_)
 obtain ⟨i, hi, e⟩ := List.mem_iff_getElem.1 hm
 obtain ⟨k', h5, h6, _⟩ := h4 i (by omega)
 rw [List.getElem?_eq_getElem hi, e] at h5
 cases h5
 omega
theorem zjn (h : zfl ops p = true) (m : Nat) : (zhK ops p)[p.idxOf m]? = (ops[m]?).map (zjL p) := by
 obtain ⟨h1, h2, h3, _⟩ := zea h
 unfold zhK
 rw [List.getElem?_toArray, List.getElem?_map]
 rcases Nat.lt_or_ge m ops.size with hm | hm
 ·rw [h2 m hm]
  simp only [Option.map_some, getO]
  rw [Array.getElem?_eq_getElem hm]; rfl
 ·rw [h3 m hm, List.getElem?_eq_none (by omega), Array.getElem?_eq_none hm]; rfl
theorem zj5 (h : zfl ops p = true) : (zhK ops p).size = ops.size := by
 unfold zhK; simp [(zea h).1]
theorem zlC (h : zfl ops p = true) (t : Array Value) (g : Nat) : yielded (zhK ops p) t (p.idxOf g) = yielded ops t g := by
 unfold yielded
 rw [zjn h]
 cases ops[g]? <;> rfl
theorem zrL (h : zfl ops p = true) {m : Nat} {K : Act → World → Prop} {a : Act} {w : World} : wpOp P (zhK ops p) Q (p.idxOf m) K a w = wpOp P ops Q m K a w := by
 unfold wpOp
 rw [zjn h]
 cases ho : ops[m]? with
 | none => rfl
 | some o =>
  simp only [Option.map_some]
  have e1 : Region.wanted (zjL p o) (yielded (zhK ops p) a.tmps) = Region.wanted o (yielded ops a.tmps) := by
   unfold Region.wanted zjL
   cases hg : o.guard with
   | none => rfl
   | some g => simp only [Option.map_some, zlC h]
  have e0 : execOp a.eval (zjL p o) = execOp a.eval o := by
   obtain ⟨dst, op, type, pos, after, guard⟩ := o
   cases op <;> rfl
  have e2 : Oper.wp P (zjL p o) a w K Q = Oper.wp P o a w K Q := by
   unfold Oper.wp
   rw [e0]
   generalize (execOp a.eval o).run P w = r
   cases r with
   | ok n w' => cases n <;> rfl
   | halt x w' => cases x <;> rfl
  have e3 : Oper.asks P (zjL p o) a w = Oper.asks P o a w := by
   unfold Oper.asks
   rw [e0]
  rw [e1, e2, e3]
  rfl
def zr5 (p : List Nat) (listed listed2 : Array Bool) : Prop := ∀ k, listed2[p.idxOf k]? = listed[k]?
theorem zr5.getD {listed listed2 : Array Bool} (h : zr5 p listed listed2) (k : Nat) (b : Bool) : listed2.getD (p.idxOf k) b = listed.getD k b := by
 rw [Array.getD_eq_getD_getElem?, Array.getD_eq_getD_getElem?, h k]
theorem zhI (h : zfl ops p = true) {listed listed2 : Array Bool} (hl : zr5 p listed listed2) {m : Nat} : p.idxOf m ∈ Region.ready .any (zhK ops p) listed2 ↔ m ∈ Region.ready .any ops listed := by
 rw [mem_ready, mem_ready, zjn h, hl.getD]
 constructor
 ·rintro ⟨h0, o, ho, hall⟩
  simp only [Option.map_eq_some_iff] at ho
  obtain ⟨o', ho', rfl⟩ := ho
  refine ⟨h0, o', ho', fun e he hb => ?_⟩
  have := hall { e with on := p.idxOf e.on } (by unfold zjL; simp only [Array.mem_map]; exact ⟨e, he, rfl⟩) hb
  rwa [hl.getD] at this
 ·rintro ⟨h0, o, ho, hall⟩
  refine ⟨h0, zjL p o, by rw [ho]; rfl, fun e he hb => ?_⟩
  unfold zjL at he
  simp only [Array.mem_map] at he
  obtain ⟨e', he', rfl⟩ := he
  simp only [hl.getD]
  exact hall e' he' hb
theorem znZ (h : zfl ops p = true) : ∀ (fuel : Nat) (listed listed2 : Array Bool) (a : Act) (w : World), listed.size = ops.size → listed2.size = ops.size → zr5 p listed listed2 → wpAny P .any (zhK ops p) Q fuel listed2 a w → wpAny P .any ops Q fuel listed a w
 | 0, listed, listed2, a, w, hsz, hsz2, hl, hh => by
  refine ⟨?_, hh.2⟩
  rw [List.eq_nil_iff_forall_not_mem]
  intro m hm
  have := (zhI h hl).2 hm
  rw [hh.1] at this; cases this
 | fuel + 1, listed, listed2, a, w, hsz, hsz2, hl, hh => by
  obtain ⟨h1, h2, h3, h4⟩ := zea h
  refine ⟨fun h0 => hh.1 ?_, fun m hm => ?_⟩
  ·rw [List.eq_nil_iff_forall_not_mem]
   intro k hk
   have hks : k < ops.size := by
    obtain ⟨_, o, ho, _⟩ := mem_ready.1 hk
    have := (Array.getElem?_eq_some_iff.1 ho).1
    rwa [zj5 h] at this
   obtain ⟨m, _, _, e⟩ := h4 k hks
   rw [← e] at hk
   have := (zhI h hl).1 hk
   rw [h0] at this; cases this
  ·have hms : m < ops.size := by
    obtain ⟨_, o, ho, _⟩ := mem_ready.1 hm
    exact (Array.getElem?_eq_some_iff.1 ho).1
   have hq : p.idxOf m < ops.size := by
    have := (List.getElem?_eq_some_iff.1 (h2 m hms)).1; omega
   have h5 := hh.2 (p.idxOf m) ((zhI h hl).2 hm)
   rw [zrL h] at h5
   refine wpOp_mono (fun a w h6 => znZ h fuel _ _ a w (by simp [hsz]) (by simp [hsz2]) (fun k => ?_) h6) h5
   by_cases e : m = k
   ·subst e
    simp [Array.getElem?_setIfInBounds, hsz, hsz2, hms, hq]
   ·have hne : p.idxOf m ≠ p.idxOf k := fun e' => by
     rcases Nat.lt_or_ge k ops.size with hk | hk
     ·have e1 := h2 m hms
      rw [e', h2 k hk] at e1
      cases e1; exact e rfl
     ·rw [h3 k hk] at e'; omega
    rw [Array.getElem?_setIfInBounds_ne hne, Array.getElem?_setIfInBounds_ne e]
    exact hl k
end
def ziL (P : Program) (ops : Array Oper) (Q : St → Prop) (S : St) : Prop := ∀ B c w a, SRel B S c w a → wpAny P .any ops (fun e a w => e = .normal ∧ AreE B (fun _ S => Q S) .normal a w) ops.size (Array.replicate ops.size false) a w
section
variable {P : Program} {ops : Array Oper} {Q : Exit → St → Prop} {S : St} {k : Nat}
theorem zgP (hm : P.follows .mixedOrders = true) (h : ziL P ops (Q .normal) S) : zaG P (.region k ops true) Q S := by
 unfold zaG
 intro B c w a hs
 have h1 : (Code.region k ops true).wp P (fun e a w => e = .normal ∧ AreE B (fun _ S => Q .normal S) .normal a w) a w := wp_region_any hm (h B c _ a (zlX hs))
 refine Code.wp_mono (fun e a w h => ?_) h1
 obtain ⟨rfl, S', c', h1, h2⟩ := h
 exact ⟨S', c', h1, h2⟩
theorem zjW {Q : St → Prop} (j i : Nat) (hs : zkW ops j i = true) (h : ziL P (za2 ops j i) Q S) (h' : ziL P (za2 ops i j) Q S) : ziL P ops Q S := fun B c w a hr => by
 have h1 := h B c w a hr
 have h2 := h' B c w a hr
 rw [zhT] at h1 h2
 exact zrO hs (fun e a w h => h.1) _ _ _ _ (by simp) (fun j i hj _ => by rw [ziR] at hj; cases hj) h1 h2
theorem ze0 {Q : St → Prop} (es : List (Nat × Nat)) (he : zjq P ops es = true) (h : ziL P (zcJ ops es) Q S) : ziL P ops Q S := fun B c w a hr => by
 have h1 := h B c w a hr
 rw [ze4] at h1
 exact zlG (fun e a w h => h.1) es he h1
theorem zfv {Q : St → Prop} (p : List Nat) (hp : zfl ops p = true) (h : ziL P (zhK ops p) Q S) : ziL P ops Q S := fun B c w a hr => by
 have h1 := h B c w a hr
 rw [zj5 hp] at h1
 refine znZ hp _ _ _ _ _ (by simp) (by simp) (fun k => ?_) h1
 obtain ⟨_, h2, h3, _⟩ := zea hp
 rcases Nat.lt_or_ge k ops.size with hk | hk
 ·have : p.idxOf k < ops.size := by
   have := (List.getElem?_eq_some_iff.1 (h2 k hk)).1
   have := (zea hp).1
   omega
  simp [hk, this]
 ·rw [h3 k hk]; simp [hk]
theorem zjA {Q : St → Prop} {l : List Oper} (hd : zf9 ops = true) (hl : ops.toList = l) (h : zY P ops true 0 l S Q) : ziL P ops Q S := fun B c w a hs => by
 subst hl
 obtain ⟨F, hF, hQ, hst⟩ := zlk (B := B) ops.toList 0 S h
 have hs' : SRel B (F 0) c w a := by rw [hF]; exact hs
 have hstep : ∀ j o, ops[j]? = some o → zfc P B ops j (F j) o (F (j + 1)) := fun j o ho => by
  have := hst j o (by simpa using ho)
  simpa using this
 obtain ⟨vals, k', p⟩ := zhx (listed := Array.replicate ops.size false) hstep (Nat.zero_le _) hs' (fun i hi => by omega) (fun i _ => by simp [Array.getElem?_replicate]; split <;> rfl) (by simp) (fun j i hj _ => by rw [ziR] at hj; cases hj)
 refine zoi hd hstep (fun a w h => ?_) ops.size vals 0 k' _ c _ a p ?_
 ·obtain ⟨S', c', rfl, hs''⟩ := h
  exact ⟨rfl, _, c', by simpa using hQ, hs''⟩
 ·have : ∀ f n, cnt f n ≤ n := fun f n => by
   induction n with
   | zero => exact Nat.le_refl _
   | succ n ih => simp only [cnt]; split <;> omega
  exact this _ _
end
section
variable {P : Program} {ops : Array Oper} {dr : Bool} {j : Nat} {d : Nat} {op : Op} {type : TypeId} {pos : String} {after : Array Edge} {r : List Oper} {T : Tm} {H : Heap} {nx : Nat} {mv : List Nat} {nt lo : Nat} {Q : St → Prop} {c : Prop} {v : AV}
theorem zhO : ∀ l : List UInt8, zba (encY l) = some l
 | [] => rfl
 | b :: l => by have := zhO l; simp only [encY] at this; simp [encY, zba, this]
theorem zjO {s t e : TypeId} {x : Operand} {id n : Nat} {l : List UInt8} (hx : St.ev ⟨T, H, nx, mv, nt, lo⟩ x = some (.ref id 1 0 n)) (hg : hget H id = some (.row e 1 (encY l))) (hn : n = l.length) (ht : tstr P t = true) (hs : zlo P s = true)
  (hd : Nat.blt d nt = true) (h : zY P ops dr (j + 1) r ⟨(d, .pv (.str l)) :: T, H, nx, mv, nt, lo⟩ Q) :
  zY P ops dr j ({ dst := some d, op := .convert s t x, type := type, pos := pos, after := after, guard := none } :: r) ⟨T, H, nx, mv, nt, lo⟩ Q := by
 subst hn
 have e1 : (encY l).length = l.length := by simp [encY]
 have e2 : (encY l).take l.length = encY l := List.take_of_length_le (by omega)
 refine zh (c := (encY l).length = l.length) ?_ hd e1 h
 simp [zcv, hx, ht, hs, zaU, hg, e2, zhO]
end
def by8 (e : Int) : UInt8 := UInt8.ofNat (e % 256).toNat
theorem ziX (e : Int) : ((by8 e).toNat : Int) = e % 256 := by
 unfold by8
 have h1 := Int.emod_nonneg e (show (256 : Int) ≠ 0 by decide)
 have h2 := Int.emod_lt_of_pos e (show (0 : Int) < 256 by decide)
 rw [UInt8.toNat_ofNat']
 omega
theorem zpY (e : Int) : IntKind.u8.wrap e = ((by8 e).toNat : Int) := by
 rw [ziX]
 have h1 := Int.emod_nonneg e (show (256 : Int) ≠ 0 by decide)
 have h2 := Int.emod_lt_of_pos e (show (0 : Int) < 256 by decide)
 simp [IntKind.wrap, IntKind.bits, IntKind.signed]
theorem or8 (a b : UInt8) : orK .u8 (a.toNat : Int) (b.toNat : Int) = ((a ||| b).toNat : Int) := by
 rw [orK, show ((BitVec.ofInt IntKind.u8.bits (a.toNat : Int) ||| BitVec.ofInt IntKind.u8.bits (b.toNat : Int)).toNat : Int) = ((a ||| b).toNat : Int) from ?_, zpY, ziX]
 ·have := (a ||| b).toNat_lt; omega
 ·have e : ∀ c : UInt8, BitVec.ofInt IntKind.u8.bits (c.toNat : Int) = c.toBitVec := fun c => by
   apply BitVec.eq_of_toNat_eq
   have h := c.toNat_lt
   rw [BitVec.toNat_ofInt]; show (((c.toNat : Nat) : Int) % ((2 ^ 8 : Nat) : Int)).toNat = c.toNat
   omega
  rw [e, e]; rfl
theorem zrM {P : Program} {ops : Array Oper} {dr : Bool} {j : Nat} {d : Nat} {r : List Oper} {T : Tm} {H : Heap} {nx : Nat} {mv : List Nat} {nt lo : Nat} {Q : St → Prop} {E : Int} {b : UInt8} (h : E = (b.toNat : Int)) (k : zY P ops dr j r ⟨(d, .pv (.int .u8 (b.toNat : Int))) :: T, H, nx, mv, nt, lo⟩ Q) :
  zY P ops dr j r ⟨(d, .pv (.int .u8 E)) :: T, H, nx, mv, nt, lo⟩ Q := h ▸ k
end Go.Proofs.YtppnccjeggnllaaGreatVm

import Derived.Test.YtppnccjeggnllaaGreatVmS
namespace Go.Proofs.YtppnccjeggnllaaGreatVm
open Go Go.RowKit
set_option linter.all false
def zU : PV → List Nat
 | .slc n _ _ => [n]
 | .nnl n _ => [n]
 | _ => []
mutual
def lens : AV → List Nat
 | .pv p => zU p
 | .agg cs => zT cs
 | _ => []
def zT : List AV → List Nat
 | [] => []
 | a :: as => lens a ++ zT as
end
mutual
theorem zqG {c : Ctx} {w : World} : ∀ {a : AV} {v : Value}, Rep c w a v → ∀ n ∈ lens a, n ≤ maxLen
 | .pv p, v, h, n, hn => by
  simp only [lens] at hn
  cases p <;> simp only [zU, List.mem_singleton, List.not_mem_nil] at hn
  ·subst hn; simp only [Rep, RepP] at h; obtain ⟨a, cap, _, h1, h2, _⟩ := h; omega
  ·subst hn; simp only [Rep, RepP] at h; obtain ⟨a, cap, _, h1, h2, _⟩ := h; omega
 | .agg cs, v, h, n, hn => by
  simp only [lens] at hn
  simp only [Rep] at h
  obtain ⟨vs, _, h1⟩ := h
  exact ziO h1 n hn
 | .undef, _, _, _, hn => by simp [lens] at hn
 | .pptr _ _, _, _, _, hn => by simp [lens] at hn
 | .ptr _ _, _, _, _, hn => by simp [lens] at hn
 | .ref _ _ _ _, _, _, _, hn => by simp [lens] at hn
 | .view _ _ _, _, _, _, hn => by simp [lens] at hn
 | .tup _, _, _, _, hn => by simp [lens] at hn
 | .fnc _ _, _, _, _, hn => by simp [lens] at hn
 | .bnd _ _ _, _, _, _, hn => by simp [lens] at hn
 | .mapr _, _, _, _, hn => by simp [lens] at hn
theorem ziO {c : Ctx} {w : World} : ∀ {as : List AV} {vs : List Value}, RepL c w as vs → ∀ n ∈ zT as, n ≤ maxLen
 | [], _, _, n, hn => by simp [zT] at hn
 | a :: as, v :: vs, h, n, hn => by
  simp only [RepL] at h
  simp only [zT, List.mem_append] at hn
  exact hn.elim (zqG h.1 n) (ziO h.2 n)
 | _ :: _, [], h, _, _ => by simp [RepL] at h
end
theorem Ok.len {P : Program} {f : FuncId} {args : List AV} {Hin : List VObj} {out : AV} {Hout : List VObj} {mv : List Nat} (h : (∀ n ∈ zT args, n ≤ maxLen) → Ok P f args Hin out Hout mv) : Ok P f args Hin out Hout mv :=
 fun c w vals hargs hrel hnone => h (ziO hargs) c w vals hargs hrel hnone
theorem zaV {P : Program} {x : Code} {Q : Exit → St → Prop} {S S' : St} (hl : zH S S') (h : zO P x Q S') : zO P x Q S := by
 unfold zO at h ⊢
 intro B c w a hs
 obtain ⟨c', hs'⟩ := hl B c w a hs
 exact h B c' w a hs'
def OpsS (P : Program) (ops : Array Oper) (l : List Oper) (S : St) (Q : St → Prop) : Prop := ∀ (B : Base) (c : Ctx) (w : World) (a : Act) (R : Exit → Act → World → Prop), (∀ a w, Are B Q a w → R .normal a w) → SRel B S c w a → wpList P ops R l a w
section
variable {P : Program} {ops : Array Oper} {l : List Oper} {S S' : St} {Q : St → Prop}
theorem zc3 {j : Nat} (h : zY P ops false j l S Q) : OpsS P ops l S Q := fun B c w a R hR hs => zfR hR l j S c w a hs h
theorem zbz (ht : zH S S') (h : OpsS P ops l S' Q) : OpsS P ops l S Q := fun B c w a R hR hs => by
 obtain ⟨c', hs'⟩ := ht B c w a hs
 exact h B c' w a R hR hs'
theorem zog {j : Nat} {o : Oper} {r : List Oper} (h : zY P ops false j [o] S (fun S1 => OpsS P ops r S1 Q)) : OpsS P ops (o :: r) S Q := fun B c w a R hR hs => by
 simp only [zY, opWp] at h
 obtain ⟨hd, h⟩ := h
 unfold wpList
 split at h
 ·rename_i hg
  rw [if_pos (zci hs.t hg)]
  left
  refine Oper.wp_mono (fun a' w' h' => ?_) (zjc (Q := R) hs hd h)
  obtain ⟨S', c', h1, h2⟩ := h'
  exact h1 B c' w' a' R hR h2
 ·rename_i hg
  rw [if_neg (by rw [zci hs.t hg]; simp)]
  exact h B c w _ R hR (zi8 hs hd)
 ·exact h.elim
theorem znC {dr : Bool} {l1 l2 : List Oper} : ∀ {j : Nat} {S : St}, zY P ops dr j (l1 ++ l2) S Q ↔ zY P ops dr j l1 S (fun S1 => zY P ops dr (j + l1.length) l2 S1 Q) := by
 induction l1 with
 | nil => intro j S; simp [zY]
 | cons o r ih =>
  intro j S
  simp only [List.cons_append, zY, List.length_cons]
  have e : (fun S' => zY P ops dr (j + 1) (r ++ l2) S' Q) = fun S' => zY P ops dr (j + 1) r S' fun S1 => zY P ops dr (j + (r.length + 1)) l2 S1 Q := by
   funext S'
   rw [ih, show j + 1 + r.length = j + (r.length + 1) by omega]
  rw [e]
theorem zms {tot : Prop} {o : Oper} {K K' : St → Prop} (hk : ∀ S, K S → K' S) (h : zkx P tot S o K) : zkx P tot S o K' := by
 rcases h with h | h | h
 case inr.inr =>
  obtain ⟨cond, sz, n, e, cs, he, hc, hl, hK⟩ := zf2 h
  exact .inr (.inr (zoz he hc hl (hk _ hK)))
 case inr.inl =>
  unfold runX at h
  split at h
  ·rename_i he
   exact .inr (.inl (by unfold runX; rw [he]; exact ⟨h.1, h.2.1, hk _ h.2.2⟩))
  ·rename_i hx
   split at h
   ·rename_i he
    exact .inr (.inl (by unfold runX; rw [hx]; dsimp only; rw [he]; exact ⟨h.1, h.2.1, hk _ h.2.2⟩))
   ·exact h.elim
 refine .inl ?_
 unfold zdk at h ⊢
 split at h
 ·exact ⟨h.1, hk _ h.2⟩
 ·split at h
  ·exact ⟨h.1, h.2.1, hk _ h.2.2⟩
  ·split at h
   ·refine ⟨h.1, h.2.imp ?_ ?_⟩
    ·rintro ⟨ids, args, Hin, out, Hnew, h1, h2⟩
     exact ⟨ids, args, Hin, out, Hnew, h1, hk _ h2⟩
    ·rintro ⟨ht, ids, args, Hin, out, Hout, mv, h1, h2⟩
     exact ⟨ht, ids, args, Hin, out, Hout, mv, h1, hk _ h2⟩
   ·exact h.elim
theorem zkh {dr : Bool} {j : Nat} {o : Oper} {K K' : St → Prop} (hk : ∀ S, K S → K' S) (h : zY P ops dr j [o] S K) : zY P ops dr j [o] S K' := by
 simp only [zY, opWp] at h ⊢
 refine ⟨h.1, ?_⟩
 have h2 := h.2
 split at h2
 ·exact zms hk h2
 ·exact hk _ h2
 ·exact h2.elim
theorem zlJ : ∀ {l1 l2 : List Oper} {j : Nat} {S : St}, zY P ops false j l1 S (fun S1 => OpsS P ops l2 S1 Q) → OpsS P ops (l1 ++ l2) S Q
 | [], l2, j, S, h => by simpa [zY] using h
 | o :: r, l2, j, S, h => by
  rw [List.cons_append]
  refine zog (j := j) ?_
  have e : (o :: r) = [o] ++ r := rfl
  rw [e, znC] at h
  exact zkh (fun S1 h1 => zlJ h1) h
theorem zcn (n : Nat) {j : Nat} (h : zY P ops false j (l.take n) S (fun S1 => OpsS P ops (l.drop n) S1 Q)) : OpsS P ops l S Q := by
 have := zlJ h
 rwa [List.take_append_drop] at this
end
theorem zaY {P : Program} {k : Nat} {ops : Array Oper} {l : List Oper} {Q : Exit → St → Prop} {S : St} (hl : ops.toList = l) (h : OpsS P ops l S (Q .normal)) : zO P (.region k ops false) Q S := by
 unfold zO
 intro B c w a hs
 subst hl
 exact wp_region_list (h B c w a (AreE B Q) (fun a w h => h) hs)
def FrzT (H : Heap) (fz : List Nat) (T : Tm) : Tm → Prop
 | [] => True
 | (k, v') :: r => (∃ v cf, tget T k = some v ∧ frz H fz v = some (cf, v') ∧ cf) ∧ FrzT H fz T r
def frzO (H : Heap) (fz : List Nat) : VObj → Option (Prop × VObj)
 | .row e sz cs => some (True, .row e sz cs)
 | .box cs => (frzL H fz cs).map fun r => (r.1, .box r.2)
 | .mp es => some (True, .mp es)
def FrzH (H : Heap) (fz : List Nat) : Heap → Prop
 | [] => True
 | (k, o') :: r => (fz.contains k = false ∧ ∃ o cf, hget H k = some o ∧ frzO H fz o = some (cf, o') ∧ cf) ∧ FrzH H fz r
theorem zlN {H : Heap} {fz : List Nat} {T : Tm} : ∀ {T' : Tm} {k : Nat} {v' : AV}, FrzT H fz T T' → tget T' k = some v' → ∃ v cf, tget T k = some v ∧ frz H fz v = some (cf, v') ∧ cf
 | [], _, _, _, h => by simp [tget] at h
 | (j, u) :: r, k, v', hf, h => by
  simp only [tget] at h
  split at h
  ·rename_i e; subst e; cases h; exact hf.1
  ·exact zlN hf.2 h
theorem zeV {H : Heap} {fz : List Nat} : ∀ {H' : Heap} {k : Nat} {o' : VObj}, FrzH H fz H' → hget H' k = some o' → k ∉ fz ∧ ∃ o cf, hget H k = some o ∧ frzO H fz o = some (cf, o') ∧ cf
 | [], _, _, _, h => by simp [hget] at h
 | (j, u) :: r, k, v', hf, h => by
  simp only [hget] at h
  split at h
  ·rename_i e; subst e; cases h
   exact ⟨by have := hf.1.1; simpa using this, hf.1.2⟩
  ·exact zeV hf.2 h
theorem zH.freeze {T T' : Tm} {H H' : Heap} {nx : Nat} {mv : List Nat} {nt lo : Nat} (fz : List Nat) (hge : fz.all (fun x => Nat.ble lo x) = true) (ht : FrzT H fz T T') (hh : FrzH H fz H') : zH ⟨T, H, nx, mv, nt, lo⟩ ⟨T', H', nx, mv, nt, lo⟩ := by
 intro B c w a hs
 have hge' : ∀ x ∈ fz, lo ≤ x := fun x hx => by have := List.all_eq_true.1 hge x hx; simpa [Nat.ble_eq] using this
 let c2 : Ctx := { φ := c.φ, I := zjF c H fz }
 have hho : za1 c c2 w w := fun b hb => ⟨.inl hb, rfl⟩
 have hgo : Goes c c2 := fun _ _ h => h
 have hheap : zdl c w H := hs.h.heap
 have hown := hs.h.own
 refine ⟨c2, ⟨fun id o loc h1 h2 => ?_, fun id o b cap h1 h2 => ?_, fun id id' o o' b cap cap' hne h1 h2 h3 h4 => ?_, fun b hb => ?_, hs.h.size, hs.h.os, hs.h.tape, hs.h.output, hs.h.blk, fun b hb => ?_, hs.h.φ, hs.h.und⟩, fun t v h => ?_, hs.nt, hs.df, hs.fresh, hs.lo, fun id o h => ?_, hs.mlo, hs.nlo⟩
 ·obtain ⟨_, o1, cf, h3, h4, hc⟩ := zeV hh h1
  have h5 := hheap id o1 loc h3 h2
  cases o1 with
  | row e sz cs =>
   simp only [frzO, Option.some.injEq, Prod.mk.injEq] at h4
   obtain ⟨_, rfl⟩ := h4
   exact h5.mono hho hgo (fun _ _ _ => rfl)
  | mp es =>
   simp only [frzO, Option.some.injEq, Prod.mk.injEq] at h4
   obtain ⟨_, rfl⟩ := h4
   exact h5.mono hho hgo (fun _ _ _ => rfl)
  | box cs =>
   simp only [frzO, Option.map_eq_some_iff, Prod.mk.injEq] at h4
   obtain ⟨⟨r1, r2⟩, h6, h7, rfl⟩ := h4
   cases loc with
   | virt => exact h5
   | blk b cap =>
    obtain ⟨arr, t, h8, h9⟩ := h5
    simp only at h7
    subst h7
    exact ⟨arr, t, h8, zg0 hheap hho hgo (fun b => Iff.rfl) cs _ _ _ h6 hc h9⟩
 ·obtain ⟨hk, o1, cf, h3, h4, hc⟩ := zeV hh h1
  obtain ⟨h5, h6, h7⟩ := hown id o1 b cap h3 h2
  refine ⟨h5, ?_, h7⟩
  rintro (h8 | ⟨j, cap', e, sz, cs, hj, hg, h8⟩)
  ·exact h6 h8
  ·exact hs.h.apart id j o1 _ b cap cap' (fun e => hk (e ▸ hj)) h3 hg h2 h8
 ·obtain ⟨_, o1, _, h5, _, _⟩ := zeV hh h1
  obtain ⟨_, o2, _, h6, _, _⟩ := zeV hh h2
  exact hs.h.apart id id' o1 o2 b cap cap' hne h5 h6 h3 h4
 ·rcases hb with hb | ⟨id, cap, e, sz, cs, _, hg, h1⟩
  ·exact hs.h.imm b hb
  ·exact (hown id _ b cap hg h1).1
 ·constructor
  ·rintro (h1 | ⟨id, cap, e, sz, cs, hid, hg, h1⟩)
   ·exact (hs.h.I b hb).1 h1
   ·exfalso
    rcases (hown id _ b cap hg h1).2.2 with h2 | ⟨h2, _⟩
    ·omega
    ·have h3 := hge' id hid
     have h4 : B.m = lo := hs.mlo
     omega
  ·intro h1; exact .inl ((hs.h.I b hb).2 h1)
 ·obtain ⟨u, cf, h1, h2, hc⟩ := zlN ht h
  exact zka (c2 := c2) hheap hho hgo (fun b => Iff.rfl) _ _ _ _ h2 hc (hs.t t u h1)
 ·obtain ⟨_, o1, _, h5, _, _⟩ := zeV hh h
  exact hs.wf id o1 h5
section
variable {α : Type} {g : α → PV}
theorem zm7 (l : List α) : (l.map g).length = l.length * 1 := by simp
theorem zmX {l : List α} {i : Nat} {x : α} (h : l[i]? = some x) : (l.map g)[i * 1]? = some (g x) := by simp [h]
theorem zqq {l : List α} {i : Nat} (h : i < l.length) : l.map g ≠ [] := by
 intro e
 have := congrArg List.length e
 simp at this
 subst this
 simp at h
theorem zm9 (hg : ∀ x, zgU (g x) = true) {l : List α} : ∀ p ∈ l.map g, zgU p = true := fun p h => by
 obtain ⟨x, _, rfl⟩ := List.mem_map.1 h
 exact hg x
end
def encB (l : List Bool) : List PV := l.map .bool
def encY (l : List UInt8) : List PV := l.map fun b => .int .u8 b.toNat
theorem zn (l : List Bool) : (encB l).length = l.length * 1 := zm7 l
theorem zeS {l : List Bool} {i : Nat} {x : Bool} (h : l[i]? = some x) : (encB l)[i * 1]? = some (.bool x) := zmX h
theorem zgg {l : List Bool} {i : Nat} (h : i < l.length) : encB l ≠ [] := zqq h
theorem zny (l : List Bool) (x : Bool) : encB (l ++ [x]) = encB l ++ [.bool x] := by simp [encB]
theorem zm (l : List UInt8) : (encY l).length = l.length * 1 := zm7 l
theorem zoR {l : List UInt8} {i : Nat} {x : UInt8} (h : l[i]? = some x) : (encY l)[i * 1]? = some (.int .u8 x.toNat) := zmX h
theorem zq6 {l : List UInt8} {i : Nat} (h : i < l.length) : encY l ≠ [] := zqq h
theorem zj0 (l : List UInt8) (x : UInt8) : encY (l ++ [x]) = encY l ++ [.int .u8 x.toNat] := by simp [encY]
theorem zij {l : List UInt8} : ∀ p ∈ encY l, zgU p = true := zm9 (fun _ => rfl)
theorem ziM {α : Type} {g : α → PV} {G : α → Prop} : ∀ {xs : List (List PV)}, (∀ x ∈ xs, ∃ y, x = [g y] ∧ G y) → ∃ l : List α, xs.length = l.length ∧ xs.flatten = l.map g ∧ ∀ y ∈ l, G y
 | [], _ => ⟨[], rfl, rfl, by simp⟩
 | x :: xs, h => by
  obtain ⟨y, hy, hg⟩ := h x (by simp)
  obtain ⟨l, h1, h2, h3⟩ := ziM (fun x hx => h x (List.mem_cons_of_mem _ hx))
  refine ⟨y :: l, by simp [h1], by simp [hy, h2], fun z hz => ?_⟩
  rcases List.mem_cons.1 hz with rfl | hz
  ·exact hg
  ·exact h3 z hz
theorem Shp.u8Inv {P : Program} {t : TypeId} {ps : List PV} (hu : P.underlying t = some (.int .u8)) (h : Shp P t ps) : ∃ b : UInt8, ps = [.int .u8 b.toNat] ∧ True := by
 obtain ⟨n, h1, h2⟩ := h.intInv hu
 simp [Lit.wf, IntKind.has, IntKind.min, IntKind.max, IntKind.signed, IntKind.bits] at h2
 refine ⟨UInt8.ofNat n.toNat, ?_, trivial⟩
 rw [h1]
 have : ((UInt8.ofNat n.toNat).toNat : Int) = n := by
  rw [UInt8.toNat_ofNat']; omega
 rw [this]
theorem zcc {α : Type} {l : List α} {k : Nat} {x : α} (h : l[k]? = some x) : l.take (k + 1) = l.take k ++ [x] := by
 rw [List.take_add_one, h]; rfl
theorem zau {α : Type} {l : List α} {k : Nat} {x : α} (h : l[k]? = some x) : l.drop k = x :: l.drop (k + 1) := by
 obtain ⟨hk, rfl⟩ := List.getElem?_eq_some_iff.1 h
 exact List.drop_eq_getElem_cons hk
theorem zbt {α : Type} (l : List α) (x : α) : l.length + 1 = (l ++ [x]).length := by simp
theorem zg6 {k n : Nat} (h : k < n) (hn : n ≤ maxLen) : IntKind.i64.wrap ((k : Int) + 1) = ((k + 1 : Nat) : Int) := by
 unfold maxLen at hn
 rw [zb1 (by omega) (by omega)]; omega
end Go.Proofs.YtppnccjeggnllaaGreatVm

import Derived.Test.YtppnccjeggnllaaGreatVmS
namespace Go.Proofs.YtppnccjeggnllaaGreatVm
open Go Go.RowKit
set_option linter.all false
def ztM : PV → List Nat
 | .slc n _ _ => [n]
 | .nnl n _ => [n]
 | _ => []
mutual
def lens : AV → List Nat
 | .pv p => ztM p
 | .agg cs => zku cs
 | _ => []
def zku : List AV → List Nat
 | [] => []
 | a :: as => lens a ++ zku as
end
mutual
theorem ztT {c : Ctx} {w : World} : ∀ {a : AV} {v : Value}, Rep c w a v → ∀ n ∈ lens a, n ≤ maxLen
 | .pv p, v, h, n, hn => by
  simp only [lens] at hn
  cases p <;> simp only [ztM, List.mem_singleton, List.not_mem_nil] at hn
  ·subst hn; simp only [Rep, RepP] at h; obtain ⟨a, cap, _, h1, h2, _⟩ := h; omega
  ·subst hn; simp only [Rep, RepP] at h; obtain ⟨a, cap, _, h1, h2, _⟩ := h; omega
 | .agg cs, v, h, n, hn => by
  simp only [lens] at hn
  simp only [Rep] at h
  obtain ⟨vs, _, h1⟩ := h
  exact zk7 h1 n hn
 | .undef, _, _, _, hn => by simp [lens] at hn
 | .pptr _ _, _, _, _, hn => by simp [lens] at hn
 | .ptr _ _, _, _, _, hn => by simp [lens] at hn
 | .ref _ _ _ _, _, _, _, hn => by simp [lens] at hn
 | .view _ _ _, _, _, _, hn => by simp [lens] at hn
 | .tup _, _, _, _, hn => by simp [lens] at hn
 | .fnc _ _, _, _, _, hn => by simp [lens] at hn
 | .bnd _ _ _, _, _, _, hn => by simp [lens] at hn
 | .mapr _, _, _, _, hn => by simp [lens] at hn
theorem zk7 {c : Ctx} {w : World} : ∀ {as : List AV} {vs : List Value}, RepL c w as vs → ∀ n ∈ zku as, n ≤ maxLen
 | [], _, _, n, hn => by simp [zku] at hn
 | a :: as, v :: vs, h, n, hn => by
  simp only [RepL] at h
  simp only [zku, List.mem_append] at hn
  exact hn.elim (ztT h.1 n) (zk7 h.2 n)
 | _ :: _, [], h, _, _ => by simp [RepL] at h
end
theorem Ok.len {P : Program} {f : FuncId} {args : List AV} {Hin : List VObj} {out : AV} {Hout : List VObj} {mv : List Nat} (h : (∀ n ∈ zku args, n ≤ maxLen) → Ok P f args Hin out Hout mv) : Ok P f args Hin out Hout mv :=
 fun c w vals hargs hrel hnone => h (zk7 hargs) c w vals hargs hrel hnone
theorem hlL {l : List AV} {n : Nat} (h : ∀ n ∈ zku l, n ≤ maxLen) (hm : n ∈ zku l := by simp [zku, lens, ztM]) : n ≤ 9223372036854775807 := h n hm
theorem zbq {P : Program} {x : Code} {Q : Exit → St → Prop} {S S' : St} (hl : zD S S') (h : zaG P x Q S') : zaG P x Q S := by
 unfold zaG at h ⊢
 intro B c w a hs
 obtain ⟨c', hs'⟩ := hl B c w a hs
 exact h B c' w a hs'
def OpsS (P : Program) (ops : Array Oper) (l : List Oper) (S : St) (Q : St → Prop) : Prop := ∀ (B : Base) (c : Ctx) (w : World) (a : Act) (R : Exit → Act → World → Prop), (∀ a w, Are B Q a w → R .normal a w) → SRel B S c w a → wpList P ops R l a w
section
variable {P : Program} {ops : Array Oper} {l : List Oper} {S S' : St} {Q : St → Prop}
theorem zoG (h : Q S) : OpsS P ops [] S Q := fun B c w a R hR hs => hR a w ⟨S, c, h, hs⟩
theorem zqK {j : Nat} (h : zY P ops false j l S Q) : OpsS P ops l S Q := fun B c w a R hR hs => zhf hR l j S c w a hs h
theorem zfL (ht : zD S S') (h : OpsS P ops l S' Q) : OpsS P ops l S Q := fun B c w a R hR hs => by
 obtain ⟨c', hs'⟩ := ht B c w a hs
 exact h B c' w a R hR hs'
theorem ziO {j : Nat} {o : Oper} {r : List Oper} (h : zY P ops false j [o] S (fun S1 => OpsS P ops r S1 Q)) : OpsS P ops (o :: r) S Q := fun B c w a R hR hs => by
 simp only [zY, opWp] at h
 obtain ⟨hd, h⟩ := h
 unfold wpList
 split at h
 ·rename_i hg
  rw [if_pos (zce hs.t hg)]
  left
  refine Oper.wp_mono (fun a' w' h' => ?_) (zkt (Q := R) hs hd h)
  obtain ⟨S', c', h1, h2⟩ := h'
  exact h1 B c' w' a' R hR h2
 ·rename_i hg
  rw [if_neg (by rw [zce hs.t hg]; simp)]
  exact h B c w _ R hR (zlb hs hd)
 ·exact h.elim
theorem zrw {dr : Bool} {l1 l2 : List Oper} : ∀ {j : Nat} {S : St}, zY P ops dr j (l1 ++ l2) S Q ↔ zY P ops dr j l1 S (fun S1 => zY P ops dr (j + l1.length) l2 S1 Q) := by
 induction l1 with
 | nil => intro j S; simp [zY]
 | cons o r ih =>
  intro j S
  simp only [List.cons_append, zY, List.length_cons]
  have e : (fun S' => zY P ops dr (j + 1) (r ++ l2) S' Q) = fun S' => zY P ops dr (j + 1) r S' fun S1 => zY P ops dr (j + (r.length + 1)) l2 S1 Q := by
   funext S'
   rw [ih, show j + 1 + r.length = j + (r.length + 1) by omega]
  rw [e]
theorem zeV {tot : Prop} {o : Oper} {K K' : St → Prop} (hk : ∀ S, K S → K' S) (h : zg8 P tot S o K) : zg8 P tot S o K' := by
 rcases h with h | h | h | h
 case inr.inr.inr => exact .inr (.inr (.inr (zrR hk h)))
 case inr.inr.inl =>
  obtain ⟨cond, sz, n, e, cs, he, hc, hl, hK⟩ := zhd h
  exact .inr (.inr (.inl (zru he hc hl (hk _ hK))))
 case inr.inl =>
  unfold runX at h
  split at h
  ·rename_i he
   exact .inr (.inl (by unfold runX; rw [he]; exact ⟨h.1, h.2.1, hk _ h.2.2⟩))
  ·rename_i hx
   split at h
   ·rename_i he
    exact .inr (.inl (by unfold runX; rw [hx]; dsimp only; rw [he]; exact ⟨h.1, h.2.1, hk _ h.2.2⟩))
   ·exact h.elim
 refine .inl ?_
 unfold zcj at h ⊢
 split at h
 ·exact ⟨h.1, hk _ h.2⟩
 ·split at h
  ·exact ⟨h.1, h.2.1, hk _ h.2.2⟩
  ·split at h
   ·refine ⟨h.1, h.2.imp ?_ ?_⟩
    ·rintro ⟨ids, args, Hin, out, Hnew, h1, h2⟩
     exact ⟨ids, args, Hin, out, Hnew, h1, hk _ h2⟩
    ·rintro ⟨ht, ids, args, Hin, out, Hout, mv, h1, h2⟩
     exact ⟨ht, ids, args, Hin, out, Hout, mv, h1, hk _ h2⟩
   ·exact h.elim
theorem zjj {dr : Bool} {j : Nat} {o : Oper} {K K' : St → Prop} (hk : ∀ S, K S → K' S) (h : zY P ops dr j [o] S K) : zY P ops dr j [o] S K' := by
 simp only [zY, opWp] at h ⊢
 refine ⟨h.1, ?_⟩
 have h2 := h.2
 split at h2
 ·exact zeV hk h2
 ·exact hk _ h2
 ·exact h2.elim
theorem znH : ∀ {l1 l2 : List Oper} {j : Nat} {S : St}, zY P ops false j l1 S (fun S1 => OpsS P ops l2 S1 Q) → OpsS P ops (l1 ++ l2) S Q
 | [], l2, j, S, h => by simpa [zY] using h
 | o :: r, l2, j, S, h => by
  rw [List.cons_append]
  refine ziO (j := j) ?_
  have e : (o :: r) = [o] ++ r := rfl
  rw [e, zrw] at h
  exact zjj (fun S1 h1 => znH h1) h
theorem zn7 (n : Nat) {j : Nat} (h : zY P ops false j (l.take n) S (fun S1 => OpsS P ops (l.drop n) S1 Q)) : OpsS P ops l S Q := by
 have := znH h
 rwa [List.take_append_drop] at this
end
theorem ze7 {P : Program} {k : Nat} {ops : Array Oper} {l : List Oper} {Q : Exit → St → Prop} {S : St} (hl : ops.toList = l) (h : OpsS P ops l S (Q .normal)) : zaG P (.region k ops false) Q S := by
 unfold zaG
 intro B c w a hs
 subst hl
 exact wp_region_list (h B c w a (AreE B Q) (fun a w h => h) hs)
def FrzT (H : Heap) (fz : List Nat) (T : Tm) : Tm → Prop
 | [] => True
 | (k, v') :: r => (∃ v cf, tget T k = some v ∧ frz H fz v = some (cf, v') ∧ cf) ∧ FrzT H fz T r
def frzO (H : Heap) (fz : List Nat) : VObj → Option (Prop × VObj)
 | .row e sz cs => some (True, .row e sz cs)
 | .box cs => (frzL H fz cs).map fun r => (r.1, .box r.2)
 | .mp es => some (True, .mp es)
 | .arow e sz cs => (frzL H fz cs).map fun r => (r.1, .arow e sz r.2)
def FrzH (H : Heap) (fz : List Nat) : Heap → Prop
 | [] => True
 | (k, o') :: r => (fz.contains k = false ∧ ∃ o cf, hget H k = some o ∧ frzO H fz o = some (cf, o') ∧ cf) ∧ FrzH H fz r
theorem zok {H : Heap} {fz : List Nat} {T : Tm} : ∀ {T' : Tm} {k : Nat} {v' : AV}, FrzT H fz T T' → tget T' k = some v' → ∃ v cf, tget T k = some v ∧ frz H fz v = some (cf, v') ∧ cf
 | [], _, _, _, h => by simp [tget] at h
 | (j, u) :: r, k, v', hf, h => by
  simp only [tget] at h
  split at h
  ·rename_i e; subst e; cases h; exact hf.1
  ·exact zok hf.2 h
theorem zfN {H : Heap} {fz : List Nat} : ∀ {H' : Heap} {k : Nat} {o' : VObj}, FrzH H fz H' → hget H' k = some o' → k ∉ fz ∧ ∃ o cf, hget H k = some o ∧ frzO H fz o = some (cf, o') ∧ cf
 | [], _, _, _, h => by simp [hget] at h
 | (j, u) :: r, k, v', hf, h => by
  simp only [hget] at h
  split at h
  ·rename_i e; subst e; cases h
   exact ⟨by have := hf.1.1; simpa using this, hf.1.2⟩
  ·exact zfN hf.2 h
theorem znK {H : Heap} {fz : List Nat} : ∀ (as : List AV) (cf : Prop) (bs : List AV), frzL H fz as = some (cf, bs) → bs.length = as.length
 | [], cf, bs, h => by simp only [frzL] at h; obtain ⟨_, rfl⟩ := z9 h; rfl
 | a :: as, cf, bs, h => by
  simp only [frzL] at h
  split at h
  case h_2 => simp at h
  rename_i c1 b c2' bs' h1 h2
  obtain ⟨rfl, rfl⟩ := z9 h
  simp [znK as _ _ h2]
theorem zD.freeze {T T' : Tm} {H H' : Heap} {nx : Nat} {mv : List Nat} {nt lo : Nat} (fz : List Nat) (hge : fz.all (fun x => Nat.ble lo x) = true) (ht : FrzT H fz T T') (hh : FrzH H fz H') : zD ⟨T, H, nx, mv, nt, lo⟩ ⟨T', H', nx, mv, nt, lo⟩ := by
 intro B c w a hs
 have hge' : ∀ x ∈ fz, lo ≤ x := fun x hx => by have := List.all_eq_true.1 hge x hx; simpa [Nat.ble_eq] using this
 let c2 : Ctx := { φ := c.φ, I := zlU c H fz }
 have hho : zaT c c2 w w := fun b hb => ⟨.inl hb, rfl⟩
 have hgo : Goes c c2 := fun _ _ h => h
 have hheap : zcX c w H := hs.h.heap
 have hown := hs.h.own
 refine ⟨c2, ⟨fun id o loc h1 h2 => ?_, fun id o b cap h1 h2 => ?_, fun id id' o o' b cap cap' hne h1 h2 h3 h4 => ?_, fun b hb => ?_, hs.h.size, hs.h.os, hs.h.tape, hs.h.output, hs.h.blk, fun b hb => ?_, hs.h.φ, hs.h.und⟩, fun t v h => ?_, hs.nt, hs.df, hs.fresh, hs.lo, fun id o h => ?_, hs.mlo, hs.nlo⟩
 ·obtain ⟨_, o1, cf, h3, h4, hc⟩ := zfN hh h1
  have h5 := hheap id o1 loc h3 h2
  cases o1 with
  | row e sz cs =>
   simp only [frzO, Option.some.injEq, Prod.mk.injEq] at h4
   obtain ⟨_, rfl⟩ := h4
   exact h5.mono hho hgo (fun _ _ _ => rfl)
  | mp es =>
   simp only [frzO, Option.some.injEq, Prod.mk.injEq] at h4
   obtain ⟨_, rfl⟩ := h4
   exact h5.mono hho hgo (fun _ _ _ => rfl)
  | arow e sz cs =>
   simp only [frzO, Option.map_eq_some_iff, Prod.mk.injEq] at h4
   obtain ⟨⟨r1, r2⟩, h6, h7, rfl⟩ := h4
   simp only at h7
   subst h7
   have hl := znK cs _ _ h6
   cases loc with
   | virt =>
    have h' : cs = [] := h5
    subst h'
    exact List.eq_nil_of_length_eq_zero hl
   | blk b cap =>
    obtain ⟨arr, h8, h9, h10, h11, h12⟩ := h5
    exact ⟨arr, h8, h9, h10, by rw [hl]; exact h11, by rw [hl]; exact zhi hheap hho hgo (fun b => Iff.rfl) cs _ _ _ h6 hc h12⟩
  | box cs =>
   simp only [frzO, Option.map_eq_some_iff, Prod.mk.injEq] at h4
   obtain ⟨⟨r1, r2⟩, h6, h7, rfl⟩ := h4
   cases loc with
   | virt => exact h5
   | blk b cap =>
    obtain ⟨arr, t, h8, h9⟩ := h5
    simp only at h7
    subst h7
    exact ⟨arr, t, h8, zhi hheap hho hgo (fun b => Iff.rfl) cs _ _ _ h6 hc h9⟩
 ·obtain ⟨hk, o1, cf, h3, h4, hc⟩ := zfN hh h1
  obtain ⟨h5, h6, h7⟩ := hown id o1 b cap h3 h2
  refine ⟨h5, ?_, h7⟩
  rintro (h8 | ⟨j, cap', e, sz, cs, hj, hg, h8⟩)
  ·exact h6 h8
  ·exact hs.h.apart id j o1 _ b cap cap' (fun e => hk (e ▸ hj)) h3 hg h2 h8
 ·obtain ⟨_, o1, _, h5, _, _⟩ := zfN hh h1
  obtain ⟨_, o2, _, h6, _, _⟩ := zfN hh h2
  exact hs.h.apart id id' o1 o2 b cap cap' hne h5 h6 h3 h4
 ·rcases hb with hb | ⟨id, cap, e, sz, cs, _, hg, h1⟩
  ·exact hs.h.imm b hb
  ·exact (hown id _ b cap hg h1).1
 ·constructor
  ·rintro (h1 | ⟨id, cap, e, sz, cs, hid, hg, h1⟩)
   ·exact (hs.h.I b hb).1 h1
   ·exfalso
    rcases (hown id _ b cap hg h1).2.2 with h2 | ⟨h2, _⟩
    ·omega
    ·have h3 := hge' id hid
     have h4 : B.m = lo := hs.mlo
     omega
  ·intro h1; exact .inl ((hs.h.I b hb).2 h1)
 ·obtain ⟨u, cf, h1, h2, hc⟩ := zok ht h
  exact zmB (c2 := c2) hheap hho hgo (fun b => Iff.rfl) _ _ _ _ h2 hc (hs.t t u h1)
 ·obtain ⟨_, o1, _, h5, _, _⟩ := zfN hh h
  exact hs.wf id o1 h5
section
variable {α : Type} {g : α → PV}
theorem zqt (l : List α) : (l.map g).length = l.length * 1 := by simp
theorem ztZ {l : List α} {i : Nat} {x : α} (h : l[i]? = some x) : (l.map g)[i * 1]? = some (g x) := by simp [h]
theorem zuT {l : List α} {i : Nat} (h : i < l.length) : l.map g ≠ [] := by
 intro e
 have := congrArg List.length e
 simp at this
 subst this
 simp at h
theorem zqQ (hg : ∀ x, ziZ (g x) = true) {l : List α} : ∀ p ∈ l.map g, ziZ p = true := fun p h => by
 obtain ⟨x, _, rfl⟩ := List.mem_map.1 h
 exact hg x
end
def encB (l : List Bool) : List PV := l.map .bool
def encY (l : List UInt8) : List PV := l.map fun b => .int .u8 b.toNat
theorem zdY (l : List Bool) : (encB l).length = l.length * 1 := zqt l
theorem ze8 {l : List Bool} {i : Nat} {x : Bool} (h : l[i]? = some x) : (encB l)[i * 1]? = some (.bool x) := ztZ h
theorem zgl {l : List Bool} {i : Nat} (h : i < l.length) : encB l ≠ [] := zuT h
theorem ziS (l : List Bool) (x : Bool) : encB (l ++ [x]) = encB l ++ [.bool x] := by simp [encB]
theorem zdj (l : List UInt8) : (encY l).length = l.length * 1 := zqt l
theorem zgG (l : List UInt8) (x : UInt8) : encY (l ++ [x]) = encY l ++ [.int .u8 x.toNat] := by simp [encY]
theorem zjS {l : List UInt8} : ∀ p ∈ encY l, ziZ p = true := zqQ (fun _ => rfl)
theorem zn2 {α : Type} {g : α → PV} {G : α → Prop} : ∀ {xs : List (List PV)}, (∀ x ∈ xs, ∃ y, x = [g y] ∧ G y) → ∃ l : List α, xs.length = l.length ∧ xs.flatten = l.map g ∧ ∀ y ∈ l, G y
 | [], _ => ⟨[], rfl, rfl, by simp⟩
 | x :: xs, h => by
  obtain ⟨y, hy, hg⟩ := h x (by simp)
  obtain ⟨l, h1, h2, h3⟩ := zn2 (fun x hx => h x (List.mem_cons_of_mem _ hx))
  refine ⟨y :: l, by simp [h1], by simp [hy, h2], fun z hz => ?_⟩
  rcases List.mem_cons.1 hz with rfl | hz
  ·exact hg
  ·exact h3 z hz
theorem zfC {α : Type} {l : List α} {k : Nat} {x : α} (h : l[k]? = some x) : l.take (k + 1) = l.take k ++ [x] := by
 rw [List.take_add_one, h]; rfl
theorem zT {α : Type} {l : List α} {k : Nat} {x : α} (h : l[k]? = some x) : l.drop k = x :: l.drop (k + 1) := by
 obtain ⟨hk, rfl⟩ := List.getElem?_eq_some_iff.1 h
 exact List.drop_eq_getElem_cons hk
theorem zaV {α : Type} (l : List α) (x : α) : l.length + 1 = (l ++ [x]).length := by simp
theorem zmi {k n : Nat} (h : k < n) (hn : n ≤ maxLen) : IntKind.i64.wrap ((k : Int) + 1) = ((k + 1 : Nat) : Int) := by
 unfold maxLen at hn
 rw [znb (by omega) (by omega)]; omega
end Go.Proofs.YtppnccjeggnllaaGreatVm

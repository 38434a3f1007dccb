import Derived.Test.YtppnccjeggnllaaGreatVmR
import Derived.ProofKit
import Derived.OpenShut
import Derived.ShutString
import Derived.ChangeOld
import Derived.Below
import Derived.SizedLaws
namespace Go.Proofs.YtppnccjeggnllaaGreatVm
open Go Go.RowKit
set_option linter.all false
inductive Shp (P : Program) : TypeId → List PV → Prop
 | int {t k n} (h : P.underlying t = some (.int k)) (hw : (Lit.int k n).wf = true) : Shp P t [.int k n]
 | bool {t b} (h : P.underlying t = some .bool) : Shp P t [.bool b]
 | str {t s} (h : P.underlying t = some .string) (hl : s.length ≤ maxLen) : Shp P t [.str s]
 | slc {t e} (h : P.underlying t = some (.slice e)) (xs : List (List PV)) (hx : ∀ x ∈ xs, Shp P e x) (hl : xs.length ≤ maxLen) (hb : xs.length * P.bytesOf e ≤ reachBytes) : Shp P t [.slc xs.length false xs.flatten]
 | struct {t fs} (h : P.underlying t = some (.struct fs)) (xs : List (List PV)) (hl : xs.length = fs.toList.length) (hx : ∀ (i : Nat) (f : Field) (x : List PV), fs.toList[i]? = some f → xs[i]? = some x → Shp P f.type x) : Shp P t xs.flatten
 | arr {t n e} (h : P.underlying t = some (.array n e)) (xs : List (List PV)) (hl : xs.length = n) (hx : ∀ x ∈ xs, Shp P e x) : Shp P t xs.flatten
def layF (P : Program) : Nat → List Field → Nat → Bool
 | off, [], n => off == n
 | off, f :: fs, n => f.offset == off && layF P (off + P.cellsOf f.type) fs n
def simT (P : Program) : Nat → TypeId → Bool
 | 0, _ => false
 | d + 1, t => match P.underlying t with
  | some .bool => P.cellsOf t == 1
  | some (.int _) => P.cellsOf t == 1
  | some .string => P.cellsOf t == 1
  | some (.slice e) => P.cellsOf t == 1 && (decide (0 < P.cellsOf e) && simT P d e)
  | some (.struct fs) => layF P 0 fs.toList (P.cellsOf t) && fs.toList.all fun f => simT P d f.type
  | some (.array n e) => P.cellsOf t == n * P.cellsOf e && simT P d e
  | _ => false
theorem zlh {α β : Type} {f : α → Option β} : ∀ {l : List α} {ys : List β}, l.mapM f = some ys → ys.length = l.length ∧ ∀ (i : Nat) (x : α), l[i]? = some x → f x = ys[i]?
 | [], ys, h => by simp at h; subst h; simp
 | a :: l, ys, h => by
  rw [List.mapM_cons] at h
  simp only [bind, Option.bind_eq_some_iff, pure, Option.some.injEq] at h
  obtain ⟨y, hy, zs, hz, rfl⟩ := h
  obtain ⟨h1, h2⟩ := zlh hz
  refine ⟨by simp [h1], fun i x hx => ?_⟩
  cases i with
  | zero => simp at hx; subst hx; simpa using hy
  | succ i => simpa using h2 i x (by simpa using hx)
theorem zoD {W : World} {a : Addr} {n j : Nat} {v : Value} (h : W.cell? ((a.add n).add j) = some v) : W.cell? ⟨a.block, a.off + n + j, none⟩ = some v ∧ a.block < W.heap.size := by
 obtain ⟨b, o, sp⟩ := a
 unfold World.cell? at h ⊢
 have hb : (((⟨b, o, sp⟩ : Addr).add n).add j).block = b := by unfold Addr.add; split <;> split <;> rfl
 rw [hb] at h
 cases hh : W.heap[b]? with
 | none => simp [hh] at h
 | some o' =>
  have hlt : b < W.heap.size := (Array.getElem?_eq_some_iff.1 hh).1
  refine ⟨?_, hlt⟩
  simp only [hh] at h ⊢
  cases o' with
  | cells cs t fr =>
   simp only at h ⊢
   split at h
   ·cases h
   ·have ho : (((⟨b, o, sp⟩ : Addr).add n).add j).off = o + n + j := by unfold Addr.add; split <;> split <;> simp_all <;> omega
    rw [ho] at h
    simpa using h
  | _ => simp at h
theorem zfH {c : Ctx} {W : World} {b : Nat} : ∀ {as bs : List PV} {off : Nat}, z4 c W b off as → z4 c W b (off + as.length) bs → z4 c W b off (as ++ bs)
 | [], bs, off, _, h => by simpa using h
 | a :: as, bs, off, h1, h2 => by
  simp only [z4, List.cons_append] at h1 ⊢
  exact ⟨h1.1, zfH h1.2 (by rw [List.length_cons] at h2; rwa [Nat.add_assoc, Nat.add_comm 1])⟩
theorem zgK {c : Ctx} {W : World} {b : Nat} : ∀ {ps : List PV} {vs : List Value} {off : Nat}, RepL c W (ps.map .pv) vs → (∀ j v, vs[j]? = some v → W.cell? ⟨b, off + j, none⟩ = some v) → z4 c W b off ps
 | [], _, _, _, _ => by simp [z4]
 | p :: ps, v :: vs, off, h, hc => by
  simp only [List.map_cons, RepL, Rep] at h
  simp only [z4]
  refine ⟨⟨v, by simpa using hc 0 v rfl, h.1⟩, zgK h.2 (fun j u hj => ?_)⟩
  have := hc (j + 1) u (by simpa using hj)
  rwa [show off + (j + 1) = off + 1 + j by omega] at this
 | p :: ps, [], off, h, _ => by simp [RepL] at h
section
variable {H : Type} {enc : TypeId × Value → H} {P : Program} {W : World} {base : Nat} {spare : Nat → Bool} {held : Bool} {c : Ctx}
theorem zew {e : TypeId} {n : Nat} : ∀ {l : List (DataW H)} {d : DataW H}, d ∈ l → n ∈ d.weights P e → n ∈ DataW.weightsAll P e l
 | x :: l, d, hd, hn => by
  simp only [DataW.weightsAll, List.mem_append]
  rcases List.mem_cons.1 hd with rfl | hd
  ·exact .inl hn
  ·exact .inr (zew hd hn)
theorem zd7 {n : Nat} : ∀ {ts : List TypeId} {l : List (DataW H)} {i : Nat} {t : TypeId} {d : DataW H}, ts[i]? = some t → l[i]? = some d → n ∈ d.weights P t → n ∈ DataW.weightsEach P ts l
 | t' :: ts, x :: l, 0, t, d, ht, hd, hn => by
  simp at ht hd; subst ht; subst hd
  simp only [DataW.weightsEach, List.mem_append]; exact .inl hn
 | t' :: ts, x :: l, i + 1, t, d, ht, hd, hn => by
  simp only [DataW.weightsEach, List.mem_append]
  exact .inr (zd7 (i := i) (by simpa using ht) (by simpa using hd) hn)
 | [], _, _, _, _, ht, _, _ => by simp at ht
 | _ :: _, [], _, _, _, _, hd, _ => by simp at hd
theorem ziq (hI : ∀ b, b < W.heap.size → c.I b) : ∀ (fuel d : Nat) (t : TypeId) (cs : List Value) (x : DataW H × List MemPlace), simT P d t = true → DataW.trod enc P W base spare held fuel t cs = some x → (∀ n ∈ x.1.weights P t, n ≤ reachBytes) →
  ∃ ps, Shp P t ps ∧ RepL c W (ps.map .pv) cs ∧ ps.length = P.cellsOf t
 | 0, d, t, cs, x, _, h, _ => by simp [DataW.trod] at h
 | fuel + 1, 0, t, cs, x, hs, h, _ => by simp [simT] at hs
 | fuel + 1, d + 1, t, cs, x, hs, h, hwt => by
  simp only [simT] at hs
  split at hs
  ·rename_i hu
   simp only [beq_iff_eq] at hs
   unfold DataW.trod at h
   rw [hu] at h
   match cs, h with
   | [.bool b], h => exact ⟨[.bool b], .bool hu, by simp [RepL, Rep, RepP], by simp [hs]⟩
  ·rename_i k hu
   simp only [beq_iff_eq] at hs
   unfold DataW.trod at h
   rw [hu] at h
   match cs, h with
   | [.int k' n], h =>
    simp only at h
    split at h
    ·rename_i hk; obtain ⟨rfl, hw⟩ := hk; exact ⟨[.int _ n], .int hu hw, by simp [RepL, Rep, RepP], by simp [hs]⟩
    ·cases h
  ·rename_i hu
   simp only [beq_iff_eq] at hs
   unfold DataW.trod at h
   rw [hu] at h
   match cs, h with
   | [.string s], h =>
    simp only at h
    split at h
    ·rename_i hk; exact ⟨[.str s.data.toList], .str hu (by simpa using hk), by simp [RepL, Rep, RepP], by simp [hs]⟩
    ·cases h
  ·rename_i e hu
   simp only [Bool.and_eq_true, beq_iff_eq, decide_eq_true_eq] at hs
   obtain ⟨hs1, hs2, hs3⟩ := hs
   rcases DataW.trod_slice hu h with ⟨rfl, rfl⟩ | ⟨a, len, cap, elems, rest, n, hf, rfl, rfl, hb, hl, hm, hlen, hel, _, _⟩
   ·exact ⟨[.slc 0 false []], .slc hu [] (by simp) (by simp) (by simp), by simp only [List.map_cons, List.map_nil, RepL, Rep, RepP, and_true]; exact ⟨none, 0, rfl, Nat.le_refl _, Nat.zero_le _, by simp, by simp⟩, by simp [hs1]⟩
   ·obtain rfl : n = fuel := by omega
    simp only [DataW.weights, hu, List.mem_cons, List.mem_append, List.length_map] at hwt
    have key : ∀ k, k ≤ len → ∃ xs : List (List PV), xs.length = k ∧ (∀ y ∈ xs, Shp P e y) ∧ xs.flatten.length = k * P.cellsOf e ∧ z4 c W a.block a.off xs.flatten ∧ (0 < k → a.block < W.heap.size) := by
     intro k
     induction k with
     | zero => intro _; exact ⟨[], rfl, by simp, by simp, by simp [z4], by omega⟩
     | succ k ih =>
      intro hk
      obtain ⟨xs, h1, h2, h3, h4, _⟩ := ih (by omega)
      have hk' := hel k (by omega)
      rw [List.getElem?_eq_getElem (by omega)] at hk'
      simp only [Option.bind_eq_some_iff] at hk'
      obtain ⟨vs, hv, ht⟩ := hk'
      obtain ⟨ps, hp1, hp2, hp3⟩ := ziq hI n d e vs _ hs3 ht (fun m hm => hwt m (.inr (.inl (zew (List.mem_map_of_mem (List.getElem_mem _)) hm))))
      unfold World.cells? at hv
      split at hv
      case isFalse => cases hv
      obtain ⟨hvl, hvc⟩ := zlh hv
      simp only [List.length_range] at hvl
      have hcell : ∀ j v, vs[j]? = some v → W.cell? ((a.add (k * P.cellsOf e)).add j) = some v := fun j v hj => by
       have hjl := (List.getElem?_eq_some_iff.1 hj).1
       have := hvc j j (List.getElem?_range (by omega))
       rw [this, hj]
      have hlt : a.block < W.heap.size := by
       have h0 : 0 < vs.length := by omega
       exact (zoD (hcell 0 _ (List.getElem?_eq_getElem h0))).2
      refine ⟨xs ++ [ps], by simp [h1], fun y hy => ?_, by simp [h3, hp3, Nat.succ_mul], ?_, fun _ => hlt⟩
      ·rcases List.mem_append.1 hy with hy | hy
       ·exact h2 y hy
       ·rw [List.mem_singleton] at hy; subst hy; exact hp1
      ·simp only [List.flatten_append, List.flatten_cons, List.flatten_nil, List.append_nil]
       refine zfH h4 (zgK hp2 (fun j v hj => ?_))
       rw [h3]
       exact (zoD (hcell j v hj)).1
    obtain ⟨xs, h1, h2, h3, h4, h5⟩ := key len (Nat.le_refl _)
    refine ⟨[.slc xs.length false xs.flatten], .slc hu xs h2 (by omega) (by
     have h9 := hwt _ (.inl rfl)
     refine Nat.le_trans (Nat.mul_le_mul_right _ ?_) h9
     omega), ?_, by simp [hs1]⟩
    simp only [List.map_cons, List.map_nil, RepL, Rep, RepP, and_true]
    refine ⟨some a, cap, by rw [h1], by omega, hm, by simp, ?_⟩
    by_cases h0 : len = 0
    ·left
     have : xs = [] := List.eq_nil_of_length_eq_zero (by omega)
     subst this; simp
    ·right
     have hb := h5 (by omega)
     refine ⟨a.block, a.off, ?_, hI _ hb, h4⟩
     have hk' := hel 0 (by omega)
     rw [List.getElem?_eq_getElem (by omega)] at hk'
     simp only [Option.bind_eq_some_iff, Nat.zero_mul] at hk'
     obtain ⟨vs, hv, _⟩ := hk'
     unfold World.cells? at hv
     split at hv
     case isFalse => cases hv
     obtain ⟨hvl, hvc⟩ := zlh hv
     simp only [List.length_range] at hvl
     have := hvc 0 0 (List.getElem?_range (by omega))
     rw [List.getElem?_eq_getElem (by omega)] at this
     obtain ⟨bb, oo, sp⟩ := a
     cases sp with
     | none => rfl
     | some z =>
      exfalso
      simp only [Addr.add, if_true] at this
      unfold World.cell? at this
      split at this <;> simp at this
  ·rename_i fs hu
   simp only [Bool.and_eq_true, List.all_eq_true] at hs
   obtain ⟨xs, n, hf, rfl, hl, hlen, hfs⟩ := DataW.trod_struct hu h
   obtain rfl : n = fuel := by omega
   simp only [DataW.weights, hu] at hwt
   have key : ∀ (l : List Field) (off : Nat), layF P off l (P.cellsOf t) = true → off ≤ cs.length → (∀ f ∈ l, simT P d f.type = true) → (∀ f ∈ l, ∃ y, DataW.trod enc P W base spare held n f.type ((cs.drop f.offset).take (P.cellsOf f.type)) = some y ∧ ∀ n ∈ y.1.weights P f.type, n ≤ reachBytes) →
     ∃ ys : List (List PV), ys.length = l.length ∧ (∀ (i : Nat) (f : Field) (y : List PV), l[i]? = some f → ys[i]? = some y → Shp P f.type y) ∧ RepL c W (ys.flatten.map .pv) (cs.drop off) := by
    intro l
    induction l with
    | nil =>
     intro off hlay _ _ _
     simp only [layF, beq_iff_eq] at hlay
     exact ⟨[], rfl, by simp, by rw [List.drop_eq_nil_of_le (by omega)]; simp [RepL]⟩
    | cons f l ih =>
     intro off hlay hoff hsim htrod
     simp only [layF, Bool.and_eq_true, beq_iff_eq] at hlay
     obtain ⟨hfo, hlay⟩ := hlay
     obtain ⟨y, hy, hyw⟩ := htrod f (by simp)
     obtain ⟨ps, hp1, hp2, hp3⟩ := ziq hI n d f.type _ _ (hsim f (by simp)) hy hyw
     have hpl := zW hp2
     simp only [List.length_map, List.length_take, List.length_drop, hfo, hp3] at hpl
     obtain ⟨ys, h1, h2, h3⟩ := ih (off + P.cellsOf f.type) hlay (by omega) (fun g hg => hsim g (List.mem_cons_of_mem _ hg)) (fun g hg => htrod g (List.mem_cons_of_mem _ hg))
     refine ⟨ps :: ys, by simp [h1], fun i g z hg hz => ?_, ?_⟩
     ·cases i with
      | zero => simp at hg hz; subst hg; subst hz; exact hp1
      | succ i => exact h2 i g z (by simpa using hg) (by simpa using hz)
     ·rw [← List.take_append_drop (P.cellsOf f.type) (cs.drop off), List.drop_drop]
      simp only [List.flatten_cons, List.map_append]
      rw [hfo] at hp2
      exact zaF hp2 h3
   obtain ⟨ys, h1, h2, h3⟩ := key fs.toList 0 hs.1 (Nat.zero_le _) (fun f hf => hs.2 f hf) (fun f hf => by
    obtain ⟨i, hi, rfl⟩ := List.getElem_of_mem hf
    have := hfs i fs.toList[i] (by simp [List.getElem?_eq_getElem hi])
    have hx : i < xs.length := by rw [hlen]; simpa using hi
    rw [List.getElem?_eq_getElem hx] at this
    exact ⟨_, this, fun m hm => hwt m (zd7 (i := i) (by simp [List.getElem?_eq_getElem hi]) (by rw [List.getElem?_map, List.getElem?_eq_getElem hx]; rfl) hm)⟩)
   refine ⟨ys.flatten, .struct hu ys h1 h2, by simpa using h3, ?_⟩
   have := zW h3
   simp only [List.length_map, List.drop_zero] at this
   omega
  ·rename_i n e hu
   simp only [Bool.and_eq_true, beq_iff_eq] at hs
   obtain ⟨xs, m, hf, rfl, hl, hlen, hel⟩ := DataW.trod_array hu h
   obtain rfl : m = fuel := by omega
   simp only [DataW.weights, hu] at hwt
   have key : ∀ k, k ≤ n → ∃ ys : List (List PV), ys.length = k ∧ (∀ y ∈ ys, Shp P e y) ∧ RepL c W (ys.flatten.map .pv) (cs.take (k * P.cellsOf e)) := by
    intro k
    induction k with
    | zero => intro _; exact ⟨[], rfl, by simp, by simp [RepL]⟩
    | succ k ih =>
     intro hk
     obtain ⟨ys, h1, h2, h3⟩ := ih (by omega)
     have hk' := hel k (by omega)
     rw [List.getElem?_eq_getElem (by omega)] at hk'
     obtain ⟨ps, hp1, hp2, hp3⟩ := ziq hI m d e _ _ hs.2 hk' (fun q hq => hwt q (zew (List.mem_map_of_mem (List.getElem_mem _)) hq))
     refine ⟨ys ++ [ps], by simp [h1], fun y hy => ?_, ?_⟩
     ·rcases List.mem_append.1 hy with hy | hy
      ·exact h2 y hy
      ·rw [List.mem_singleton] at hy; subst hy; exact hp1
     ·simp only [List.flatten_append, List.flatten_cons, List.flatten_nil, List.append_nil, List.map_append]
      rw [Nat.succ_mul, List.take_add]
      exact zaF h3 hp2
   obtain ⟨ys, h1, h2, h3⟩ := key n (Nat.le_refl _)
   rw [List.take_of_length_le (by omega)] at h3
   refine ⟨ys.flatten, .arr hu ys h1 h2, h3, ?_⟩
   have := zW h3
   simp only [List.length_map] at this
   omega
  ·cases hs
end
section
variable {P : Program} {t : TypeId} {ps : List PV}
theorem Shp.intInv {k : IntKind} (hu : P.underlying t = some (.int k)) (h : Shp P t ps) : ∃ n, ps = [.int k n] ∧ (Lit.int k n).wf = true := by
 cases h with
 | int h hw => rw [hu] at h; cases h; exact ⟨_, rfl, hw⟩
 | bool h | str h | slc h | struct h | arr h => rw [hu] at h; cases h
theorem Shp.boolInv (hu : P.underlying t = some .bool) (h : Shp P t ps) : ∃ b, ps = [.bool b] := by
 cases h with
 | bool h => exact ⟨_, rfl⟩
 | int h | str h | slc h | struct h | arr h => rw [hu] at h; cases h
theorem Shp.slcInv {e : TypeId} (hu : P.underlying t = some (.slice e)) (h : Shp P t ps) : ∃ xs : List (List PV), ps = [.slc xs.length false xs.flatten] ∧ (∀ x ∈ xs, Shp P e x) ∧ xs.length ≤ maxLen ∧ xs.length * P.bytesOf e ≤ reachBytes := by
 cases h with
 | slc h xs hx hl hb => rw [hu] at h; cases h; exact ⟨_, rfl, hx, hl, hb⟩
 | int h | bool h | str h | struct h | arr h => rw [hu] at h; cases h
theorem Shp.structInv {fs : Array Field} (hu : P.underlying t = some (.struct fs)) (h : Shp P t ps) : ∃ xs : List (List PV), ps = xs.flatten ∧ xs.length = fs.toList.length ∧ ∀ (i : Nat) (f : Field) (x : List PV), fs.toList[i]? = some f → xs[i]? = some x → Shp P f.type x := by
 cases h with
 | struct h xs hl hx => rw [hu] at h; cases h; exact ⟨_, rfl, hl, hx⟩
 | int h | bool h | str h | slc h | arr h => rw [hu] at h; cases h
theorem zgr {α : Type} {enc : α → List PV} {G : α → Prop} : ∀ {xs : List (List PV)}, (∀ x ∈ xs, ∃ y, x = enc y ∧ G y) → ∃ l : List α, xs.length = l.length ∧ xs.flatten = l.flatMap enc ∧ ∀ y ∈ l, G y
 | [], _ => ⟨[], rfl, rfl, by simp⟩
 | x :: xs, h => by
  obtain ⟨y, hy, hg⟩ := h x (by simp)
  obtain ⟨l, h1, h2, h3⟩ := zgr (fun x hx => h x (List.mem_cons_of_mem _ hx))
  refine ⟨y :: l, by simp [h1], by simp [hy, h2], fun z hz => ?_⟩
  rcases List.mem_cons.1 hz with rfl | hz
  ·exact hg
  ·exact h3 z hz
theorem zvn {n : Int} (h : (Lit.int .i64 n).wf = true) : InR n := by
 simp [Lit.wf, IntKind.has, IntKind.min, IntKind.max, IntKind.signed, IntKind.bits] at h
 unfold InR
 omega
theorem Shp.i64Inv (hu : P.underlying t = some (.int .i64)) (h : Shp P t ps) : ∃ n, ps = [i64 n] ∧ InR n := by
 obtain ⟨n, h1, h2⟩ := h.intInv hu
 exact ⟨n, h1, zvn h2⟩
end
def zlV (W : World) : Ctx := { φ := fun _ => none, I := fun b => b < W.heap.size }
section
variable {P : Program} {W : World} {c : Ctx} {t : TypeId} {v : Value} {ps : List PV} {p : PV} {r : Reach} {base : Nat}
theorem zui (hv : Value.okWide P W r base t v) (ha : tagg P t = some true) (hr : RepL c W (ps.map .pv) v.cells.toList) : Rep c W (.agg (ps.map .pv)) v := by
 unfold Value.okWide at hv
 unfold tagg at ha
 have : ∃ cs, v = .agg cs := by
  cases hu : P.underlying t with
  | none => simp [hu] at ha
  | some d =>
   rw [hu] at hv ha
   cases d with
   | struct fs => obtain ⟨cs, h, _⟩ := hv; exact ⟨cs, h⟩
   | array n e => obtain ⟨cs, h, _⟩ := hv; exact ⟨cs, h⟩
   | _ => simp at ha
 obtain ⟨cs, rfl⟩ := this
 simp only [Rep]
 exact ⟨cs, rfl, hr⟩
theorem zry {f : FuncId} {args : List AV} {vals : List Value} (hok : Ok P f args [] (B true) [] []) (hr : RepL (zlV W) W args vals) : Calls P f vals.toArray W fun e W' => e = .returned (.bool true) ∧ Below W.heap.size W W' := by
 have hrel : HRel ⟨zlV W, W, ([] : List VObj).length⟩ (idx 0 []) [] (zlV W) W :=
  ⟨fun id o loc h1 _ => by simp [idx, hget] at h1, fun id o b cap h1 _ => by simp [idx, hget] at h1, fun id id' o o' b cap cap' _ h1 _ _ _ => by simp [idx, hget] at h1, fun b hb => hb, Nat.le_refl _, rfl, rfl, rfl, fun _ _ _ => rfl, fun _ _ => Iff.rfl, fun _ _ _ h => h, fun _ _ h => h⟩
 refine Calls.mono (hok (zlV W) W vals hr hrel (fun _ _ => rfl)) (fun e W' hpost => ?_)
 obtain ⟨v, c', he, hv, hrl, _⟩ := hpost
 simp only [Rep, RepP] at hv
 subst hv
 refine ⟨he, ⟨hrl.os, hrl.tape, hrl.output, hrl.size, fun k hk => hrl.blk k hk ?_⟩⟩
 rintro ⟨id, cap, hid, _⟩
 have h1 : id < 0 := hid
 omega
end
end Go.Proofs.YtppnccjeggnllaaGreatVm

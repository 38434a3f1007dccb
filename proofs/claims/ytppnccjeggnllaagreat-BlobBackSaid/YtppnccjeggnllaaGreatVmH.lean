import Derived.Test.YtppnccjeggnllaaGreatVmG
namespace Go.Proofs.YtppnccjeggnllaaGreatVm
open Go Go.RowKit
set_option linter.all false
section
variable {P : Program} {B : Base} {S : St} {c c' : Ctx} {w w' : World} {a : Act} {H : Heap} {mv : List Nat}
theorem zjA {T : Tm} {d : Option Tmp} {v : AV} {t : Nat} : tget (tput T d v) t = if d = some t then some v else tget T t := by
 cases d with
 | none => simp [tput]
 | some d => simp [tput, tget]
theorem zdf : ∀ {H : Heap} {id k : Nat} {o : VObj}, hget (hset H id o) k = if k = id then (hget H id).map (fun _ => o) else hget H k
 | [], id, k, o => by simp [hset, hget]
 | (j, x) :: r, id, k, o => by
  simp only [hset]
  split
  ·rename_i h
   subst h
   simp only [hget]
   by_cases hk : k = j
   ·subst hk; simp
   ·simp [hk, Ne.symm hk]
  ·rename_i h
   simp only [hget]
   by_cases hk : k = id
   ·subst hk
    simp only [if_neg h, if_true]
    rw [zdf]; simp
   ·rw [zdf]
    simp [hk]
theorem zdR {o : Option Tmp} {v : Value} {av : AV} (ht : ∀ t v, tget S.T t = some v → Rep c w v (a.tmps.getD t undef)) (hn : ∀ d, o = some d → d < a.tmps.size) (hr : Rep c w av v) :
  ∀ t x, tget (tput S.T o av) t = some x → Rep c w x ((a.put o v).tmps.getD t undef) := by
 intro t x h
 rw [zjA] at h
 cases o with
 | none => simp at h; exact ht t x h
 | some d =>
  simp only [Option.some.injEq] at h
  by_cases e : d = t
  ·subst e
   rw [if_pos rfl] at h
   obtain rfl := inj1 h
   have := hn d rfl
   simpa [Act.put, this] using hr
  ·rw [if_neg e] at h
   have := ht t x h
   simpa [Act.put, Array.getElem?_setIfInBounds_ne e] using this
theorem HRel.write {id b cap : Nat} {o o' : VObj} (h : HRel B H mv c w) (ho : hget H id = some o) (hφ : c.φ id = some (.blk b cap)) (hsz : w'.heap.size = w.heap.size) (hos : w'.os = w.os) (htp : w'.tape = w.tape) (hou : w'.output = w.output)
  (hoth : ∀ k, k ≠ b → w'.heap[k]? = w.heap[k]?) (hrep : zbe c w' o' (.blk b cap)) : HRel B (hset H id o') mv c w' ∧ za1 c c w w' := by
 have hown := h.own id o b cap ho hφ
 have hho : za1 c c w w' := fun k hk => ⟨hk, hoth k (fun e => hown.2.1 (e ▸ hk))⟩
 have hget' : ∀ k x, hget (hset H id o') k = some x → (k = id ∧ x = o') ∨ (k ≠ id ∧ hget H k = some x) := by
  intro k x hx
  rw [zdf] at hx
  split at hx
  ·rename_i e; subst e; rw [ho] at hx; simp at hx; exact .inl ⟨rfl, hx.symm⟩
  ·rename_i e; exact .inr ⟨e, hx⟩
 refine ⟨⟨fun k x loc h1 h2 => ?_, fun k x b' cap' h1 h2 => ?_, fun k k' x x' b1 c1 c2 hne h1 h2 h3 h4 => ?_, fun k hk => hsz ▸ h.imm k hk, hsz ▸ h.size, hos.trans h.os, htp.trans h.tape, hou.trans h.output, fun k hk hf => ?_, h.I, h.φ, h.und⟩, hho⟩
 ·rcases hget' k x h1 with ⟨rfl, rfl⟩ | ⟨hne, h1⟩
  ·rw [hφ] at h2; cases h2; exact hrep
  ·refine (h.heap k x loc h1 h2).mono hho (fun _ _ h => h) (fun b' cap' e => hoth b' (fun e' => ?_))
   subst e; subst e'
   exact h.apart k id x o b' cap' cap hne h1 ho h2 hφ
 ·rcases hget' k x h1 with ⟨rfl, rfl⟩ | ⟨hne, h1⟩
  ·rw [hφ] at h2; cases h2; exact ⟨hsz ▸ hown.1, hown.2⟩
  ·have := h.own k x b' cap' h1 h2; exact ⟨hsz ▸ this.1, this.2⟩
 ·have e1 : ∃ y, hget H k = some y := by
   rcases hget' k x h1 with ⟨rfl, _⟩ | ⟨_, h1⟩
   ·exact ⟨o, ho⟩
   ·exact ⟨x, h1⟩
  have e2 : ∃ y, hget H k' = some y := by
   rcases hget' k' x' h2 with ⟨rfl, _⟩ | ⟨_, h2⟩
   ·exact ⟨o, ho⟩
   ·exact ⟨x', h2⟩
  obtain ⟨y, e1⟩ := e1
  obtain ⟨y', e2⟩ := e2
  exact h.apart k k' y y' b1 c1 c2 hne e1 e2 h3 h4
 ·rw [hoth k (fun e => ?_)]
  ·exact h.blk k hk hf
  ·subst e
   rcases (h.ownFoot ho hφ).2.2 with h1 | h1
   ·omega
   ·exact hf h1
theorem zdg : ∀ (vs cs : List PV) (i : Nat), (zgh cs i vs).length = cs.length
 | [], _, _ => rfl
 | v :: vs, cs, i => by simp [zgh, zdg vs]
theorem zhD : ∀ (vs cs : List PV) (i : Nat), (zgh cs i vs).map AV.pv = zb5 (cs.map .pv) i (vs.map .pv)
 | [], _, _ => rfl
 | v :: vs, cs, i => by simp only [zgh, zb5, List.map_cons]; rw [zhD]; simp [List.map_set]
theorem zdI : ∀ (us cs : List Value) (i : Nat), i + us.length ≤ cs.length → zeB cs i us = cs.take i ++ us ++ cs.drop (i + us.length)
 | [], cs, i, _ => by simp [zeB]
 | u :: us, cs, i, h => by
  simp only [List.length_cons] at h
  rw [zeB, zdI us (cs.set i u) (i + 1) (by simp; omega)]
  have hlt : i < cs.length := by omega
  rw [List.take_succ_eq_append_getElem (by simpa using hlt)]
  rw [List.drop_set_of_lt (by omega), List.take_set_of_le (Nat.le_refl _)]
  rw [show i + 1 + us.length = i + (us.length + 1) by omega]
  simp only [List.getElem_set_self, List.length_cons, List.append_assoc, List.cons_append, List.nil_append]
theorem zfA {b off : Nat} {e : TypeId} {arr : Array Value} {us : List Value} (hb : w.heap[b]? = some (.cells arr e (0, 0))) (h1 : ∀ u ∈ us, u.oneCell' = true) (hl : off + us.length ≤ arr.size) :
  ∃ w', (storeCells ⟨b, off, none⟩ us).run P w = .ok () w' ∧ w'.heap.size = w.heap.size ∧ w'.os = w.os ∧ w'.tape = w.tape ∧ w'.output = w.output ∧ (∀ k, k ≠ b → w'.heap[k]? = w.heap[k]?) ∧
   w'.heap[b]? = some (.cells (zeB arr.toList off us).toArray e (0, 0)) := by
 have hst := run_storeCells_at P b off e us 0 arr w hb (by simpa using hl) h1
 refine ⟨_, hst, ?_, rfl, rfl, rfl, fun k hk => setRow_other w b k _ (fun e => hk e), ?_⟩
 ·simp [World.setRow]
 ·rw [setRow_heap w b arr _ e _ hb, zdI _ _ _ (by simpa using hl)]
  simp
theorem zf8 {k : List Nat} : ∀ {T : Tm} {t : Nat}, tget (zgL k T) t = (tget T t).map (purge k)
 | [], _ => rfl
 | (j, v) :: r, t => by
  simp only [zgL, List.map_cons, tget]
  split
  ·rfl
  ·exact zf8 (T := r)
theorem zeZ {k : List Nat} : ∀ {H : Heap} {t : Nat}, hget (zdW k H) t = (hget H t).map (zev k)
 | [], _ => rfl
 | (j, v) :: r, t => by
  simp only [zdW, List.map_cons, hget]
  split
  ·rfl
  ·exact zeZ (H := r)
theorem zbe.purge {k : List Nat} (hI : za1 c c' w w') (hφ : zeg k c c') {o : VObj} {loc : Loc} (h : zbe c w o loc) (hb : ∀ b cap, loc = .blk b cap → w'.heap[b]? = w.heap[b]?) : zbe c' w' (zev k o) loc := by
 cases o with
 | mp es =>
  cases loc with
  | virt => exact h
  | blk b cap =>
   obtain ⟨arr, k, h1, h5⟩ := h
   exact ⟨arr, k, by rw [hb b cap rfl]; exact h1, h5.mono hI⟩
 | row e sz cs =>
  cases loc with
  | virt => exact h
  | blk b cap =>
   obtain ⟨arr, h1, h2, h3, h4, h5⟩ := h
   refine ⟨arr, by rw [hb b cap rfl]; exact h1, h2, h3, h4, ?_⟩
   have := RepL.purge hI hφ _ _ h5
   have e : ∀ l : List PV, zd7 k (l.map .pv) = l.map .pv := by
    intro l; induction l with
    | nil => rfl
    | cons x l ih => simp [zd7, YtppnccjeggnllaaGreatVm.purge, ih]
   rwa [e] at this
 | box cs =>
  cases loc with
  | virt => exact h
  | blk b cap =>
   obtain ⟨arr, t, h1, h5⟩ := h
   exact ⟨arr, t, by rw [hb b cap rfl]; exact h1, RepL.purge hI hφ _ _ h5⟩
theorem HRel.move {id : Nat} {o o' : VObj} {loc' : Loc} (h : HRel B H mv c w) (ho : hget H id = some o) (hdef : c.φ id ≠ none) (hnr : ∃ e sz cs, o' = .row e sz cs) (hsz : w.heap.size ≤ w'.heap.size) (hos : w'.os = w.os) (htp : w'.tape = w.tape) (hou : w'.output = w.output)
  (hoth : ∀ k, k < w.heap.size → (∀ cap, c.φ id ≠ some (.blk k cap)) → w'.heap[k]? = w.heap[k]?)
  (hI : c'.I = c.I) (hφ : ∀ k, k ≠ id → c'.φ k = c.φ k) (hφ' : c'.φ id = some loc') (hrep : zbe c' w' o' loc')
  (hloc : ∀ b cap, loc' = .blk b cap → (w.heap.size ≤ b ∧ b < w'.heap.size) ∨ ∃ cap', c.φ id = some (.blk b cap')) :
  HRel B (zdW [id] (hset H id o')) (id :: mv) c' w' ∧ za1 c c' w w' ∧ zeg [id] c c' := by
 have hho : za1 c c' w w' := fun k hk => ⟨hI ▸ hk, hoth k (h.imm k hk) (fun cap e => (h.own id o k cap ho e).2.1 hk)⟩
 have hgo : zeg [id] c c' := fun k loc hne hk => by rw [hφ k (by simpa using hne)]; exact hk
 have hget' : ∀ k x, hget (zdW [id] (hset H id o')) k = some x → (k = id ∧ x = o') ∨ (k ≠ id ∧ ∃ y, hget H k = some y ∧ x = zev [id] y) := by
  intro k x hx
  rw [zeZ, zdf] at hx
  split at hx
  ·rename_i e; subst e; rw [ho] at hx; simp at hx
   obtain ⟨e, sz, cs, rfl⟩ := hnr
   exact .inl ⟨rfl, hx.symm⟩
  ·rename_i e
   simp only [Option.map_eq_some_iff] at hx
   obtain ⟨y, h1, h2⟩ := hx
   exact .inr ⟨e, y, h1, h2.symm⟩
 have hownid : ∀ b cap, loc' = .blk b cap → b < w'.heap.size ∧ ¬ c'.I b ∧ (B.w0.heap.size ≤ b ∨ (id < B.m ∧ ∃ cap, B.c0.φ id = some (.blk b cap))) := by
  intro b cap e
  rcases hloc b cap e with ⟨h1, h2⟩ | ⟨cap', h1⟩
  ·exact ⟨h2, fun hi => by have := h.imm b (hI ▸ hi); omega, .inl (Nat.le_trans h.size h1)⟩
  ·have := h.own id o b cap' ho h1
   exact ⟨Nat.lt_of_lt_of_le this.1 hsz, hI ▸ this.2.1, this.2.2⟩
 refine ⟨⟨fun k x loc h1 h2 => ?_, fun k x b' cap' h1 h2 => ?_, fun k k' x x' b1 c1 c2 hne h1 h2 h3 h4 => ?_, fun k hk => Nat.lt_of_lt_of_le (h.imm k (hI ▸ hk)) hsz, Nat.le_trans h.size hsz, hos.trans h.os, htp.trans h.tape, hou.trans h.output, fun k hk hf => ?_, fun k hk => by rw [hI]; exact h.I k hk, fun k loc hm hk => ?_, fun k hk h1 => ?_⟩, hho, hgo⟩
 ·rcases hget' k x h1 with ⟨rfl, rfl⟩ | ⟨hne, y, hy, rfl⟩
  ·rw [hφ'] at h2; cases h2; exact hrep
  ·rw [hφ k hne] at h2
   refine (h.heap k y loc hy h2).purge hho hgo (fun b' cap' e => hoth b' ?_ (fun cap e' => ?_))
   ·subst e; exact (h.own k y b' cap' hy h2).1
   ·subst e; exact h.apart k id y o b' cap' cap hne hy ho h2 e'
 ·rcases hget' k x h1 with ⟨rfl, rfl⟩ | ⟨hne, y, hy, rfl⟩
  ·rw [hφ'] at h2; cases h2; exact hownid b' cap' rfl
  ·rw [hφ k hne] at h2
   have := h.own k y b' cap' hy h2
   exact ⟨Nat.lt_of_lt_of_le this.1 hsz, hI ▸ this.2.1, this.2.2⟩
 ·have key : ∀ {k' x' c2}, k' ≠ id → hget (zdW [id] (hset H id o')) k' = some x' → c'.φ k' = some (.blk b1 c2) → (∃ c1, loc' = .blk b1 c1) → False := by
   intro k' x' c2 hne' h2 h4 ⟨c1, h3⟩
   rcases hget' k' x' h2 with ⟨rfl, _⟩ | ⟨_, y, hy, rfl⟩
   ·exact hne' rfl
   ·rw [hφ k' hne'] at h4
    have h5 := (h.own k' y b1 c2 hy h4).1
    rcases hloc b1 c1 h3 with ⟨h6, _⟩ | ⟨cap', h6⟩
    ·omega
    ·exact h.apart k' id y o b1 c2 cap' hne' hy ho h4 h6
  by_cases e1 : k = id
  ·subst e1
   rw [hφ'] at h3
   exact key (Ne.symm hne) h2 h4 ⟨c1, inj1 h3⟩
  ·by_cases e2 : k' = id
   ·subst e2
    rw [hφ'] at h4
    exact key e1 h1 h3 ⟨c2, inj1 h4⟩
   ·rcases hget' k x h1 with ⟨rfl, _⟩ | ⟨_, y, hy, rfl⟩
    ·exact e1 rfl
    rcases hget' k' x' h2 with ⟨rfl, _⟩ | ⟨_, y', hy', rfl⟩
    ·exact e2 rfl
    rw [hφ k e1] at h3
    rw [hφ k' e2] at h4
    exact h.apart k k' y y' b1 c1 c2 hne hy hy' h3 h4
 ·rw [hoth k (Nat.lt_of_lt_of_le hk h.size) (fun cap e => ?_)]
  ·exact h.blk k hk hf
  ·rcases (h.ownFoot ho e).2.2 with h1 | h1
   ·omega
   ·exact hf h1
 ·simp only [List.mem_cons, not_or] at hm
  rw [hφ k hm.1]
  exact h.φ k loc hm.2 hk
 ·have h2 := h.und k hk h1
  rw [hφ k (fun e => hdef (e ▸ h2))]
  exact h2
theorem zb7 (hs : SRel B S c w a) {x : Operand} {v : AV} (h : S.ev x = some v) : Rep c w v (a.eval x) := by
 cases x with
 | tmp t => exact hs.t t v h
 | const u => exact zfi h
 | func f => simp only [St.ev] at h; obtain rfl := inj1 h; exact ⟨_, rfl, by simp [RepL]⟩
 | global g => simp [St.ev] at h
theorem ziE (hs : SRel B S c w a) (op : Op) : zcd c w op S.ev a.eval := fun _ _ _ h => zb7 hs h
def St.applyW (S : St) (dst : Option Tmp) (v : Option AV) (H' : Heap) : Option Nat → St
 | none => { S with T := tput S.T dst (v.getD .undef), H := H' }
 | some k => { S with T := tput (zgL [k] S.T) dst (v.getD .undef), H := zdW [k] H', mv := k :: S.mv }
theorem zcx (a : Act) (d : Option Tmp) (v : Value) : (a.put d v).tmps.size = a.tmps.size := by cases d <;> simp [Act.put]
theorem za9 (a : Act) (d : Option Tmp) (v : Value) : (a.put d v).defers = a.defers := by cases d <;> rfl
theorem zns {x : AV} {u : Value} (h1 : told x = true) (h2 : (za0 x).all one = true) (h : Rep c w x u) : ∀ v ∈ u.cells.toList, v.oneCell' = true := zeC h2 (zfN h1 h)
theorem inj4 {α β γ : Type} {p q : Prop} {b d : α} {e f : β} {g h : γ} (x : some (p, b, e, g) = some (q, d, f, h)) : p = q ∧ b = d ∧ e = f ∧ g = h := by cases x; exact ⟨rfl, rfl, rfl, rfl⟩
theorem zkA {o : Oper} {cond : Prop} {v : Option AV} {H' : Heap} {k : Option Nat} (hs : SRel B S c w a) (he : zgW P S.ev S.H o.op = some (cond, v, H', k)) (hc : cond) (hd : ∀ d, o.dst = some d → d < S.nt) :
  ∃ w' c', ((v = none ∧ (execOp a.eval o).run P w = .ok .skip w' ∧ SRel B (S.applyW o.dst v H' k) c' w' (a.put o.dst undef)) ∨
   ∃ u, (execOp a.eval o).run P w = .ok (.value u) w' ∧ SRel B (S.applyW o.dst v H' k) c' w' (a.put o.dst u)) := by
 unfold zgW at he
 split at he
 ·rename_i t x y hop
  split at he
  case h_2 => simp at he
  rename_i id off av s hx hy hsz
  split at he
  case isFalse => simp at he
  rename_i hcnd
  obtain ⟨ht, h1, hlen⟩ := hcnd
  split at he
  case h_2 => simp at he
  rename_i ob hob
  split at he
  case h_2 => simp at he
  rename_i c1 ob' hst
  obtain ⟨rfl, rfl, rfl, rfl⟩ := inj4 he
  have hrx := zb7 hs hx
  have hry := zb7 hs hy
  simp only [Rep] at hrx
  obtain ⟨b, cap, hφ, hv⟩ := hrx
  have hcells := zfN ht hry
  have hones := zns ht h1 hry
  have hobj := hs.h.heap id ob _ hob hφ
  obtain ⟨us, hus⟩ : ∃ us, us = (a.eval y).cells.toList := ⟨_, rfl⟩
  rw [← hus] at hcells hones
  have hcl : us.length = s := by rw [← z4 hcells]; exact hlen
  have hcl' : (a.eval y).cells.size = s := by rw [← Array.length_toList, ← hus]; exact hcl
  obtain ⟨arr, e, hb, hle, hrepo⟩ : ∃ arr e, w.heap[b]? = some (.cells arr e (0, 0)) ∧ off + us.length ≤ arr.size ∧
    ∀ w', za1 c c w w' → w'.heap[b]? = some (.cells (zeB arr.toList off us).toArray e (0, 0)) → zbe c w' ob' (.blk b cap) := by
   cases ob with
   | mp es => simp [zeM] at hst
   | box cs =>
    simp only [zeM] at hst
    obtain ⟨rfl, rfl⟩ := zaq hst
    obtain ⟨arr, e, hb, hl⟩ := hobj
    have hll := z4 hl
    have hl2 := z4 hcells
    simp only [Array.length_toList] at hll
    exact ⟨arr, e, hb, by omega, fun w' hh hb' => ⟨_, e, hb', by simpa using RepL.mono hh (fun _ _ h => h) _ _ (zdZ (i := off) hl hcells)⟩⟩
   | row e sz cs =>
    simp only [zeM] at hst
    split at hst
    case h_2 => simp at hst
    rename_i ps hps
    obtain ⟨rfl, rfl⟩ := zaq hst
    obtain ⟨arr, hb, h2, h3, h4, hl⟩ := hobj
    have hpe := zgx hps
    have hl2 := z4 hcells
    refine ⟨arr, e, hb, by omega, fun w' hh hb' => ⟨_, hb', by simp [zbr, h2], h3, by simp [zbr, zdg, h4], ?_⟩⟩
    rw [zhD, zdg, ← hpe]
    have h5 := zdZ (i := off) hl hcells
    have h6 : zeB (arr.toList.take cs.length) off us = (zeB arr.toList off us).take cs.length := by
     rw [zdI _ _ _ (by simp; omega), zdI _ _ _ (by simp; omega)]
     rw [List.take_append, List.take_append]
     simp only [List.take_take, List.length_take, List.length_append, Array.length_toList]
     have e1 : min off cs.length = off := by omega
     have e2 : min off arr.size = off := by omega
     rw [e1, e2, Nat.min_comm cs.length off, e1]
     rw [List.take_of_length_le (i := cs.length - off) (by omega)]
     rw [List.drop_take]
    rw [h6] at h5
    exact RepL.mono hh (fun _ _ h => h) _ _ (by simpa using h5)
  obtain ⟨w', hrun, hwsz, hos, htp, hou, hoth, hb'⟩ := zfA (P := P) hb hones hle
  have hoth' : ∀ k, k ≠ b → w'.heap[k]? = w.heap[k]? := hoth
  have hho : za1 c c w w' := fun k hk => ⟨hk, hoth k (fun e => (hs.h.own id ob b cap hob hφ).2.1 (e ▸ hk))⟩
  obtain ⟨hH, _⟩ := hs.h.write (o' := ob') hob hφ hwsz hos htp hou hoth (hrepo w' hho hb')
  refine ⟨w', c, .inl ⟨rfl, ?_, ⟨hH, ?_, by rw [zcx]; exact hs.nt, by rw [za9]; exact hs.df, hs.fresh, hs.lo, fun k x hk => ?_, hs.mlo, hs.nlo⟩⟩⟩
  ·simp only [execOp, hop, Sem.run_bind, Instr.storeAt, hv, Instr.sureAddr, Sem.run_pure, Result.andThen_ok, storeVar, zaS hsz]
   rw [if_neg (by simp; omega), ← hus]
   simp only [hrun, Result.andThen_ok]
  ·exact zdR (fun t v h => Rep.mono hho (fun _ _ h => h) _ _ (hs.t t v h)) (fun d h => by rw [hs.nt]; exact hd d h) trivial
  ·have hk' : hget (hset S.H id ob') k = some x := hk
   rw [zdf] at hk'
   split at hk'
   ·rename_i e; subst e; exact hs.wf _ _ hob
   ·exact hs.wf _ _ hk'
 ·rename_i cl hop
  split at he
  case h_2 => simp at he
  rename_i hcal
  split at he
  case h_2 => simp at he
  rename_i id sz off n x t u hvs hts
  split at he
  case h_2 => simp at he
  rename_i e sz' cs m nw e' hob hcn he'
  split at he
  case h_2 => simp at he
  rename_i sz2 by' zs hsz hby hz
  split at he
  case isFalse => simp at he
  rename_i hcnd
  obtain ⟨rfl, rfl, rfl, rfl, hu⟩ := hcnd
  obtain ⟨rfl, rfl, rfl, rfl⟩ := inj4 he
  obtain ⟨h0, hzl, hcl, hnl, hmx, hb1⟩ := hc
  obtain ⟨callee, args, ts⟩ := cl
  simp only at hcal hvs hts
  subst hcal
  obtain ⟨xs, rfl⟩ : ∃ xs : List Operand, args = xs.toArray := ⟨args.toList, by simp⟩
  obtain ⟨tl, rfl⟩ : ∃ tl : List TypeId, ts = tl.toArray := ⟨ts.toList, by simp⟩
  simp only at hts hvs
  subst hts
  match xs, hvs with
  | [], hvs => simp [evs] at hvs
  | [_], hvs => have := zbA hvs; simp at this
  | _ :: _ :: _ :: _, hvs => have := zbA hvs; simp at this
  | [y1, y2], hvs =>
   simp only [evs] at hvs
   cases hy1 : S.ev y1 with
   | none => simp [hy1] at hvs
   | some a1 =>
    cases hy2 : S.ev y2 with
    | none => simp [hy1, hy2] at hvs
    | some a2 =>
     simp [hy1, hy2] at hvs
     obtain ⟨rfl, rfl⟩ := hvs
     have hrx := zb7 hs hy1
     have hry := zb7 hs hy2
     obtain ⟨i, z, hi, hzi, hzz, hcz⟩ := zf6 hz
     obtain ⟨i', hi', hs'⟩ := zfI hsz
     rw [hi] at hi'; cases hi'
     have hbi := zfk hi hby
     obtain ⟨hlen, news, hnr, hnew⟩ := zcK (P := P) (sz := sz2) hs.h.heap hcn hry hnl
     have hnewlen := z4 hnr
     simp only [List.length_map] at hnewlen
     have hexec : execOp a.eval o = (do pure (.value (← Builtin.append_ #[t, u] o.type #[a.eval y1, a.eval y2])) : Sem Next) := by simp [execOp, hop, resolve, invoke, builtin]
     obtain ⟨hu1, hu2⟩ := zgn hu
     have hones : ∀ v ∈ news, v.oneCell' = true := zeC (zkN nw) hnr
     -- what zhV to be shown, once the row lies somewhere
     have fin : ∀ (w' : World) (c' : Ctx) (uv : Value), (Builtin.append_ #[t, u] o.type #[a.eval y1, a.eval y2]).run P w = .ok uv w' →
       (HRel B (zdW [id] (hset S.H id (.row e' sz2 (cs ++ nw)))) (id :: S.mv) c' w' ∧ za1 c c' w w' ∧ zeg [id] c c') → (∀ j, S.nx ≤ j → c'.φ j = none) → Rep c' w' (.ref id sz2 0 (n + m)) uv →
       ∃ w' c', ((some (AV.ref id sz2 0 (n + m)) = none ∧ (execOp a.eval o).run P w = .ok .skip w' ∧ SRel B (S.applyW o.dst (some (.ref id sz2 0 (n + m))) (hset S.H id (.row e' sz2 (cs ++ nw))) (some id)) c' w' (a.put o.dst undef)) ∨
        ∃ u, (execOp a.eval o).run P w = .ok (.value u) w' ∧ SRel B (S.applyW o.dst (some (.ref id sz2 0 (n + m))) (hset S.H id (.row e' sz2 (cs ++ nw))) (some id)) c' w' (a.put o.dst u)) := by
      intro w' c' uv hrun hH hfr hrep
      obtain ⟨hH1, hH2, hH3⟩ := hH
      refine ⟨w', c', .inr ⟨uv, ?_, ⟨hH1, ?_, by rw [zcx]; exact hs.nt, by rw [za9]; exact hs.df, hfr, hs.lo, fun k x hk => ?_, hs.mlo, hs.nlo⟩⟩⟩
      ·rw [hexec, Sem.run_bind, hrun]; rfl
      ·refine zdR (S := { S with T := zgL [id] S.T }) (fun t v h => ?_) (fun d h => by rw [hs.nt]; exact hd d h) hrep
       simp only [zf8, Option.map_eq_some_iff] at h
       obtain ⟨v0, h1, rfl⟩ := h
       exact Rep.purge hH2 hH3 _ _ (hs.t t v0 h1)
      ·have hk' : hget (zdW [id] (hset S.H id (.row e' sz2 (cs ++ nw)))) k = some x := hk
       rw [zeZ, zdf] at hk'
       split at hk'
       ·rename_i e; subst e; exact hs.wf _ _ hob
       ·simp only [Option.map_eq_some_iff] at hk'
        obtain ⟨y, hy, _⟩ := hk'
        exact hs.wf _ _ hy
     have hdef : c.φ id ≠ none := fun h0 => by
      simp only [Rep] at hrx
      rcases hrx with ⟨h1, _⟩ | ⟨b, cap, ad, h1, _⟩ <;> rw [h0] at h1 <;> cases h1
     have hidlt : ¬ S.nx ≤ id := fun hle => by
      simp only [Rep] at hrx
      rcases hrx with ⟨h1, _⟩ | ⟨b, cap, ad, h1, _⟩ <;> rw [hs.fresh id hle] at h1 <;> cases h1
     -- a new block
     have grow : ∀ (ad : Option Addr) (cap : Nat) (olds : List Value), a.eval y1 = .slice ad n cap → cap < n + m → RepL c w (cs.map .pv) olds → (∀ w' : World, w'.heap = w.heap → (Builtin.firstCells sz2 n (.slice ad n cap)).run P w' = .ok olds.toArray w') →
       ∃ w' c' uv, (Builtin.append_ #[t, u] o.type #[a.eval y1, a.eval y2]).run P w = .ok uv w' ∧
       (HRel B (zdW [id] (hset S.H id (.row e' sz2 (cs ++ nw)))) (id :: S.mv) c' w' ∧ za1 c c' w w' ∧ zeg [id] c c') ∧ (∀ j, S.nx ≤ j → c'.φ j = none) ∧ Rep c' w' (.ref id sz2 0 (n + m)) uv := by
      intro ad cap olds hv hcap hol hold
      have hr := zhP (P := P) (w := w) (ty := o.type) (zai he') hu1 hu2 hi hzi hlen (by rw [hs']; exact hnew) (by rw [hs']; exact hold) (a := ad) (cap := cap) hcap (by omega) hmx
      have hrl := zaZ hol hnr
      rw [← List.map_append] at hrl
      obtain ⟨arr, harr, h5, h6, h7, h8, h9⟩ := zj4 (e := e') (old := cap) (z := z) (N := grownCap w (n + m) cap e') (by omega : z.cells.size = sz2) hrl (by rw [List.length_append, hcl, hnl, Nat.add_mul]) hmx rfl
      let c' : Ctx := { φ := fun k => if k = id then some (.blk w.heap.size (grownCap w (n + m) cap e')) else c.φ k, I := c.I }
      have hheap : (w.drew.alloc (.cells arr e')).heap = w.heap.push (.cells arr e') := rfl
      have hho : za1 c c' w (w.drew.alloc (.cells arr e')) := fun b hb => ⟨hb, by rw [hheap, Array.getElem?_push, if_neg (Nat.ne_of_lt (hs.h.imm b hb))]⟩
      refine ⟨w.drew.alloc (.cells arr e'), c', .slice (some ⟨w.heap.size, 0, none⟩) (n + m) (grownCap w (n + m) cap e'), ?_, ?_, fun j hj => ?_, ?_⟩
      ·rw [hv, hr, harr]; simp
      ·refine hs.h.move hob hdef ⟨_, _, _, rfl⟩ (by rw [hheap]; simp) rfl rfl rfl (fun k hk _ => by rw [hheap, Array.getElem?_push, if_neg (by omega)]) rfl (fun k hk => if_neg hk) (if_pos rfl) ?_ (fun b cp e => by cases e; exact .inl ⟨Nat.le_refl _, by rw [hheap]; simp⟩)
       refine ⟨arr, by rw [hheap]; simp, h5, h7, h9, ?_⟩
       rw [h8]
       have : ∀ (l : List PV) (vs : List Value), RepL c w (l.map .pv) vs → RepL c' (w.drew.alloc (.cells arr e')) (l.map .pv) vs := by
        intro l
        induction l with
        | nil => intro vs h; cases vs <;> simp_all [RepL]
        | cons p l ih =>
         intro vs h
         cases vs with
         | nil => simp [RepL] at h
         | cons v vs =>
          simp only [List.map_cons, RepL, Rep] at h ⊢
          exact ⟨RepP.mono hho _ _ h.1, ih vs h.2⟩
       exact this _ _ hrl
      ·show (if j = id then _ else c.φ j) = none
       rw [if_neg (fun (e : j = id) => hidlt (e ▸ hj))]
       exact hs.fresh j hj
      ·simp only [Rep]
       exact .inr ⟨_, _, _, if_pos rfl, rfl, by omega, h7, .inl (by simp)⟩
     simp only [Rep] at hrx
     rcases hrx with ⟨hφ, _, rfl, ad, hv⟩ | ⟨b, cap, ad, hφ, hv, h5, h6, h7⟩
     ·have hcs : cs = [] := hs.h.heap id _ _ hob hφ
      subst hcs
      by_cases hm0 : m = 0
      ·subst hm0
       have e2 : nw = [] := List.eq_nil_of_length_eq_zero (by omega)
       subst e2
       have e3 : news = [] := List.eq_nil_of_length_eq_zero (by simpa using hnewlen.symm)
       subst e3
       have e4 := hnew w rfl
       rw [← hs'] at e4
       have := zdz (P := P) (w := w) (ty := o.type) (a := ad) (n := 0) (cap := 0) (zai he') hu1 hu2 hi (hlen w) e4 (by omega)
       refine fin w c (.slice ad 0 0) ?_ ?_ hs.fresh ?_
       ·rw [hv, this]; cases ad <;> simp [storeCells]
       ·exact hs.h.move hob hdef ⟨_, _, _, rfl⟩ (Nat.le_refl _) rfl rfl rfl (fun _ _ _ => rfl) rfl (fun _ _ => rfl) hφ rfl (fun b cp e => by cases e)
       ·simp only [Rep]; exact .inl ⟨hφ, trivial, by simp, ad, rfl⟩
      ·obtain ⟨w', c', uv, g1, g2, g3, g4⟩ := grow ad 0 [] hv (by omega) (by simp [RepL]) (fun w' hw => by
        cases ad with
        | none => exact run_firstCells_none w' _ 0 0 _
        | some ad => exact run_firstCells_some (P := P) w' _ 0 ad 0 _ [] (by simp) (by simp))
       exact fin w' c' uv g1 g2 g3 g4
     ·simp only [Nat.sub_zero, Nat.zero_mul] at hv h7
      by_cases hroom : n + m ≤ cap
      ·have hnz : ad = some ⟨b, 0, none⟩ ∨ (n = 0 ∧ m = 0 ∧ cap = 0) := h7.imp (fun h => h) (fun h => by omega)
       obtain ⟨arr, hb, hasz, hacm, hale, hal⟩ := hs.h.heap id _ _ hob hφ
       have e4 := hnew w rfl
       rw [← hs'] at e4
       have hr := zdz (P := P) (w := w) (ty := o.type) (a := ad) (n := n) (cap := cap) (zai he') hu1 hu2 hi (hlen w) e4 hroom
       rcases hnz with rfl | ⟨rfl, rfl, rfl⟩
       ·have hfit : n * sz2 + news.length ≤ arr.size := by rw [hasz, ← hnewlen, hnl, ← Nat.add_mul]; exact Nat.mul_le_mul_right _ hroom
        obtain ⟨w', hrun, hwsz, hos, htp, hou, hoth, hb'⟩ := zfA (P := P) (off := n * sz2) hb hones hfit
        have hho : za1 c c w w' := fun k hk => ⟨hk, hoth k (fun e => (hs.h.own id _ b cap hob hφ).2.1 (e ▸ hk))⟩
        refine fin w' c (.slice (some ⟨b, 0, none⟩) (n + m) cap) ?_ ?_ hs.fresh ?_
        ·rw [hv, hr]
         simp only [zbc, Nat.zero_add, hs', hrun, Result.andThen_ok]
        ·refine hs.h.move hob hdef ⟨_, _, _, rfl⟩ (Nat.le_of_eq hwsz.symm) hos htp hou (fun k _ hk => hoth k (fun e => hk cap (e ▸ hφ))) rfl (fun _ _ => rfl) hφ ?_ (fun b' cp e => by cases e; exact .inr ⟨cap, hφ⟩)
         refine ⟨_, hb', by simp [zbr, hasz], h6, ?_, ?_⟩
         ·simp only [List.length_append, List.size_toArray, zbr, Array.length_toList]; omega
         ·have h8 := zaZ hal hnr
          rw [← List.map_append] at h8
          have h9 : ((zeB arr.toList (n * sz2) news).toArray.toList).take (cs ++ nw).length = arr.toList.take cs.length ++ news := by
           rw [zdI _ _ _ (by simpa using hfit)]
           simp only [List.length_append, hcl, hnewlen]
           rw [List.take_append_of_le_length (by simp; omega)]
           rw [List.take_of_length_le (by simp; omega)]
          rw [h9]
          exact RepL.mono hho (fun _ _ h => h) _ _ h8
        ·simp only [Rep]; exact .inr ⟨b, cap, some ⟨b, 0, none⟩, hφ, by simp, by omega, h6, .inl (by simp)⟩
       ·have e2 : nw = [] := List.eq_nil_of_length_eq_zero (by omega)
        subst e2
        have e3 : news = [] := List.eq_nil_of_length_eq_zero (by simpa using hnewlen.symm)
        subst e3
        have e5 : cs = [] := List.eq_nil_of_length_eq_zero (by omega)
        subst e5
        refine fin w c (.slice ad 0 0) ?_ ?_ hs.fresh ?_
        ·rw [hv, hr]; cases ad <;> simp [storeCells]
        ·exact hs.h.move hob hdef ⟨_, _, _, rfl⟩ (Nat.le_refl _) rfl rfl rfl (fun _ _ _ => rfl) rfl (fun _ _ => rfl) hφ ⟨arr, hb, hasz, hacm, by simp, by simp [RepL]⟩ (fun b' cp e => by cases e; exact .inr ⟨_, hφ⟩)
        ·simp only [Rep]; exact .inr ⟨b, 0, ad, hφ, rfl, by omega, h6, .inr rfl⟩
      ·obtain ⟨olds, hol, hold⟩ : ∃ olds : List Value, RepL c w (cs.map .pv) olds ∧ ∀ w' : World, w'.heap = w.heap → (Builtin.firstCells sz2 n (.slice ad n cap)).run P w' = .ok olds.toArray w' := by
        have := zcK (P := P) (H := S.H) (x := .ref id sz2 0 n) (vx := .slice ad n cap) (m := n) (sz := sz2) (ps := cs) hs.h.heap (by simp [zch, hob, hcl.symm, List.take_of_length_le (Nat.le_of_eq hcl)]) (by simp only [Rep]; exact .inr ⟨b, cap, ad, hφ, by simp, by omega, h6, by simpa using h7⟩) hcl
        exact this.2
       obtain ⟨w', c', uv, g1, g2, g3, g4⟩ := grow ad cap olds hv (by omega) hol hold
       exact fin w' c' uv g1 g2 g3 g4
 ·simp at he
end
end Go.Proofs.YtppnccjeggnllaaGreatVm

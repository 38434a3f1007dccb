import Derived.Test.YtppnccjeggnllaaGreatVmL
namespace Go.Proofs.YtppnccjeggnllaaGreatVm
open Go Go.RowKit
set_option linter.all false
section
variable {P : Program} {B : Base} {ops : Array Oper}
structure zkV (P : Program) (B : Base) (ops : Array Oper) (S : St) (o : Oper) (v : AV) (S' : St) : Prop where
 t : S'.T = tput S.T o.dst v
 mv : S'.mv = S.mv
 nt : S'.nt = S.nt
 lo : S'.lo = S.lo
 nx : S.nx ≤ S'.nx
 old : ∀ id, id < S.nx → hget S'.H id = hget S.H id
 wf : ∀ id ob, hget S'.H id = some ob → id < S'.nx
 sound : ∀ (Hf : Heap) (mvB : List Nat) (c : Ctx) (w : World) (a : Act) (Q : Exit → Act → World → Prop), HRel B Hf mvB c w → (∀ id, id < S'.nx → hget Hf id = hget S'.H id) → (∀ id, S.nx ≤ id → id < S'.nx → c.φ id = none) →
  (∀ t ∈ Oper.looksAt ops o, ∀ x, tget S.T t = some x → Rep c w x (a.tmps.getD t undef)) →
  ∀ K : Act → World → Prop, (∀ (c' : Ctx) (w' : World) (v' : Value), Rep c' w' v v' → HRel B Hf mvB c' w' → Goes c c' → za1 c c' w w' → (∀ id, (id < S.nx ∨ S'.nx ≤ id) → c'.φ id = c.φ id) → K (a.put o.dst v') w') →
  if Region.wanted o (yielded ops a.tmps) then o.wp P a w K Q else K (a.put o.dst undef) w
theorem zeJ {S : St} {c : Ctx} {w : World} {a : Act} {o : Oper} {b : Bool} (ht : ∀ t ∈ Oper.looksAt ops o, ∀ x, tget S.T t = some x → Rep c w x (a.tmps.getD t undef)) (h : zbV ops S o = some b) : Region.wanted o (yielded ops a.tmps) = b := by
 unfold zbV at h
 cases hg : o.guard with
 | none => rw [hg] at h; obtain rfl := inj1 h; simp [Region.wanted, hg]
 | some jw =>
  obtain ⟨j, want⟩ := jw
  have h0 := h
  rw [hg] at h
  simp only at h
  cases htm : (ops[j]?).bind (·.dst) with
  | none => rw [htm] at h; simp at h
  | some t =>
   have hlk : t ∈ Oper.looksAt ops o := by simp [Oper.looksAt, hg, htm]
   refine zci (c := c) (w := w) (S := { S with T := match tget S.T t with | some x => [(t, x)] | none => [] }) (ops := ops) (fun t' v h' => ?_) (o := o) ?_
   ·simp only at h'
    cases hx : tget S.T t with
    | none => rw [hx] at h'; simp [tget] at h'
    | some x =>
     rw [hx] at h'
     simp only [tget] at h'
     split at h'
     ·rename_i e; subst e; obtain rfl := inj1 h'; exact ht _ hlk _ hx
     ·cases h'
   ·unfold zbV
    rw [hg]
    simp only [htm]
    rw [htm] at h
    simp only at h
    cases hx : tget S.T t with
    | none => rw [hx] at h; simp at h
    | some x => rw [hx] at h; simpa [tget] using h
theorem zkO {S : St} {c : Ctx} {w : World} {a : Act} {o : Oper} (ht : ∀ t ∈ Oper.looksAt ops o, ∀ x, tget S.T t = some x → Rep c w x (a.tmps.getD t undef)) : ∀ x ∈ o.op.operands.toList, ∀ v, S.ev x = some v → Rep c w v (a.eval x) := by
 intro x hx v h
 cases x with
 | tmp t => exact ht t (by unfold Oper.looksAt; exact List.mem_append_left _ (List.mem_filterMap.2 ⟨.tmp t, hx, rfl⟩)) v h
 | const u => exact zfi h
 | func f => simp only [St.ev] at h; obtain rfl := inj1 h; exact ⟨_, rfl, by simp [RepL]⟩
 | global g => simp [St.ev] at h
theorem zrg {S : St} {o : Oper} {cond : Prop} {v : AV} {new : Option VObj} (hwf : ∀ id ob, hget S.H id = some ob → id < S.nx) (hlo : B.m ≤ S.nx) (hg : zbV ops S o = some true) (he : zcp P S.ev S.H S.nx o.op o.type = some (cond, v, new)) (hc : cond) : zkV P B ops S o v (S.applyR o.dst v new) := by
 have hH : ∀ id, id < S.nx → hget (S.applyR o.dst v new).H id = hget S.H id := fun id hid => by
  cases new with
  | none => rfl
  | some ob => simp only [St.applyR, hget]; rw [if_neg (by omega)]
 refine ⟨by cases new <;> rfl, by cases new <;> rfl, by cases new <;> rfl, by cases new <;> rfl, by cases new <;> simp [St.applyR], hH, fun id ob h => ?_, ?_⟩
 ·cases new with
  | none => exact hwf id ob h
  | some x =>
   simp only [St.applyR, hget] at h
   show id < S.nx + 1
   split at h
   ·omega
   ·have := hwf id ob h; omega
 ·intro Hf mvB c w a Q h hf hund ht K hK
  rw [if_pos (zeJ ht hg)]
  have hnew : new ≠ none → c.φ S.nx = none := fun hn => by
   cases new with
   | none => exact absurd rfl hn
   | some x => exact hund S.nx (Nat.le_refl _) (by simp [St.applyR])
  have hheap : zdl c w S.H := fun id ob loc h1 h2 => by
   have hlt := hwf id ob h1
   refine h.heap id ob loc ?_ h2
   rw [hf id (by cases new <;> simp [St.applyR] <;> omega), hH id hlt]; exact h1
  obtain ⟨v', w', c', hrun, hgr, hr⟩ := zfp (P := P) (zkO ht) (fun v => rfl) hheap h.imm hnew he hc
  unfold Oper.wp
  rw [hrun]
  have hgr' : zkU B Hf (fun id => id = S.nx ∧ new ≠ none) c w c' w' := Grew.grown hgr hnew h.imm (fun _ => hlo) (fun ob hn => by
   subst hn
   rw [hf S.nx (by simp [St.applyR])]
   simp [St.applyR, hget])
  refine hK c' w' v' hr (h.grown hgr') hgr'.goes (hgr'.holds h.imm) (fun id hid => ?_)
  refine hgr'.φ id (fun hn => ?_)
  obtain ⟨rfl, hne⟩ := hn
  cases new with
  | none => exact hne rfl
  | some x => simp only [St.applyR] at hid; omega
theorem zqR {S : St} {o : Oper} {cond : Prop} {sz n : Nat} {e : TypeId} {cs : List PV} (hwf : ∀ id ob, hget S.H id = some ob → id < S.nx) (hlo : B.m ≤ S.nx) (hg : zbV ops S o = some true) (he : zcp P S.ev S.H S.nx o.op o.type = some (cond, .ref S.nx sz 0 n, some (.row e sz cs))) (hc : cond) (hl : cs.length = n * sz) : zkV P B ops S o (.pv (.slc n false cs)) (S.applyF o.dst (.pv (.slc n false cs))) := by
 refine ⟨rfl, rfl, rfl, rfl, Nat.le_succ _, fun _ _ => rfl, fun id ob h => Nat.lt_succ_of_lt (hwf id ob h), ?_⟩
 intro Hf mvB c w a Q h hf hund ht K hK
 rw [if_pos (zeJ ht hg)]
 have hnx : c.φ S.nx = none := hund S.nx (Nat.le_refl _) (Nat.lt_succ_self _)
 have hheap : zdl c w S.H := fun id ob loc h1 h2 => by
  have hlt := hwf id ob h1
  exact h.heap id ob loc (by rw [hf id (Nat.lt_succ_of_lt hlt)]; exact h1) h2
 obtain ⟨v', w', c', hrun, hr, hrel, hgo, hho, hφ⟩ := zhF (P := P) (zkO ht) (fun v => rfl) hheap h.imm hnx he hc hl
 unfold Oper.wp
 rw [hrun]
 refine hK c' w' v' hr (hrel B Hf mvB h ?_ hlo) hgo hho (fun id hid => hφ id ?_)
 ·rw [hf S.nx (Nat.lt_succ_self _)]
  show hget S.H S.nx = none
  cases h0 : hget S.H S.nx with
  | none => rfl
  | some ob => have := hwf _ _ h0; omega
 ·have : id < S.nx ∨ S.nx + 1 ≤ id := hid
  omega
theorem zmu {S : St} {o : Oper} (hwf : ∀ id ob, hget S.H id = some ob → id < S.nx) (hg : zbV ops S o = some false) : zkV P B ops S o (.tup []) (S.skip o.dst) := by
 refine ⟨rfl, rfl, rfl, rfl, Nat.le_refl _, fun _ _ => rfl, hwf, ?_⟩
 intro Hf mvB c w a Q h hf hund ht K hK
 rw [if_neg (by rw [zeJ ht hg]; simp)]
 exact hK c w undef zjW h (fun _ _ h => h) (fun b hb => ⟨hb, rfl⟩) (fun _ _ => rfl)
theorem zlZ {S : St} {o : Oper} {f : FuncId} {A : List AV} {ids : List Nat} {args : List AV} {Hin Hnew : List VObj} {out : AV} (hwf : ∀ id ob, hget S.H id = some ob → id < S.nx) (hlo : B.m ≤ S.nx) (hg : zbV ops S o = some true)
  (hc : callee S o.op = some (f, A)) (he : zd4 P f = true) (fit : zgZ P S f A ids args Hin out (Hin ++ Hnew) []) : zkV P B ops S o (ren (rho ids S.nx) out) (S.afterCallQ ids out Hnew o.dst) := by
 refine ⟨rfl, rfl, rfl, rfl, Nat.le_add_right _ _, fun id hid => ?_, fun id ob h => ?_, ?_⟩
 ·simp only [St.afterCallQ, zcA, zbR]
  rw [if_neg (by omega)]
 ·simp only [St.afterCallQ, zcA, zbR] at h
  show id < S.nx + Hnew.length
  by_cases hle : S.nx ≤ id
  ·rw [if_pos hle] at h
   cases hm : (Hnew.map (renO (rho ids S.nx)))[id - S.nx]? with
   | some x => have := (List.getElem?_eq_some_iff.1 hm).1; simp at this; omega
   | none => rw [hm] at h; have := hwf _ _ h; omega
  ·omega
 ·intro Hf mvB c w a Q h hf hund ht K hK
  rw [if_pos (zeJ ht hg)]
  refine Oper.wp_mono (fun a' w' h' => ?_) (zik (Q := Q) h hwf hf hund hlo (zkO ht) hc he fit)
  obtain ⟨v', c', rfl, hr, hH, hgo, hho, hφ⟩ := h'
  exact hK c' w' v' hr hH hgo hho hφ
inductive zef (P : Program) (B : Base) (ops : Array Oper) (j : Nat) (S : St) (o : Oper) (S' : St) : Prop
 | quiet (v : AV) (hd : zdn S o = true) (q : (∀ id ob, hget S.H id = some ob → id < S.nx) → B.m ≤ S.nx → zkV P B ops S o v S')
 | loud (ht : total ops j = true) (h : ∀ c w a (Q : Exit → Act → World → Prop), SRel B S c w a → Region.wanted o (yielded ops a.tmps) = true ∧ o.wp P a w (Are B (· = S')) Q)
theorem zmT {tot : Prop} {S : St} {o : Oper} {K : St → Prop} (h : zkx P tot S o K) : ∃ S', K S' ∧ zkx P tot S o (· = S') := by
 rcases h with h | h | h
 case inr.inr =>
  obtain ⟨cond, sz, n, e, cs, he, hc, hl, hK⟩ := zf2 h
  exact ⟨_, hK, .inr (.inr (zoz he hc hl rfl))⟩
 case inr.inl =>
  unfold runX at h
  split at h
  ·rename_i he
   exact ⟨_, h.2.2, .inr (.inl (by unfold runX; rw [he]; exact ⟨h.1, h.2.1, rfl⟩))⟩
  ·rename_i hx
   split at h
   ·rename_i he
    exact ⟨_, h.2.2, .inr (.inl (by unfold runX; rw [hx]; dsimp only; rw [he]; exact ⟨h.1, h.2.1, rfl⟩))⟩
   ·exact h.elim
 suffices hh : ∃ S', K S' ∧ zdk P tot S o (· = S') from by
  obtain ⟨S', h1, h2⟩ := hh
  exact ⟨S', h1, .inl h2⟩
 unfold zdk at h ⊢
 split at h
 ·exact ⟨_, h.2, h.1, rfl⟩
 ·split at h
  ·exact ⟨_, h.2.2, h.1, h.2.1, rfl⟩
  ·split at h
   ·rcases h.2 with ⟨ids, args, Hin, out, Hnew, fit, hK⟩ | ⟨ht, ids, args, Hin, out, Hout, mv, fit, hK⟩
    ·exact ⟨_, hK, h.1, .inl ⟨ids, args, Hin, out, Hnew, fit, rfl⟩⟩
    ·exact ⟨_, hK, h.1, .inr ⟨ht, ids, args, Hin, out, Hout, mv, fit, rfl⟩⟩
   ·exact h.elim
theorem zkv {j : Nat} {S : St} {o : Oper} {K : St → Prop} (h : opWp P ops (true = false ∨ total ops j = true) S o K) : ∃ S', K S' ∧ zef P B ops j S o S' := by
 unfold opWp at h
 obtain ⟨hd, h⟩ := h
 split at h
 ·rename_i hg
  have loud : total ops j = true → ∀ S', zkx P (true = false ∨ total ops j = true) S o (· = S') → zef P B ops j S o S' := fun ht S' hr => .loud ht fun c w a Q hs => ⟨zci hs.t hg, zjc hs hd hr⟩
  have hall := zmT h
  rcases h with h | h | h
  case inr.inr =>
   obtain ⟨cond, sz, n, e, cs, he, hc, hl, hK⟩ := zf2 h
   exact ⟨_, hK, .quiet _ hd fun hwf hlo => zqR hwf hlo hg he hc hl⟩
  case inr.inl =>
   obtain ⟨S', h1, h2⟩ := hall
   unfold runX at h
   split at h
   ·exact ⟨S', h1, loud (by simpa using h.1) S' h2⟩
   ·split at h
    ·exact ⟨S', h1, loud (by simpa using h.1) S' h2⟩
    ·exact h.elim
  unfold zdk at h
  split at h
  ·rename_i cond v new he
   exact ⟨_, h.2, .quiet v hd fun hwf hlo => zrg hwf hlo hg he h.1⟩
  ·split at h
   ·obtain ⟨S', h1, h2⟩ := hall
    exact ⟨S', h1, loud (by simpa using h.1) S' h2⟩
   ·split at h
    ·rename_i f A hc
     obtain ⟨he, h3⟩ := h
     rcases h3 with ⟨ids, args, Hin, out, Hnew, fit, hK⟩ | ⟨ht, ids, args, Hin, out, Hout, mv, fit, hK⟩
     ·exact ⟨_, hK, .quiet _ hd fun hwf hlo => zlZ hwf hlo hg hc he fit⟩
     ·obtain ⟨S', h1, h2⟩ := hall
      exact ⟨S', h1, loud (by simpa using ht) S' h2⟩
    ·exact h.elim
 ·rename_i hg
  exact ⟨_, h, .quiet (.tup []) hd fun hwf _ => zmu hwf hg⟩
 ·exact h.elim
theorem zi4 {Q : St → Prop} : ∀ (l : List Oper) (j : Nat) (S : St), zY P ops true j l S Q →
  ∃ F : Nat → St, F j = S ∧ Q (F (j + l.length)) ∧ ∀ i o, l[i]? = some o → zef P B ops (j + i) (F (j + i)) o (F (j + i + 1))
 | [], j, S, h => ⟨fun _ => S, rfl, h, fun i o hi => by simp at hi⟩
 | o :: l, j, S, h => by
  simp only [zY] at h
  obtain ⟨S', h1, h2⟩ := zkv (B := B) h
  obtain ⟨F, hF, hQ, hst⟩ := zi4 l (j + 1) S' h1
  refine ⟨fun i => if i = j then S else F i, by simp, ?_, fun i o' hi => ?_⟩
  ·simp only [List.length_cons]
   rw [if_neg (by omega), show j + (l.length + 1) = j + 1 + l.length by omega]
   exact hQ
  ·cases i with
   | zero =>
    obtain rfl : o = o' := by simpa using hi
    simp only [Nat.add_zero, if_true]
    rw [if_neg (by omega), hF]
    exact h2
   | succ i =>
    dsimp only
    rw [if_neg (by omega), if_neg (by omega), show j + (i + 1) = j + 1 + i by omega]
    exact hst i o' (by simpa using hi)
def curv (ops : Array Oper) (vals : Nat → AV) (T0 : Tm) (k : Nat) (listed : Array Bool) : Nat → Nat → Option AV
 | 0, t => tget T0 t
 | d + 1, t => if listed.getD (k + d) false = true ∧ (ops[k + d]?).bind (·.dst) = some t then some (vals (k + d)) else curv ops vals T0 k listed d t
structure Part (P : Program) (B : Base) (ops : Array Oper) (F : Nat → St) (vals : Nat → AV) (k k' : Nat) (listed : Array Bool) (c : Ctx) (w : World) (a : Act) : Prop where
 kk : k ≤ k'
 kn : k' ≤ ops.size
 lo : ∀ i, i < k → listed.getD i false = true
 hi : ∀ i, k' ≤ i → listed.getD i false = false
 sz : listed.size = ops.size
 qs : ∀ i, k ≤ i → i < k' → ∀ o, ops[i]? = some o → zdn (F i) o = true ∧ zkV P B ops (F i) o (vals i) (F (i + 1))
 stop : ∀ o, ops[k']? = some o → total ops k' = true ∧ ∀ c w a (Q : Exit → Act → World → Prop), SRel B (F k') c w a → Region.wanted o (yielded ops a.tmps) = true ∧ o.wp P a w (Are B (· = F (k' + 1))) Q
 closed : zfW ops listed
 rel : HRel B (F k').H (F k').mv c w
 und : ∀ i, k ≤ i → i < k' → listed.getD i false = false → ∀ id, (F i).nx ≤ id → id < (F (i + 1)).nx → c.φ id = none
 fresh : ∀ id, (F k').nx ≤ id → c.φ id = none
 nt : a.tmps.size = (F k').nt
 df : a.defers = []
 slo : ∀ id, (F k').lo ≤ id → B.c0.φ id = none
 mlo : B.m = (F k').lo
 nlo : (F k').lo ≤ (F k').nx
 wf : ∀ id ob, hget (F k').H id = some ob → id < (F k').nx
 tm : ∀ t v, curv ops vals (F k).T k listed (k' - k) t = some v → Rep c w v (a.tmps.getD t undef)
section
variable {F : Nat → St} {vals : Nat → AV} {k k' : Nat} {listed : Array Bool} {c : Ctx} {w : World} {a : Act}
theorem Part.along (p : Part P B ops F vals k k' listed c w a) : ∀ d i, k ≤ i → i + d ≤ k' → (F i).nx ≤ (F (i + d)).nx ∧ (F (i + d)).mv = (F i).mv ∧ (F (i + d)).nt = (F i).nt ∧ (F (i + d)).lo = (F i).lo ∧ ∀ id, id < (F i).nx → hget (F (i + d)).H id = hget (F i).H id
 | 0, i, _, _ => ⟨Nat.le_refl _, rfl, rfl, rfl, fun _ _ => rfl⟩
 | d + 1, i, h1, h2 => by
  obtain ⟨e1, e2, e3, e4, e5⟩ := Part.along p d i h1 (by omega)
  have hlt : i + d < ops.size := by have := p.kn; omega
  obtain ⟨_, q⟩ := p.qs (i + d) (by omega) (by omega) ops[i + d] (by simp [hlt])
  refine ⟨Nat.le_trans e1 q.nx, q.mv.trans e2, q.nt.trans e3, q.lo.trans e4, fun id hid => ?_⟩
  rw [show i + (d + 1) = i + d + 1 by omega, q.old id (by omega)]
  exact e5 id hid
theorem ziG (p : Part P B ops F vals k k' listed c w a) (t : Nat) : ∀ d, k + d ≤ k' → (∀ i, k ≤ i → i < k + d → (ops[i]?).bind (·.dst) = some t → listed.getD i false = true) → curv ops vals (F k).T k listed d t = tget (F (k + d)).T t
 | 0, _, _ => rfl
 | d + 1, h1, h2 => by
  have hlt : k + d < ops.size := by have := p.kn; omega
  obtain ⟨_, q⟩ := p.qs (k + d) (by omega) (by omega) ops[k + d] (by simp [hlt])
  have ih := ziG p t d (by omega) (fun i hi hi' => h2 i hi (by omega))
  rw [show k + (d + 1) = k + d + 1 by omega, q.t, zjA]
  simp only [curv]
  have hb : (ops[k + d]?).bind (·.dst) = ops[k + d].dst := by simp [hlt]
  rw [hb]
  by_cases e : ops[k + d].dst = some t
  ·rw [if_pos ⟨h2 (k + d) (by omega) (by omega) (by rw [hb]; exact e), e⟩, if_pos e]
  ·rw [if_neg (fun h => e h.2), if_neg e]; exact ih
theorem zhM (t : Nat) (T0 : Tm) (k : Nat) : ∀ d d', d' ≤ d → (∀ i, k + d' ≤ i → i < k + d → ¬ (listed.getD i false = true ∧ (ops[i]?).bind (·.dst) = some t)) → curv ops vals T0 k listed d t = curv ops vals T0 k listed d' t
 | 0, d', h, _ => by
  obtain rfl : d' = 0 := by omega
  rfl
 | d + 1, d', h, hn => by
  by_cases e : d' = d + 1
  ·rw [e]
  ·simp only [curv]
   rw [if_neg (hn (k + d) (by omega) (by omega))]
   exact zhM t T0 k d d' (by omega) (fun i h1 h2 => hn i h1 (by omega))
theorem ziF (t : Nat) (T0 : Tm) (k i : Nat) (hi : (ops[i]?).bind (·.dst) ≠ some t) : ∀ d, curv ops vals T0 k (listed.setIfInBounds i true) d t = curv ops vals T0 k listed d t
 | 0 => rfl
 | d + 1 => by
  simp only [curv]
  by_cases e : k + d = i
  ·rw [e, if_neg (fun h => hi h.2), if_neg (fun h => hi h.2)]
   exact ziF t T0 k i hi d
  ·rw [getD_set_ne false (Ne.symm e), ziF t T0 k i hi d]
theorem zdU (hc : zfW ops listed) (hsz : listed.size = ops.size) {i : Nat} (hr : i ∈ Region.ready .any ops listed) : zfW ops (listed.setIfInBounds i true) := by
 intro j m hj hb
 by_cases e : j = i
 ·subst e
  exact getD_set_true (zcP hc hr hb)
 ·rw [getD_set_ne false (Ne.symm e)] at hj
  exact getD_set_true (hc j m hj hb)
def cnt (f : Nat → Bool) : Nat → Nat
 | 0 => 0
 | n + 1 => cnt f n + if f n then 1 else 0
theorem zm8 {f g : Nat → Bool} {i : Nat} (hf : f i = true) (hg : g i = false) (h : ∀ j, j ≠ i → g j = f j) : ∀ n, i < n → cnt f n = cnt g n + 1
 | n + 1, hi => by
  simp only [cnt]
  by_cases e : n = i
  ·subst e
   rw [hf, hg]
   have : ∀ m, m ≤ n → cnt f m = cnt g m := fun m => by
    induction m with
    | zero => intro _; rfl
    | succ m ih => intro hm; simp only [cnt]; rw [ih (by omega), h m (by omega)]
   rw [this n (Nat.le_refl _)]
   simp
  ·rw [zm8 hf hg h n (by omega), h n e]
   omega
theorem zlQ {f : Nat → Bool} : ∀ n, cnt f n = 0 → ∀ i, i < n → f i = false
 | n + 1, h, i, hi => by
  simp only [cnt] at h
  by_cases e : i = n
  ·subst e
   cases hf : f i with
   | false => rfl
   | true => rw [hf] at h; simp at h
  ·exact zlQ n (by omega) i (by omega)
theorem zgp (hstep : ∀ j o, ops[j]? = some o → zef P B ops j (F j) o (F (j + 1))) {k : Nat} (hk : k ≤ ops.size) (hs : SRel B (F k) c w a) (hlo : ∀ i, i < k → listed.getD i false = true) (hhi : ∀ i, k ≤ i → listed.getD i false = false) (hsz : listed.size = ops.size) (hc : zfW ops listed) :
  ∃ vals k', Part P B ops F vals k k' listed c w a := by
 have key : ∀ d, ∀ i, ops.size - i = d → k ≤ i → i ≤ ops.size → (∀ id ob, hget (F i).H id = some ob → id < (F i).nx) → B.m ≤ (F i).nx →
   ∃ (vals : Nat → AV) (k' : Nat), i ≤ k' ∧ k' ≤ ops.size ∧ (∀ j, i ≤ j → j < k' → ∀ o, ops[j]? = some o → zdn (F j) o = true ∧ zkV P B ops (F j) o (vals j) (F (j + 1))) ∧
    (∀ o, ops[k']? = some o → total ops k' = true ∧ ∀ c w a (Q : Exit → Act → World → Prop), SRel B (F k') c w a → Region.wanted o (yielded ops a.tmps) = true ∧ o.wp P a w (Are B (· = F (k' + 1))) Q) ∧ (∀ id ob, hget (F k').H id = some ob → id < (F k').nx) := by
  intro d
  induction d with
  | zero =>
   intro i hd hki hin hwf _
   have : i = ops.size := by omega
   subst this
   exact ⟨fun _ => .undef, ops.size, Nat.le_refl _, Nat.le_refl _, fun j h1 h2 => by omega, fun o ho => by simp at ho, hwf⟩
  | succ d ih =>
   intro i hd hki hin hwf hm
   have hlt : i < ops.size := by omega
   cases hstep i ops[i] (by simp [hlt]) with
   | loud ht h =>
    refine ⟨fun _ => .undef, i, Nat.le_refl _, hin, fun j h1 h2 => by omega, fun o ho => ?_, hwf⟩
    have : ops[i] = o := by simpa [hlt] using ho
    subst this
    exact ⟨ht, h⟩
   | quiet v hd' q =>
    have q := q hwf hm
    obtain ⟨vals, k', h1, h2, h3, h4, h5⟩ := ih (i + 1) (by omega) (by omega) (by omega) q.wf (Nat.le_trans hm q.nx)
    refine ⟨fun j => if j = i then v else vals j, k', by omega, h2, fun j h6 h7 o ho => ?_, h4, h5⟩
    by_cases e : j = i
    ·subst e
     have : ops[j] = o := by simpa [hlt] using ho
     subst this
     dsimp only
     rw [if_pos rfl]
     exact ⟨hd', q⟩
    ·dsimp only
     rw [if_neg e]
     exact h3 j (by omega) h7 o ho
 obtain ⟨vals, k', h1, h2, h3, h4, h5⟩ := key _ k rfl (Nat.le_refl _) hk hs.wf (hs.mlo ▸ hs.nlo)
 have along : ∀ d, k + d ≤ k' → (F k).nx ≤ (F (k + d)).nx ∧ (F (k + d)).mv = (F k).mv ∧ (F (k + d)).nt = (F k).nt ∧ (F (k + d)).lo = (F k).lo ∧ ∀ id, id < (F k).nx → hget (F (k + d)).H id = hget (F k).H id := by
  intro d
  induction d with
  | zero => intro _; exact ⟨Nat.le_refl _, rfl, rfl, rfl, fun _ _ => rfl⟩
  | succ d ih =>
   intro hd
   obtain ⟨e1, e2, e3, e4, e5⟩ := ih (by omega)
   have hlt : k + d < ops.size := by omega
   obtain ⟨_, q⟩ := h3 (k + d) (by omega) (by omega) ops[k + d] (by simp [hlt])
   refine ⟨Nat.le_trans e1 q.nx, q.mv.trans e2, q.nt.trans e3, q.lo.trans e4, fun id hid => ?_⟩
   rw [show k + (d + 1) = k + d + 1 by omega, q.old id (by omega)]
   exact e5 id hid
 obtain ⟨e1, e2, e3, e4, e5⟩ := along (k' - k) (by omega)
 rw [show k + (k' - k) = k' by omega] at e1 e2 e3 e4 e5
 refine ⟨vals, k', h1, h2, hlo, fun i hi => hhi i (by omega), hsz, h3, h4, hc, ?_, fun i hi1 hi2 hl id h6 h7 => ?_, fun id hid => hs.fresh id (by omega), by rw [e3]; exact hs.nt, hs.df, by rw [e4]; exact hs.lo, by rw [e4]; exact hs.mlo, by rw [e4]; exact Nat.le_trans hs.nlo e1, h5, fun t v h => ?_⟩
 ·rw [e2]
  exact hs.h.more (fun id o h => by
   by_cases hid : id < (F k).nx
   ·rw [e5 id hid] at h; exact .inl h
   ·exact .inr (hs.fresh id (by omega)))
 ·have := (along (i - k) (by omega)).1
  rw [show k + (i - k) = i by omega] at this
  exact hs.fresh id (by omega)
 ·have hnone : ∀ d, k + d ≤ k' → curv ops vals (F k).T k listed d t = tget (F k).T t := by
   intro d
   induction d with
   | zero => intro _; rfl
   | succ d ih =>
    intro hd
    simp only [curv]
    rw [if_neg (fun h => by rw [hhi (k + d) (by omega)] at h; exact absurd h.1 (by simp))]
    exact ih (by omega)
  rw [hnone (k' - k) (by omega)] at h
  exact hs.t t v h
theorem zlI (hok : zf0 ops = true) (hstep : ∀ j o, ops[j]? = some o → zef P B ops j (F j) o (F (j + 1))) {R : Exit → Act → World → Prop} (hR : ∀ a w, Are B (· = F ops.size) a w → R .normal a w) :
  ∀ (fuel : Nat) (vals : Nat → AV) (k k' : Nat) (listed : Array Bool) (c : Ctx) (w : World) (a : Act), Part P B ops F vals k k' listed c w a → cnt (fun j => !listed.getD j false) ops.size ≤ fuel → wpAny P .any ops R fuel listed a w := by
 have done : ∀ (vals : Nat → AV) (k k' : Nat) (listed : Array Bool) (c : Ctx) (w : World) (a : Act), Part P B ops F vals k k' listed c w a → (∀ j, j < k' → listed.getD j false = true) → SRel B (F k') c w a := by
  intro vals k k' listed c w a p hall
  refine ⟨p.rel, fun t v h => p.tm t v ?_, p.nt, p.df, p.fresh, p.slo, p.wf, p.mlo, p.nlo⟩
  rw [ziG p t (k' - k) (by have := p.kk; omega) (fun i _ hi _ => hall i (by have := p.kk; omega)), show k + (k' - k) = k' by have := p.kk; omega]
  exact h
 have fin : ∀ (vals : Nat → AV) (k k' : Nat) (listed : Array Bool) (c : Ctx) (w : World) (a : Act), Part P B ops F vals k k' listed c w a → Region.ready .any ops listed = [] → R .normal a w := by
  intro vals k k' listed c w a p hr
  have hall := zmw hok p.sz hr
  have hk' : k' = ops.size := by
   have h1 := p.kn
   rcases Nat.lt_or_ge k' ops.size with h2 | h2
   ·have := hall k' h2
    rw [p.hi k' (Nat.le_refl _)] at this; cases this
   ·omega
  have hs := done vals k k' listed c w a p (fun j hj => hall j (by omega))
  rw [hk'] at hs
  exact hR a w ⟨_, c, rfl, hs⟩
 intro fuel
 induction fuel with
 | zero =>
  intro vals k k' listed c w a p hc
  have hall := zlQ ops.size (by omega : cnt (fun j => !listed.getD j false) ops.size = 0)
  have hr : Region.ready .any ops listed = [] := by
   cases hq : Region.ready .any ops listed with
   | nil => rfl
   | cons i l =>
    exfalso
    have hm : i ∈ Region.ready .any ops listed := by rw [hq]; simp
    obtain ⟨h1, o, ho, _⟩ := mem_ready.1 hm
    have hlt : i < ops.size := (Array.getElem?_eq_some_iff.1 ho).1
    have := hall i hlt
    have hl : i < listed.size := by rw [p.sz]; exact hlt
    simp [hl] at this h1
    rw [h1] at this; cases this
  exact ⟨hr, fin vals k k' listed c w a p hr⟩
 | succ fuel ih =>
  intro vals k k' listed c w a p hc
  refine ⟨fin vals k k' listed c w a p, fun i hi => ?_⟩
  obtain ⟨hun, o, ho, _⟩ := mem_ready.1 hi
  have hlt : i < ops.size := (Array.getElem?_eq_some_iff.1 ho).1
  have hil : i < listed.size := by rw [p.sz]; exact hlt
  have hunf : listed.getD i false = false := by simp [hil] at hun ⊢; exact hun
  have hki : k ≤ i := by
   rcases Nat.lt_or_ge i k with h | h
   ·have := p.lo i h; rw [hunf] at this; cases this
   ·exact h
  have hset : (listed.setIfInBounds i true).getD i false = true := by simp [hil]
  have hcnt : cnt (fun j => !(listed.setIfInBounds i true).getD j false) ops.size ≤ fuel := by
   have := zm8 (f := fun j => !listed.getD j false) (g := fun j => !(listed.setIfInBounds i true).getD j false) (i := i) (by simp only [hunf]; rfl) (by simp only [hset]; rfl) (fun j hj => by simp only [getD_set_ne false (Ne.symm hj)]) ops.size hlt
   omega
  have hbind : (ops[i]?).bind (·.dst) = o.dst := by rw [ho]; rfl
  unfold wpOp
  rw [ho]
  simp only
  rcases Nat.lt_or_ge i k' with hik | hik
  ·-- a quiet one
   obtain ⟨hd, q⟩ := p.qs i hki hik o ho
   have along1 := p.along (k' - (i + 1)) (i + 1) (by omega) (by omega)
   rw [show i + 1 + (k' - (i + 1)) = k' by omega] at along1
   obtain ⟨n1, n2, n3, n4, n5⟩ := along1
   -- what it names stands as in the text's order
   have names : ∀ t, t ∈ zee ops o → curv ops vals (F k).T k listed (k' - k) t = tget (F i).T t := by
    intro t ht
    have h1 : curv ops vals (F k).T k listed (k' - k) t = curv ops vals (F k).T k listed (i - k) t := by
     refine zhM t (F k).T k (k' - k) (i - k) (by omega) (fun j h2 h3 h4 => ?_)
     by_cases e : j = i
     ·subst e; rw [hunf] at h4; exact absurd h4.1 (by simp)
     ·have hjs : j < ops.size := by have := p.kn; omega
      have hoj : ops[j]? = some ops[j] := by simp [hjs]
      have := zfj hok (i := i) (j := j) (by omega) ho hoj (d := t) (.inr ⟨by rw [hoj] at h4; exact h4.2, ht⟩)
      have := p.closed j i h4.1 this
      rw [hunf] at this; cases this
    rw [h1, ziG p t (i - k) (by omega) (fun j h2 h3 h4 => ?_), show k + (i - k) = i by omega]
    have hjs : j < ops.size := by omega
    have hoj : ops[j]? = some ops[j] := by simp [hjs]
    exact zcP p.closed hi (zfj hok (i := j) (j := i) (by omega) hoj ho (d := t) (.inl ⟨by rw [hoj] at h4; exact h4, ht⟩))
   have hreps : ∀ t ∈ Oper.looksAt ops o, ∀ x, tget (F i).T t = some x → Rep c w x (a.tmps.getD t undef) := fun t ht x hx =>
    p.tm t x (by rw [names t (by unfold zee; exact List.mem_append_right _ ht)]; exact hx)
   have hq := q.sound (F k').H (F k').mv c w a R p.rel (fun id hid => n5 id hid) (fun id h1 h2 => p.und i hki hik hunf id h1 h2) hreps (wpAny P .any ops R fuel (listed.setIfInBounds i true)) (fun c' w' v' hr hH hgo hho hφ => ?_)
   ·split at hq
    ·rename_i hw; rw [if_pos hw]; exact .inl hq
    ·rename_i hw; rw [if_neg hw]; exact hq
   ·refine ih vals k k' _ c' w' _ ⟨p.kk, p.kn, fun j hj => getD_set_true (p.lo j hj), fun j hj => ?_, by simp [p.sz], p.qs, p.stop, zdU p.closed p.sz hi, hH, fun j h1 h2 h3 id h4 h5 => ?_, fun id hid => ?_, by rw [zcx]; exact p.nt, by rw [za9]; exact p.df, p.slo, p.mlo, p.nlo, p.wf, fun t v h => ?_⟩ hcnt
    ·rw [getD_set_ne false (by omega)]; exact p.hi j hj
    ·by_cases e : j = i
     ·subst e; rw [hset] at h3; cases h3
     ·rw [getD_set_ne false (Ne.symm e)] at h3
      rw [hφ id ?_]
      ·exact p.und j h1 h2 h3 id h4 h5
      ·rcases Nat.lt_or_ge j i with hji | hji
       ·left
        have := (p.along (i - (j + 1)) (j + 1) (by omega) (by omega)).1
        rw [show j + 1 + (i - (j + 1)) = i by omega] at this
        omega
       ·right
        have := (p.along (j - (i + 1)) (i + 1) (by omega) (by omega)).1
        rw [show i + 1 + (j - (i + 1)) = j by omega] at this
        omega
    ·rw [hφ id (.inr (by omega))]; exact p.fresh id hid
    ·by_cases e : o.dst = some t
     ·have hv : curv ops vals (F k).T k (listed.setIfInBounds i true) (k' - k) t = some (vals i) := by
       rw [zhM (listed := listed.setIfInBounds i true) t (F k).T k (k' - k) (i - k + 1) (by omega) (fun j h2 h3 h4 => ?_)]
       ·simp only [curv]
        rw [show k + (i - k) = i by omega, if_pos ⟨hset, by rw [hbind]; exact e⟩]
       ·have hjs : j < ops.size := by have := p.kn; omega
        have hoj : ops[j]? = some ops[j] := by simp [hjs]
        rw [getD_set_ne false (by omega : i ≠ j)] at h4
        have := zfj hok (i := i) (j := j) (by omega) ho hoj (d := t) (.inr ⟨by rw [hoj] at h4; exact h4.2, by unfold zee; simp [e]⟩)
        have := p.closed j i h4.1 this
        rw [hunf] at this; cases this
      rw [hv] at h
      obtain rfl := inj1 h
      have hdlt : t < a.tmps.size := by
       rw [p.nt, n3, q.nt]; exact zgJ hd t e
      simpa [Act.put, e, hdlt] using hr
     ·rw [ziF t (F k).T k i (by rw [hbind]; exact e)] at h
      have h6 := Rep.mono hho hgo _ _ (p.tm t v h)
      cases hod : o.dst with
      | none => simpa [Act.put, hod] using h6
      | some d =>
       have hne : d ≠ t := fun e' => e (by rw [hod, e'])
       simpa [Act.put, hod, Array.getElem?_setIfInBounds_ne hne] using h6
  ·-- the one that stands in order with all others
   have hk'i : k' = i := by
    rcases Nat.lt_or_ge k' i with h | h
    ·exfalso
     have hk'lt : k' < ops.size := by omega
     obtain ⟨ht, _⟩ := p.stop ops[k'] (by simp [hk'lt])
     have := (zgo ht hlt).2 h
     have := zcP p.closed hi this
     rw [p.hi k' (Nat.le_refl _)] at this; cases this
    ·omega
   subst hk'i
   obtain ⟨ht, hl⟩ := p.stop o ho
   have hs := done vals k k' listed c w a p (fun j hj => zcP p.closed hi ((zgo ht (by omega : j < ops.size)).1 hj))
   obtain ⟨hw, hwp⟩ := hl c w a R hs
   rw [if_pos hw]
   left
   refine Oper.wp_mono (fun a' w' h => ?_) hwp
   obtain ⟨S', c', rfl, hs'⟩ := h
   obtain ⟨vals', k'', p'⟩ := zgp hstep (listed := listed.setIfInBounds k' true) (k := k' + 1) (by omega) hs' (fun j hj => by
     by_cases e : j = k'
     ·subst e; exact hset
     ·exact getD_set_true (zcP p.closed hi ((zgo ht (by omega : j < ops.size)).1 (by omega)))) (fun j hj => by rw [getD_set_ne false (by omega)]; exact p.hi j (by omega)) (by simp [p.sz]) (zdU p.closed p.sz hi)
   exact ih vals' _ k'' _ c' w' a' p' hcnt
end
end
end Go.Proofs.YtppnccjeggnllaaGreatVm

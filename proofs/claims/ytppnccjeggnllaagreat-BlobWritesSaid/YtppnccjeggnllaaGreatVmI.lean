import Derived.Test.YtppnccjeggnllaaGreatVmAS
namespace Go.Proofs.YtppnccjeggnllaaGreatVm
open Go Go.RowKit
set_option linter.all false
mutual
def ren (ρ : Nat → Nat) : AV → AV
 | .undef => .undef
 | .pv p => .pv p
 | .pptr cs off => .pptr cs off
 | .ptr id off => .ptr (ρ id) off
 | .ref id sz off n => .ref (ρ id) sz off n
 | .view id off n => .view (ρ id) off n
 | .agg cs => .agg (renL ρ cs)
 | .tup cs => .tup (renL ρ cs)
 | .fnc f cs => .fnc f (renL ρ cs)
 | .bnd f q cs => .bnd f q (renL ρ cs)
 | .mapr id => .mapr (ρ id)
def renL (ρ : Nat → Nat) : List AV → List AV
 | [] => []
 | a :: as => ren ρ a :: renL ρ as
end
mutual
def zao (m : Nat) : AV → Bool
 | .undef => true
 | .pv _ => true
 | .pptr _ _ => true
 | .ptr id _ => decide (id < m)
 | .ref id _ _ _ => decide (id < m)
 | .view id _ _ => decide (id < m)
 | .agg cs => zau m cs
 | .tup cs => zau m cs
 | .fnc _ cs => zau m cs
 | .bnd _ _ cs => zau m cs
 | .mapr id => decide (id < m)
def zau (m : Nat) : List AV → Bool
 | [] => true
 | a :: as => zao m a && zau m as
end
def renO (ρ : Nat → Nat) : VObj → VObj
 | .row e sz cs => .row e sz cs
 | .box cs => .box (renL ρ cs)
 | .mp es => .mp es
 | .arow e sz cs => .arow e sz (renL ρ cs)
def zbC (m : Nat) : VObj → Bool
 | .row _ _ _ => true
 | .box cs => zau m cs
 | .mp _ => true
 | .arow _ _ cs => zau m cs
mutual
theorem Rep.renOut {c c' : Ctx} {w w' : World} {ρ : Nat → Nat} (hI : zaT c c' w w') (hφ : ∀ i loc, c.φ i = some loc → c'.φ (ρ i) = some loc) : ∀ (a : AV) (v : Value), Rep c w a v → Rep c' w' (ren ρ a) v
 | .undef, _, _ => by simp [ren, Rep]
 | .pv p, v, h => by simp only [ren, Rep] at h ⊢; exact RepP.mono hI p v h
 | .pptr cs off, v, h => by
  simp only [ren, Rep] at h ⊢
  obtain ⟨b, o, hv, hb, hc⟩ := h
  exact ⟨b, o, hv, (hI b hb).1, z4.mono hI hb cs o hc⟩
 | .ptr id off, v, h => by simp only [ren, Rep] at h ⊢; obtain ⟨b, cap, h1, h2⟩ := h; exact ⟨b, cap, hφ _ _ h1, h2⟩
 | .ref id sz off n, v, h => by
  simp only [ren, Rep] at h ⊢
  rcases h with ⟨h1, h2⟩ | ⟨b, cap, a, h1, h2⟩
  ·exact .inl ⟨hφ _ _ h1, h2⟩
  ·exact .inr ⟨b, cap, a, hφ _ _ h1, h2⟩
 | .view id off n, v, h => by simp only [ren, Rep] at h ⊢; obtain ⟨b, cap, cp, a, h1, h2⟩ := h; exact ⟨b, cap, cp, a, hφ _ _ h1, h2⟩
 | .agg cs, v, h => by simp only [ren, Rep] at h ⊢; obtain ⟨vs, h1, h2⟩ := h; exact ⟨vs, h1, RepL.renOut hI hφ cs _ h2⟩
 | .tup cs, v, h => by simp only [ren, Rep] at h ⊢; obtain ⟨vs, h1, h2⟩ := h; exact ⟨vs, h1, RepL.renOut hI hφ cs _ h2⟩
 | .fnc f cs, v, h => by simp only [ren, Rep] at h ⊢; obtain ⟨vs, h1, h2⟩ := h; exact ⟨vs, h1, RepL.renOut hI hφ cs _ h2⟩
 | .bnd f q cs, v, h => by simp only [ren, Rep] at h ⊢; obtain ⟨us, vs, h1, h0, h2⟩ := h; exact ⟨us, vs, h1, h0, RepL.renOut hI hφ cs _ h2⟩
 | .mapr id, v, h => by simp only [ren, Rep] at h ⊢; obtain ⟨b, cap, h1, h2⟩ := h; exact ⟨b, cap, hφ _ _ h1, h2⟩
theorem RepL.renOut {c c' : Ctx} {w w' : World} {ρ : Nat → Nat} (hI : zaT c c' w w') (hφ : ∀ i loc, c.φ i = some loc → c'.φ (ρ i) = some loc) : ∀ (as : List AV) (vs : List Value), RepL c w as vs → RepL c' w' (renL ρ as) vs
 | [], [], _ => by simp [renL, RepL]
 | a :: as, v :: vs, h => by simp only [renL, RepL] at h ⊢; exact ⟨Rep.renOut hI hφ a v h.1, RepL.renOut hI hφ as vs h.2⟩
 | [], _ :: _, h => by simp [RepL] at h
 | _ :: _, [], h => by simp [RepL] at h
end
mutual
theorem Rep.renIn {c c' : Ctx} {w : World} {ρ : Nat → Nat} {m : Nat} (hI : ∀ b, c.I b → c'.I b) (hφ : ∀ i loc, i < m → c.φ (ρ i) = some loc → c'.φ i = some loc) : ∀ (a : AV) (v : Value), zao m a = true → Rep c w (ren ρ a) v → Rep c' w a v
 | .undef, _, _, _ => by simp [Rep]
 | .pv p, v, _, h => by simp only [ren, Rep] at h ⊢; exact RepP.mono (fun b hb => ⟨hI b hb, rfl⟩) p v h
 | .pptr cs off, v, _, h => by
  simp only [ren, Rep] at h ⊢
  obtain ⟨b, o, hv, hb, hc⟩ := h
  exact ⟨b, o, hv, hI b hb, z4.mono (fun b hb => ⟨hI b hb, rfl⟩) hb cs o hc⟩
 | .ptr id off, v, hb, h => by simp only [ren, Rep, zao, decide_eq_true_eq] at h hb ⊢; obtain ⟨b, cap, h1, h2⟩ := h; exact ⟨b, cap, hφ _ _ hb h1, h2⟩
 | .ref id sz off n, v, hb, h => by
  simp only [ren, Rep, zao, decide_eq_true_eq] at h hb ⊢
  rcases h with ⟨h1, h2⟩ | ⟨b, cap, a, h1, h2⟩
  ·exact .inl ⟨hφ _ _ hb h1, h2⟩
  ·exact .inr ⟨b, cap, a, hφ _ _ hb h1, h2⟩
 | .view id off n, v, hb, h => by simp only [ren, Rep, zao, decide_eq_true_eq] at h hb ⊢; obtain ⟨b, cap, cp, a, h1, h2⟩ := h; exact ⟨b, cap, cp, a, hφ _ _ hb h1, h2⟩
 | .agg cs, v, hb, h => by simp only [ren, Rep, zao] at h hb ⊢; obtain ⟨vs, h1, h2⟩ := h; exact ⟨vs, h1, RepL.renIn hI hφ cs _ hb h2⟩
 | .tup cs, v, hb, h => by simp only [ren, Rep, zao] at h hb ⊢; obtain ⟨vs, h1, h2⟩ := h; exact ⟨vs, h1, RepL.renIn hI hφ cs _ hb h2⟩
 | .fnc f cs, v, hb, h => by simp only [ren, Rep, zao] at h hb ⊢; obtain ⟨vs, h1, h2⟩ := h; exact ⟨vs, h1, RepL.renIn hI hφ cs _ hb h2⟩
 | .bnd f q cs, v, hb, h => by simp only [ren, Rep, zao] at h hb ⊢; obtain ⟨us, vs, h1, h0, h2⟩ := h; exact ⟨us, vs, h1, h0, RepL.renIn hI hφ cs _ hb h2⟩
 | .mapr id, v, hb, h => by simp only [ren, Rep, zao, decide_eq_true_eq] at h hb ⊢; obtain ⟨b, cap, h1, h2⟩ := h; exact ⟨b, cap, hφ _ _ hb h1, h2⟩
theorem RepL.renIn {c c' : Ctx} {w : World} {ρ : Nat → Nat} {m : Nat} (hI : ∀ b, c.I b → c'.I b) (hφ : ∀ i loc, i < m → c.φ (ρ i) = some loc → c'.φ i = some loc) : ∀ (as : List AV) (vs : List Value), zau m as = true → RepL c w (renL ρ as) vs → RepL c' w as vs
 | [], [], _, _ => by simp [RepL]
 | a :: as, v :: vs, hb, h => by
  simp only [renL, RepL, zau, Bool.and_eq_true] at h hb ⊢
  exact ⟨Rep.renIn hI hφ a v hb.1 h.1, RepL.renIn hI hφ as vs hb.2 h.2⟩
 | [], _ :: _, _, h => by simp [renL, RepL] at h
 | _ :: _, [], _, h => by simp [renL, RepL] at h
end
theorem ze5 {ρ : Nat → Nat} : ∀ l : List AV, (renL ρ l).length = l.length
 | [] => rfl
 | x :: l => by simp [renL, ze5 l]
theorem zby.renOut {c c' : Ctx} {w : World} {ρ : Nat → Nat} (hI : zaT c c' w w) (hφ : ∀ i loc, c.φ i = some loc → c'.φ (ρ i) = some loc) {o : VObj} {loc : Loc} (h : zby c w o loc) : zby c' w (renO ρ o) loc := by
 cases o with
 | mp es =>
  cases loc with
  | virt => exact h
  | blk b cap =>
   obtain ⟨arr, k, h1, h5⟩ := h
   exact ⟨arr, k, h1, h5.mono hI⟩
 | row e sz cs =>
  cases loc with
  | virt => exact h
  | blk b cap =>
   obtain ⟨arr, h1, h2, h3, h4, h5⟩ := h
   refine ⟨arr, h1, h2, h3, h4, ?_⟩
   have := RepL.renOut hI hφ _ _ h5
   have e : ∀ l : List PV, renL ρ (l.map .pv) = l.map .pv := by
    intro l; induction l with
    | nil => rfl
    | cons x l ih => simp [renL, ren, ih]
   rwa [e] at this
 | arow e sz cs =>
  cases loc with
  | virt => have h' : cs = [] := h; subst h'; rfl
  | blk b cap =>
   obtain ⟨arr, h1, h2, h3, h4, h5⟩ := h
   exact ⟨arr, h1, h2, h3, by rw [ze5]; exact h4, by rw [ze5]; exact RepL.renOut hI hφ _ _ h5⟩
 | box cs =>
  cases loc with
  | virt => exact h
  | blk b cap =>
   obtain ⟨arr, t, h1, h5⟩ := h
   exact ⟨arr, t, h1, RepL.renOut hI hφ _ _ h5⟩
theorem zby.renIn {c c' : Ctx} {w : World} {ρ : Nat → Nat} {m : Nat} (hI : ∀ b, c.I b → c'.I b) (hφ : ∀ i loc, i < m → c.φ (ρ i) = some loc → c'.φ i = some loc) {o : VObj} {loc : Loc} (hb : zbC m o = true) (h : zby c w (renO ρ o) loc) : zby c' w o loc := by
 cases o with
 | mp es =>
  cases loc with
  | virt => exact h
  | blk b cap =>
   obtain ⟨arr, k, h1, h5⟩ := h
   exact ⟨arr, k, h1, h5.mono (fun b hb => ⟨hI b hb, rfl⟩)⟩
 | row e sz cs =>
  cases loc with
  | virt => exact h
  | blk b cap =>
   obtain ⟨arr, h1, h2, h3, h4, h5⟩ := h
   refine ⟨arr, h1, h2, h3, h4, ?_⟩
   have e : ∀ l : List PV, renL ρ (l.map .pv) = l.map .pv ∧ zau m (l.map .pv) = true := by
    intro l; induction l with
    | nil => exact ⟨rfl, rfl⟩
    | cons x l ih => simp [renL, ren, ih, zau, zao]
   exact RepL.renIn hI hφ _ _ (e cs).2 (by rw [(e cs).1]; exact h5)
 | arow e sz cs =>
  cases loc with
  | virt =>
   have h' : renL ρ cs = [] := h
   have h2 := ze5 (ρ := ρ) cs
   rw [h'] at h2
   exact List.eq_nil_of_length_eq_zero h2.symm
  | blk b cap =>
   obtain ⟨arr, h1, h2, h3, h4, h5⟩ := h
   rw [ze5] at h4 h5
   exact ⟨arr, h1, h2, h3, h4, RepL.renIn hI hφ _ _ hb h5⟩
 | box cs =>
  cases loc with
  | virt => exact h
  | blk b cap =>
   obtain ⟨arr, t, h1, h5⟩ := h
   exact ⟨arr, t, h1, RepL.renIn hI hφ _ _ hb h5⟩
def idx : Nat → List VObj → Heap
 | _, [] => []
 | k, o :: r => (k, o) :: idx (k + 1) r
theorem zbG : ∀ (l : List VObj) (k i : Nat), hget (idx k l) i = if k ≤ i then l[i - k]? else none
 | [], k, i => by simp [idx, hget]
 | o :: r, k, i => by
  simp only [idx, hget]
  split
  ·rename_i e; subst e; simp
  ·rename_i e
   rw [zbG r (k + 1) i]
   by_cases h : k + 1 ≤ i
   ·rw [if_pos h, if_pos (by omega), show i - k = (i - (k + 1)) + 1 by omega, List.getElem?_cons_succ]
   ·rw [if_neg h, if_neg (by omega)]
def zoE (c : Ctx) (m : Nat) (b : Nat) : Prop := ∃ i cap, i < m ∧ c.φ i = some (.blk b cap)
def Ok (P : Program) (f : FuncId) (args : List AV) (Hin : List VObj) (out : AV) (Hout : List VObj) (mv : List Nat) : Prop :=
 ∀ (c : Ctx) (w : World) (vals : List Value), RepL c w args vals → HRel ⟨c, w, Hin.length⟩ (idx 0 Hin) [] c w → (∀ id, Hin.length ≤ id → c.φ id = none) →
  Calls P f vals.toArray w fun e w' => ∃ v c', e = .returned v ∧ Rep c' w' out v ∧ HRel ⟨c, w, Hin.length⟩ (idx 0 Hout) mv c' w' ∧ ∀ id, Hout.length ≤ id → c'.φ id = none
def rho (ids : List Nat) (nx : Nat) (i : Nat) : Nat := if i < ids.length then ids.getD i 0 else nx + (i - ids.length)
theorem zfJ {ids : List Nat} {nx i : Nat} (h : i < ids.length) : rho ids nx i = ids.getD i 0 := if_pos h
theorem zt7 {ids : List Nat} {nx i j : Nat} (hn : ids.Nodup) (hl : ∀ x ∈ ids, x < nx) (h : rho ids nx i = rho ids nx j) : i = j := by
 unfold rho at h
 have key : ∀ {i}, i < ids.length → ids.getD i 0 < nx := fun hi => hl _ (by rw [List.getD_eq_getElem?_getD, List.getElem?_eq_getElem hi]; exact List.getElem_mem hi)
 split at h
 ·rename_i hi
  split at h
  ·rename_i hj
   rw [List.getD_eq_getElem?_getD, List.getElem?_eq_getElem hi, List.getD_eq_getElem?_getD, List.getElem?_eq_getElem hj] at h
   exact (List.getElem_inj hn).1 h
  ·have := key hi; omega
 ·rename_i hi
  split at h
  ·rename_i hj; have := key hj; omega
  ·omega
section
variable {P : Program} {B : Base} {c : Ctx} {w : World} {H H' : Heap} {mvB : List Nat} {ids : List Nat} {nx : Nat} {Hin Hout : List VObj} {mv : List Nat}
def zcn (c : Ctx) (ids : List Nat) : Ctx := { φ := fun i => if i < ids.length then c.φ (ids.getD i 0) else none, I := c.I }
theorem znY (h : HRel B H mvB c w) (hlen : ids.length = Hin.length) (hn : ids.Nodup)
  (hH : ∀ i o, Hin[i]? = some o → hget H (ids.getD i 0) = some (renO (rho ids nx) o) ∧ zbC ids.length o = true) :
  HRel ⟨zcn c ids, w, Hin.length⟩ (idx 0 Hin) [] (zcn c ids) w := by
 have hφ : ∀ i loc, i < ids.length → c.φ (rho ids nx i) = some loc → (zcn c ids).φ i = some loc := fun i loc hi h1 => by
  simp only [zcn, if_pos hi]; rw [zfJ hi] at h1; exact h1
 have hget' : ∀ id o, hget (idx 0 Hin) id = some o → id < ids.length ∧ Hin[id]? = some o := fun id o h1 => by
  rw [zbG] at h1; simp at h1
  exact ⟨by rw [hlen]; exact (List.getElem?_eq_some_iff.1 h1).1, h1⟩
 have hφ' : ∀ id loc, id < ids.length → (zcn c ids).φ id = some loc → c.φ (ids.getD id 0) = some loc := fun id loc hi h1 => by simpa only [zcn, if_pos hi] using h1
 refine ⟨fun id o loc h1 h2 => ?_, fun id o b cap h1 h2 => ?_, fun id id' o o' b cap cap' hne h1 h2 h3 h4 => ?_, h.imm, Nat.le_refl _, rfl, rfl, rfl, fun _ _ _ => rfl, fun _ _ => Iff.rfl, fun _ _ _ h => h, fun _ _ h => h⟩
 ·obtain ⟨hi, h3⟩ := hget' id o h1
  obtain ⟨h4, h5⟩ := hH id o h3
  exact zby.renIn (c := c) (c' := zcn c ids) (fun b hb => hb) hφ h5 (h.heap _ _ _ h4 (hφ' id loc hi h2))
 ·obtain ⟨hi, h3⟩ := hget' id o h1
  obtain ⟨h4, _⟩ := hH id o h3
  have := h.own _ _ b cap h4 (hφ' id _ hi h2)
  exact ⟨this.1, this.2.1, .inr ⟨by show id < Hin.length; omega, cap, h2⟩⟩
 ·obtain ⟨hi, h5⟩ := hget' id o h1
  obtain ⟨hj, h6⟩ := hget' id' o' h2
  refine h.apart _ _ _ _ b cap cap' (fun e => hne ?_) (hH id o h5).1 (hH id' o' h6).1 (hφ' id _ hi h3) (hφ' id' _ hj h4)
  rw [List.getD_eq_getElem?_getD, List.getElem?_eq_getElem hi, List.getD_eq_getElem?_getD, List.getElem?_eq_getElem hj] at e
  exact (List.getElem_inj hn).1 e
noncomputable def zet (c c' : Ctx) (ids : List Nat) (nx k : Nat) : Ctx :=
 { φ := fun id => open Classical in if h : ∃ i, i < k ∧ rho ids nx i = id then c'.φ (Classical.choose h) else c.φ id, I := c'.I }
theorem zdG {c c' : Ctx} {k i : Nat} (hn : ids.Nodup) (hl : ∀ x ∈ ids, x < nx) (hi : i < k) : (zet c c' ids nx k).φ (rho ids nx i) = c'.φ i := by
 have h : ∃ j, j < k ∧ rho ids nx j = rho ids nx i := ⟨i, hi, rfl⟩
 have h2 : (zet c c' ids nx k).φ (rho ids nx i) = c'.φ (Classical.choose h) := by
  show (dite _ _ _) = _
  rw [dif_pos h]
 rw [h2, zt7 hn hl (Classical.choose_spec h).2]
theorem zcI {c c' : Ctx} {k id : Nat} (h : ∀ i, i < k → rho ids nx i ≠ id) : (zet c c' ids nx k).φ id = c.φ id := by
 show (dite _ _ _) = _
 rw [dif_neg (fun ⟨i, hi, e⟩ => h i hi e)]
theorem zoA {c' : Ctx} {w' : World} (h : HRel B H mvB c w) (hlen : ids.length = Hin.length) (hn : ids.Nodup) (hl : ∀ x ∈ ids, x < nx) (hm : Hin.length ≤ Hout.length) (hge : B.m ≤ nx)
  (hH : ∀ i o, Hin[i]? = some o → hget H (ids.getD i 0) = some (renO (rho ids nx) o) ∧ zbC ids.length o = true)
  (hnew : ∀ j, j < Hout.length - Hin.length → c.φ (nx + j) = none)
  (hc : HRel ⟨zcn c ids, w, Hin.length⟩ (idx 0 Hout) mv c' w') (hfr : ∀ id, Hout.length ≤ id → c'.φ id = none)
  (hH' : ∀ id o, hget H' id = some o → (∃ i y, i < Hout.length ∧ id = rho ids nx i ∧ Hout[i]? = some y ∧ o = renO (rho ids nx) y) ∨ ((∀ i, i < Hout.length → rho ids nx i ≠ id) ∧ ∃ y, hget H id = some y ∧ o = zdN (mv.map (rho ids nx)) y)) :
  HRel B H' (mv.map (rho ids nx) ++ mvB) (zet c c' ids nx Hout.length) w' ∧ zaT c (zet c c' ids nx Hout.length) w w' ∧ zcU (mv.map (rho ids nx)) c (zet c c' ids nx Hout.length) ∧
   zaT c' (zet c c' ids nx Hout.length) w' w' ∧ (∀ i loc, c'.φ i = some loc → (zet c c' ids nx Hout.length).φ (rho ids nx i) = some loc) ∧ (∀ id, id < nx → c.φ id = none → (zet c c' ids nx Hout.length).φ id = none) := by
 have hout : ∀ i loc, c'.φ i = some loc → (zet c c' ids nx Hout.length).φ (rho ids nx i) = some loc := fun i loc h1 => by
  by_cases hi : i < Hout.length
  ·rw [zdG hn hl hi]; exact h1
  ·rw [hfr i (by omega)] at h1; cases h1
 have hfoot : ∀ b, zoE (zcn c ids) Hin.length b → ∃ i cap, i < ids.length ∧ c.φ (ids.getD i 0) = some (.blk b cap) := by
  rintro b ⟨i, cap, hi, h1⟩
  have hi' : i < ids.length := by omega
  exact ⟨i, cap, hi', by simpa only [zcn, if_pos hi'] using h1⟩
 have hfown : ∀ b, zoE (zcn c ids) Hin.length b → b < w.heap.size ∧ ¬ c.I b ∧ (B.w0.heap.size ≤ b ∨ B.foot b) := fun b hb => by
  obtain ⟨i, cap, hi, h1⟩ := hfoot b hb
  have hio : ∃ o, Hin[i]? = some o := ⟨Hin[i]'(by omega), List.getElem?_eq_getElem (by omega)⟩
  obtain ⟨o, hio⟩ := hio
  exact h.ownFoot (hH i o hio).1 h1
 have hold : ∀ b, b < w.heap.size → ¬ zoE (zcn c ids) Hin.length b → w'.heap[b]? = w.heap[b]? := hc.blk
 have hIold : ∀ b, b < w.heap.size → (c'.I b ↔ c.I b) := hc.I
 have hho : zaT c (zet c c' ids nx Hout.length) w w' := fun b hb => ⟨(hIold b (h.imm b hb)).2 hb, hold b (h.imm b hb) (fun hf => (hfown b hf).2.1 hb)⟩
 have hgo : zcU (mv.map (rho ids nx)) c (zet c c' ids nx Hout.length) := fun id loc hid h1 => by
  by_cases hr : ∃ i, i < Hout.length ∧ rho ids nx i = id
  ·obtain ⟨i, hi, rfl⟩ := hr
   rw [zdG hn hl hi]
   by_cases him : i < ids.length
   ·have := hc.φ i loc (fun hmi => hid (List.mem_map.2 ⟨i, hmi, rfl⟩)) (by simp only [zcn, if_pos him]; rw [zfJ him] at h1; exact h1)
    exact this
   ·exfalso
    have : rho ids nx i = nx + (i - ids.length) := if_neg him
    rw [this, hnew (i - ids.length) (by omega)] at h1
    cases h1
  ·rw [zcI (fun i hi e => hr ⟨i, hi, e⟩)]; exact h1
 have hund : ∀ id, id < nx → c.φ id = none → (zet c c' ids nx Hout.length).φ id = none := fun id hid h1 => by
  by_cases hr : ∃ i, i < Hout.length ∧ rho ids nx i = id
  ·obtain ⟨i, hi, rfl⟩ := hr
   rw [zdG hn hl hi]
   by_cases him : i < ids.length
   ·refine hc.und i (by show i < Hin.length; omega) ?_
    show (if i < ids.length then c.φ (ids.getD i 0) else none) = none
    rw [if_pos him]; rw [zfJ him] at h1; exact h1
   ·exfalso
    have : rho ids nx i = nx + (i - ids.length) := if_neg him
    omega
  ·rw [zcI (fun i hi e => hr ⟨i, hi, e⟩)]; exact h1
 have hback : zaT c' (zet c c' ids nx Hout.length) w' w' := fun b hb => ⟨hb, rfl⟩
 have hsz : w.heap.size ≤ w'.heap.size := hc.size
 have idxget : ∀ i y, Hout[i]? = some y → hget (idx 0 Hout) i = some y := fun i y h1 => by rw [zbG]; simpa using h1
 have other : ∀ id b cap, (∀ i, i < Hout.length → rho ids nx i ≠ id) → ∀ y, hget H id = some y → c.φ id = some (.blk b cap) → b < w.heap.size ∧ ¬ zoE (zcn c ids) Hin.length b := fun id b cap hni y hy h1 => by
  refine ⟨(h.own id y b cap hy h1).1, fun hf => ?_⟩
  obtain ⟨i, cap', hi, h2⟩ := hfoot b hf
  have hio : ∃ o, Hin[i]? = some o := ⟨Hin[i]'(by omega), List.getElem?_eq_getElem (by omega)⟩
  obtain ⟨o, hio⟩ := hio
  refine h.apart id (ids.getD i 0) y _ b cap cap' (fun e => hni i (by omega) ?_) hy (hH i o hio).1 h1 h2
  rw [zfJ hi]; exact e.symm
 refine ⟨⟨fun id o loc h1 h2 => ?_, fun id o b cap h1 h2 => ?_, fun id id' o o' b cap cap' hne h1 h2 h3 h4 => ?_, hc.imm, Nat.le_trans h.size hsz, hc.os.trans h.os, hc.tape.trans h.tape, hc.output.trans h.output, fun b hb hf => ?_, fun b hb => (hIold b (Nat.lt_of_lt_of_le hb h.size)).trans (h.I b hb), fun id loc hid h1 => ?_, fun id hid h1 => ?_⟩, hho, hgo, hback, hout, hund⟩
 ·rcases hH' id o h1 with ⟨i, y, hi, rfl, hy, rfl⟩ | ⟨hni, y, hy, rfl⟩
  ·rw [zdG hn hl hi] at h2
   exact zby.renOut hback hout (hc.heap i y loc (idxget i y hy) h2)
  ·rw [zcI hni] at h2
   exact (h.heap id y loc hy h2).purge hho hgo (fun b cap e => by subst e; have := other id b cap hni y hy h2; exact hold b this.1 this.2)
 ·rcases hH' id o h1 with ⟨i, y, hi, rfl, hy, rfl⟩ | ⟨hni, y, hy, rfl⟩
  ·rw [zdG hn hl hi] at h2
   have := hc.own i y b cap (idxget i y hy) h2
   refine ⟨this.1, this.2.1, ?_⟩
   rcases this.2.2 with h3 | ⟨h3, cap', h4⟩
   ·exact .inl (Nat.le_trans h.size h3)
   ·have h3' : i < ids.length := by rw [hlen]; exact h3
    have h5 : (if i < ids.length then c.φ (ids.getD i 0) else none) = some (.blk b cap') := h4
    rw [if_pos h3'] at h5
    have hio : ∃ o, Hin[i]? = some o := ⟨Hin[i]'(by omega), List.getElem?_eq_getElem (by omega)⟩
    obtain ⟨o, hio⟩ := hio
    rw [zfJ h3']
    exact (h.own _ _ b cap' (hH i o hio).1 h5).2.2
  ·rw [zcI hni] at h2
   have := h.own id y b cap hy h2
   exact ⟨Nat.lt_of_lt_of_le this.1 hsz, fun hi => this.2.1 ((hIold b this.1).1 hi), this.2.2⟩
 ·have mixed : ∀ {i id' y y' cap cap'}, i < Hout.length → Hout[i]? = some y → c'.φ i = some (.blk b cap) → (∀ i, i < Hout.length → rho ids nx i ≠ id') → hget H id' = some y' → c.φ id' = some (.blk b cap') → False := by
   intro i id' y y' cap cap' hi hy h3 hni hy' h4
   have h5 := other id' b cap' hni y' hy' h4
   rcases (hc.ownFoot (idxget i y hy) h3).2.2 with h6 | h6
   ·have : w.heap.size ≤ b := h6
    omega
   ·exact h5.2 h6
  rcases hH' id o h1 with ⟨i, y, hi, rfl, hy, rfl⟩ | ⟨hni, y, hy, rfl⟩
  ·rw [zdG hn hl hi] at h3
   rcases hH' id' o' h2 with ⟨j, y', hj, rfl, hy', rfl⟩ | ⟨hnj, y', hy', rfl⟩
   ·rw [zdG hn hl hj] at h4
    exact hc.apart i j y y' b cap cap' (fun e => hne (e ▸ rfl)) (idxget i y hy) (idxget j y' hy') h3 h4
   ·rw [zcI hnj] at h4
    exact mixed hi hy h3 hnj hy' h4
  ·rw [zcI hni] at h3
   rcases hH' id' o' h2 with ⟨j, y', hj, rfl, hy', rfl⟩ | ⟨hnj, y', hy', rfl⟩
   ·rw [zdG hn hl hj] at h4
    exact mixed hj hy' h4 hni hy h3
   ·rw [zcI hnj] at h4
    exact h.apart id id' y y' b cap cap' hne hy hy' h3 h4
 ·rw [hold b (Nat.lt_of_lt_of_le hb h.size) (fun hf' => ?_)]
  ·exact h.blk b hb hf
  ·rcases (hfown b hf').2.2 with h1 | h1
   ·omega
   ·exact hf h1
 ·simp only [List.mem_append, not_or] at hid
  exact hgo id loc hid.1 (h.φ id loc hid.2 h1)
 ·exact hund id (by omega) (h.und id hid h1)
end
end Go.Proofs.YtppnccjeggnllaaGreatVm

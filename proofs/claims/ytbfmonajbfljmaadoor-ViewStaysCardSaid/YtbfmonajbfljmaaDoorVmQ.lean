import Derived.Test.YtbfmonajbfljmaaDoorVmP
namespace Go.Proofs.YtbfmonajbfljmaaDoorVm
open Go Go.RowKit
set_option linter.all false
def solidP : PV → Bool
  | .slc _ _ _ => false
  | .nnl _ _ => false
  | _ => true
mutual
def solid : AV → Bool
  | .pv p => solidP p
  | .pptr _ _ => false
  | .agg cs => solidL cs
  | .tup cs => solidL cs
  | .fnc _ cs => solidL cs
  | .bnd _ _ cs => solidL cs
  | _ => true
def solidL : List AV → Bool
  | [] => true
  | a :: as => solid a && solidL as
end
def SolidO : VObj → Prop
  | .row _ _ cs => ∀ p ∈ cs, solidP p = true
  | .box cs => solidL cs = true
  | .mp _ => False
mutual
theorem Rep.solid {c c' : Ctx} {w w' : World} {ρ : Nat → Nat} (hφ : ∀ i loc, c.φ i = some loc → c'.φ (ρ i) = some loc) : ∀ (a : AV) (v : Value), solid a = true → Rep c w a v → Rep c' w' (ren ρ a) v
  | .undef, _, _, _ => by simp [ren, Rep]
  | .pv p, v, hs, h => by
    simp only [ren, Rep] at h ⊢
    cases p <;> simp_all [RepP, solidP, YtbfmonajbfljmaaDoorVm.solid]
  | .pptr cs off, v, hs, h => by simp [YtbfmonajbfljmaaDoorVm.solid] at hs
  | .ptr id off, v, _, h => by simp only [ren, Rep] at h ⊢; obtain ⟨b, cap, h1, h2⟩ := h; exact ⟨b, cap, hφ _ _ h1, h2⟩
  | .ref id sz off n, v, _, h => by
    simp only [ren, Rep] at h ⊢
    rcases h with ⟨h1, h2⟩ | ⟨b, cap, a, h1, h2⟩
    · exact .inl ⟨hφ _ _ h1, h2⟩
    · exact .inr ⟨b, cap, a, hφ _ _ h1, h2⟩
  | .view id off n, v, _, h => by simp only [ren, Rep] at h ⊢; obtain ⟨b, cap, cp, a, h1, h2⟩ := h; exact ⟨b, cap, cp, a, hφ _ _ h1, h2⟩
  | .agg cs, v, hs, h => by simp only [ren, Rep, YtbfmonajbfljmaaDoorVm.solid] at h hs ⊢; obtain ⟨vs, h1, h2⟩ := h; exact ⟨vs, h1, RepL.solid hφ cs _ hs h2⟩
  | .tup cs, v, hs, h => by simp only [ren, Rep, YtbfmonajbfljmaaDoorVm.solid] at h hs ⊢; obtain ⟨vs, h1, h2⟩ := h; exact ⟨vs, h1, RepL.solid hφ cs _ hs h2⟩
  | .fnc f cs, v, hs, h => by simp only [ren, Rep, YtbfmonajbfljmaaDoorVm.solid] at h hs ⊢; obtain ⟨vs, h1, h2⟩ := h; exact ⟨vs, h1, RepL.solid hφ cs _ hs h2⟩
  | .bnd f q cs, v, hs, h => by simp only [ren, Rep, YtbfmonajbfljmaaDoorVm.solid] at h hs ⊢; obtain ⟨us, vs, h1, h0, h2⟩ := h; exact ⟨us, vs, h1, h0, RepL.solid hφ cs _ hs h2⟩
  | .mapr id, v, _, h => by simp only [ren, Rep] at h ⊢; obtain ⟨b, cap, h1, h2⟩ := h; exact ⟨b, cap, hφ _ _ h1, h2⟩
theorem RepL.solid {c c' : Ctx} {w w' : World} {ρ : Nat → Nat} (hφ : ∀ i loc, c.φ i = some loc → c'.φ (ρ i) = some loc) : ∀ (as : List AV) (vs : List Value), solidL as = true → RepL c w as vs → RepL c' w' (renL ρ as) vs
  | [], [], _, _ => by simp [renL, RepL]
  | a :: as, v :: vs, hs, h => by simp only [renL, RepL, solidL, Bool.and_eq_true] at h hs ⊢; exact ⟨Rep.solid hφ a v hs.1 h.1, RepL.solid hφ as vs hs.2 h.2⟩
  | [], _ :: _, _, h => by simp [RepL] at h
  | _ :: _, [], _, h => by simp [RepL] at h
end
theorem renL_pv (ρ : Nat → Nat) : ∀ l : List PV, renL ρ (l.map .pv) = l.map .pv
  | [] => rfl
  | x :: l => by simp [renL, ren, renL_pv ρ l]
theorem solidL_pv : ∀ {l : List PV}, (∀ p ∈ l, solidP p = true) → solidL (l.map .pv) = true
  | [], _ => rfl
  | x :: l, h => by simp only [List.map_cons, solidL, solid, Bool.and_eq_true]; exact ⟨h x (by simp), solidL_pv (fun p hp => h p (List.mem_cons_of_mem _ hp))⟩
theorem ObjRep.solid {c c' : Ctx} {w : World} {ρ : Nat → Nat} (hφ : ∀ i loc, c.φ i = some loc → c'.φ (ρ i) = some loc) {o : VObj} {loc : Loc} (hs : SolidO o) (h : ObjRep c w o loc) : ObjRep c' w (renO ρ o) loc := by
  cases o with
  | mp es => exact hs.elim
  | row e sz cs =>
    cases loc with
    | virt => exact h
    | blk b cap =>
      obtain ⟨arr, h1, h2, h3, h4, h5⟩ := h
      refine ⟨arr, h1, h2, h3, h4, ?_⟩
      have := RepL.solid (w' := w) hφ _ _ (solidL_pv hs) h5
      rwa [renL_pv] at this
  | box cs =>
    cases loc with
    | virt => exact h
    | blk b cap =>
      obtain ⟨arr, t, h1, h5⟩ := h
      exact ⟨arr, t, h1, RepL.solid hφ _ _ hs h5⟩
def isRow : VObj → Bool
  | .row _ _ _ => true
  | _ => false
theorem Ok.borrow {P : Program} {f : FuncId} {args args' : List AV} {Hin Hnew : List VObj} {out : AV} {cond : Prop} (h : Ok P f args' [] out Hnew []) (hf : frzL (idx 0 Hin) (List.range Hin.length) args = some (cond, args')) (hc : cond) (hb : belowL 0 args' = true)
    (hrow : Hin.all isRow = true) (hso : YtbfmonajbfljmaaDoorVm.solid out = true) (hsn : ∀ o ∈ Hnew, SolidO o) : Ok P f args Hin (ren (· + Hin.length) out) (Hin ++ Hnew.map (renO (· + Hin.length))) [] := by
  intro c w vals hargs hrel hnone
  let fz : Nat → Prop := fun b => ∃ id cap, id < Hin.length ∧ c.φ id = some (.blk b cap)
  let c1 : Ctx := { φ := c.φ, I := frozeI c (idx 0 Hin) (List.range Hin.length) }
  let c2 : Ctx := { φ := fun _ => none, I := frozeI c (idx 0 Hin) (List.range Hin.length) }
  have hrowg : ∀ {id o}, hget (idx 0 Hin) id = some o → id < Hin.length ∧ Hin[id]? = some o := fun {id o} h1 => by
    rw [idx_get] at h1; simp at h1
    exact ⟨(List.getElem?_eq_some_iff.1 h1).1, h1⟩
  have hfz : ∀ b, frozeI c (idx 0 Hin) (List.range Hin.length) b ↔ c.I b ∨ fz b := fun b => by
    constructor
    · rintro (h1 | ⟨id, cap, e, sz, cs, hid, hg, h1⟩)
      · exact .inl h1
      · exact .inr ⟨id, cap, by simpa using hid, h1⟩
    · rintro (h1 | ⟨id, cap, hid, h1⟩)
      · exact .inl h1
      · have hg : hget (idx 0 Hin) id = some Hin[id] := by rw [idx_get]; simp [hid]
        have hr : isRow Hin[id] = true := by
          simp only [List.all_eq_true] at hrow; exact hrow _ (List.getElem_mem hid)
        cases ho : Hin[id] with
        | row e sz cs => exact .inr ⟨id, cap, e, sz, cs, by simpa using hid, by rw [hg, ho], h1⟩
        | box cs => rw [ho] at hr; simp [isRow] at hr
        | mp es => rw [ho] at hr; simp [isRow] at hr
  have hfzown : ∀ b, fz b → b < w.heap.size ∧ ¬ c.I b := fun b ⟨id, cap, hid, h1⟩ => by
    have hg : hget (idx 0 Hin) id = some Hin[id] := by rw [idx_get]; simp [hid]
    have := hrel.own id _ b cap hg h1
    exact ⟨this.1, this.2.1⟩
  have ha1 : RepL c1 w args' vals := frzL_rep (c2 := c1) hrel.heap (fun b hb => ⟨.inl hb, rfl⟩) (fun _ _ h => h) (fun b => Iff.rfl) _ _ _ _ hf hc hargs
  have ha2 : RepL c2 w args' vals := RepL.renIn (c := c1) (c' := c2) (ρ := fun i => i) (m := 0) (fun b hb => hb) (fun i loc hi _ => by omega) _ _ hb (by rw [renL_id]; exact ha1)
  have him : ∀ b, c2.I b → b < w.heap.size := fun b hb => by
    rcases (hfz b).1 hb with h1 | h1
    · exact hrel.imm b h1
    · exact (hfzown b h1).1
  have hrel2 : HRel ⟨c2, w, ([] : List VObj).length⟩ (idx 0 []) [] c2 w :=
    ⟨fun id o loc h1 _ => by simp [idx, hget] at h1, fun id o b cap h1 _ => by simp [idx, hget] at h1, fun id id' o o' b cap cap' _ h1 _ _ _ => by simp [idx, hget] at h1, him, Nat.le_refl _, rfl, rfl, rfl, fun _ _ _ => rfl, fun _ _ => Iff.rfl, fun _ _ _ h => h, fun _ _ h => h⟩
  refine Calls.mono (h c2 w vals ha2 hrel2 (fun _ _ => rfl)) (fun e w' hpost => ?_)
  obtain ⟨v, c', he, hr, hrl, hfr⟩ := hpost
  have hnofoot : ∀ b, ¬ Base.foot ⟨c2, w, ([] : List VObj).length⟩ b := fun b ⟨id, cap, hid, _⟩ => by
    have h1 : id < 0 := hid
    omega
  have hold : ∀ b, b < w.heap.size → w'.heap[b]? = w.heap[b]? := fun b hb => hrl.blk b hb (hnofoot b)
  have hIold : ∀ b, b < w.heap.size → (c'.I b ↔ c.I b ∨ fz b) := fun b hb => (hrl.I b hb).trans (hfz b)
  let c'' : Ctx := { φ := fun i => if i < Hin.length then c.φ i else c'.φ (i - Hin.length), I := fun b => c'.I b ∧ ¬ fz b }
  have hlt : ∀ {i}, i < Hin.length → c''.φ i = c.φ i := fun hi => if_pos hi
  have hge : ∀ {i}, ¬ i < Hin.length → c''.φ i = c'.φ (i - Hin.length) := fun hi => if_neg hi
  have hρ : ∀ i loc, c'.φ i = some loc → c''.φ (i + Hin.length) = some loc := fun i loc h1 => by
    rw [hge (by omega), Nat.add_sub_cancel]; exact h1
  have hho : Holds c c'' w w' := fun b hb => ⟨⟨(hIold b (hrel.imm b hb)).2 (.inl hb), fun hf => (hfzown b hf).2 hb⟩, hold b (hrel.imm b hb)⟩
  have hgo : Goes c c'' := fun id loc h1 => by
    by_cases hi : id < Hin.length
    · rw [hlt hi]; exact h1
    · rw [hnone id (by omega)] at h1; cases h1
  have hget' : ∀ {id o}, hget (idx 0 (Hin ++ Hnew.map (renO (· + Hin.length)))) id = some o → (id < Hin.length ∧ hget (idx 0 Hin) id = some o) ∨ (¬ id < Hin.length ∧ ∃ y, y ∈ Hnew ∧ hget (idx 0 Hnew) (id - Hin.length) = some y ∧ o = renO (· + Hin.length) y) := fun {id o} h1 => by
    rw [idx_get] at h1
    simp only [Nat.zero_le, if_true, Nat.sub_zero] at h1
    by_cases hi : id < Hin.length
    · rw [List.getElem?_append_left hi] at h1
      exact .inl ⟨hi, by rw [idx_get]; simpa using h1⟩
    · rw [List.getElem?_append_right (by omega)] at h1
      simp only [List.getElem?_map, Option.map_eq_some_iff] at h1
      obtain ⟨y, h2, rfl⟩ := h1
      exact .inr ⟨hi, y, List.mem_of_getElem? h2, by rw [idx_get]; simpa using h2, rfl⟩
  refine ⟨v, c'', he, Rep.solid (c := c') hρ _ _ hso hr, ⟨fun id o loc h1 h2 => ?_, fun id o b cap h1 h2 => ?_, fun i j o o' b cap cap' hne h1 h2 h3 h4 => ?_, fun b hb => hrl.imm b hb.1, hrl.size, hrl.os, hrl.tape, hrl.output, fun b hb _ => hold b hb, fun b hb => ?_, fun id loc _ h1 => hgo id loc h1, fun id hid h1 => ?_⟩, fun id hid => ?_⟩
  · rcases hget' h1 with ⟨hi, h3⟩ | ⟨hi, y, hy, h3, rfl⟩
    · rw [hlt hi] at h2
      exact (hrel.heap id o loc h3 h2).mono hho hgo (fun b cap e => hold b (by subst e; exact (hrel.own id o b cap h3 h2).1))
    · rw [hge hi] at h2
      exact ObjRep.solid hρ (hsn y hy) (hrl.heap _ _ loc h3 h2)
  · rcases hget' h1 with ⟨hi, h3⟩ | ⟨hi, y, hy, h3, rfl⟩
    · rw [hlt hi] at h2
      have h4 := hrel.own id o b cap h3 h2
      exact ⟨Nat.lt_of_lt_of_le h4.1 hrl.size, fun h5 => h5.2 ⟨id, cap, hi, h2⟩, h4.2.2⟩
    · rw [hge hi] at h2
      have h4 := hrl.own _ _ b cap h3 h2
      refine ⟨h4.1, fun h5 => h4.2.1 h5.1, ?_⟩
      rcases h4.2.2 with h5 | ⟨h5, _⟩
      · exact .inl h5
      · have h6 : id - Hin.length < 0 := h5
        omega
  · have hnb : ∀ {i o b cap}, hget (idx 0 Hnew) i = some o → c'.φ i = some (.blk b cap) → w.heap.size ≤ b := fun h1 h2 => by
      rcases (hrl.own _ _ _ _ h1 h2).2.2 with h5 | ⟨h5, _⟩
      · exact h5
      · have h6 : _ < 0 := h5
        omega
    rcases hget' h1 with ⟨hi, h5⟩ | ⟨hi, y, hy, h5, rfl⟩ <;> rcases hget' h2 with ⟨hj, h6⟩ | ⟨hj, y', hy', h6, rfl⟩
    · rw [hlt hi] at h3; rw [hlt hj] at h4
      exact hrel.apart i j _ _ b cap cap' hne h5 h6 h3 h4
    · rw [hlt hi] at h3; rw [hge hj] at h4
      have := (hrel.own i _ b cap h5 h3).1
      have := hnb h6 h4
      omega
    · rw [hge hi] at h3; rw [hlt hj] at h4
      have := (hrel.own j _ b cap' h6 h4).1
      have := hnb h5 h3
      omega
    · rw [hge hi] at h3; rw [hge hj] at h4
      exact hrl.apart _ _ _ _ b cap cap' (by omega) h5 h6 h3 h4
  · constructor
    · rintro ⟨h1, h2⟩
      rcases (hIold b hb).1 h1 with h3 | h3
      · exact h3
      · exact absurd h3 h2
    · intro h1
      exact ⟨(hIold b hb).2 (.inl h1), fun hf => (hfzown b hf).2 h1⟩
  · have hi : id < Hin.length := hid
    rw [hlt hi]; exact h1
  · simp only [List.length_append, List.length_map] at hid
    rw [hge (by omega)]
    exact hfr _ (by omega)
mutual
theorem ren_ren (ρ σ : Nat → Nat) : ∀ a : AV, ren ρ (ren σ a) = ren (fun i => ρ (σ i)) a
  | .undef => rfl
  | .pv _ => rfl
  | .pptr _ _ => rfl
  | .ptr _ _ => rfl
  | .ref _ _ _ _ => rfl
  | .view _ _ _ => rfl
  | .agg cs => by simp only [ren, renL_renL ρ σ cs]
  | .tup cs => by simp only [ren, renL_renL ρ σ cs]
  | .fnc _ cs => by simp only [ren, renL_renL ρ σ cs]
  | .bnd _ _ cs => by simp only [ren, renL_renL ρ σ cs]
  | .mapr _ => rfl
theorem renL_renL (ρ σ : Nat → Nat) : ∀ as : List AV, renL ρ (renL σ as) = renL (fun i => ρ (σ i)) as
  | [] => rfl
  | a :: as => by simp only [renL, ren_ren ρ σ a, renL_renL ρ σ as]
end
def SolidA : List VObj → Prop
  | [] => True
  | o :: r => SolidO o ∧ SolidA r
theorem solidA_of : ∀ {l : List VObj}, SolidA l → ∀ o ∈ l, SolidO o
  | x :: l, h, o, ho => by
    rcases List.mem_cons.1 ho with rfl | ho
    · exact h.1
    · exact solidA_of h.2 o ho
section
variable {P : Program} {ops : Array Oper} {dr : Bool} {j : Nat} {d : Nat} {op : Op} {type : TypeId} {pos : String} {after : Array Edge} {r : List Oper} {T : Tm} {H : Heap} {nx : Nat} {mv : List Nat} {nt lo : Nat} {Q : St → Prop} {c : Prop} {v : AV}
theorem step_callB {f : FuncId} {A A' : List AV} {out : AV} {Hin Hnew : List VObj} {cond : Prop} {H' : Heap} {out' : AV} {nx' : Nat} (ids : List Nat) (hr : evalR P (St.ev ⟨T, H, nx, mv, nt, lo⟩) H nx op type = none) (hw : evalW P (St.ev ⟨T, H, nx, mv, nt, lo⟩) H op = none) (hcal : callee ⟨T, H, nx, mv, nt, lo⟩ op = some (f, A)) (hent : enters P f = true)
    (hin : ids.map (hget H) = Hin.map some) (hren : renL (rho ids nx) (renL (fun x => ids.idxOf x) A) = A) (hbel : belowL ids.length (renL (fun x => ids.idxOf x) A) = true) (hf : frzL (idx 0 Hin) (List.range Hin.length) (renL (fun x => ids.idxOf x) A) = some (cond, A')) (hc : cond)
    (hok : Ok P f A' [] out Hnew []) (hA : belowL 0 A' = true) (hnd : ids.Nodup) (hlt : ids.all (fun x => Nat.blt x nx) = true) (hrow : Hin.all isRow = true) (hso : YtbfmonajbfljmaaDoorVm.solid out = true) (hsn : SolidA Hnew)
    (ho : ren (fun i => nx + i) out = out') (hH : idx nx (Hnew.map (renO (fun i => nx + i))) ++ H = H') (hnx : nx + Hnew.length = nx') (hd : Nat.blt d nt = true) (h : opsWp P ops dr (j + 1) r ⟨(d, out') :: T, H', nx', mv, nt, lo⟩ Q) :
    opsWp P ops dr j ({ dst := some d, op := op, type := type, pos := pos, after := after, guard := none } :: r) ⟨T, H, nx, mv, nt, lo⟩ Q := by
  have hlen : ids.length = Hin.length := by simpa using congrArg List.length hin
  refine opsWp_of0 ?_
  simp only [opWp0, guardA, dstOk, runWp0, hr, hw, hcal]
  have hrho : (fun i => rho ids nx (i + Hin.length)) = fun i => nx + i := by
    funext i; unfold rho; rw [if_neg (by omega), hlen, Nat.add_sub_cancel]
  refine ⟨by simpa [Nat.blt_eq] using hd, hent, .inl ⟨ids, _, Hin, _, Hnew.map (renO (· + Hin.length)), ⟨Ok.borrow hok hf hc hA hrow hso (solidA_of hsn), hren, hbel, hnd, fun x hx => ?_, hlen, by simp, fun i o hio => ?_⟩, ?_⟩⟩
  · have := List.all_eq_true.1 hlt x hx
    simpa [Nat.blt_eq] using this
  · have hi := (List.getElem?_eq_some_iff.1 hio).1
    have h1 : (ids.map (hget H))[i]? = some (some o) := by rw [hin]; simp [hio]
    simp only [List.getElem?_map, Option.map_eq_some_iff] at h1
    obtain ⟨x, h2, h3⟩ := h1
    have hro : isRow o = true := List.all_eq_true.1 hrow o (List.mem_of_getElem? hio)
    cases o with
    | box cs => simp [isRow] at hro
    | mp es => simp [isRow] at hro
    | row e sz cs => exact ⟨by rw [List.getD_eq_getElem?_getD, h2]; exact h3, rfl⟩
  · have e1 : (Hnew.map (renO (· + Hin.length))).map (renO (rho ids nx)) = Hnew.map (renO (fun i => nx + i)) := by
      rw [List.map_map]
      refine List.map_congr_left (fun o _ => ?_)
      cases o with
      | row e sz cs => rfl
      | box cs => simp only [Function.comp, renO, renL_renL]; rw [hrho]
      | mp es => rfl
    simp only [St.afterCallQ, tput, ren_ren, e1, List.length_map]
    rw [hrho, ho, hH, hnx]
    exact h
end
end Go.Proofs.YtbfmonajbfljmaaDoorVm

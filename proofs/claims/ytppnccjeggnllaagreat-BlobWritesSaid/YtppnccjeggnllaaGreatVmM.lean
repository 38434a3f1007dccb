import Derived.Test.YtppnccjeggnllaaGreatVmJ
namespace Go.Proofs.YtppnccjeggnllaaGreatVm
open Go Go.RowKit
set_option linter.all false
section
variable {P : Program} {B : Base} {S : St} {c : Ctx} {w : World} {a : Act} {ops : Array Oper}
def Are (B : Base) (K : St → Prop) (a : Act) (w : World) : Prop := ∃ S c, K S ∧ SRel B S c w a
theorem zce (ht : ∀ t v, tget S.T t = some v → Rep c w v (a.tmps.getD t undef)) {o : Oper} {b : Bool} (h : zbP ops S o = some b) : Region.wanted o (yielded ops a.tmps) = b := by
 unfold zbP at h
 unfold Region.wanted
 split at h
 ·rename_i hg; obtain rfl := inj1 h; simp [hg]
 ·rename_i j want hg
  simp only [hg]
  split at h
  case h_2 => simp at h
  rename_i t htm
  split at h
  ·rename_i x hx
   obtain rfl := inj1 h
   have hr := ht t _ hx
   simp only [Rep, RepP] at hr
   have : a.tmps[t]? = some (.bool x) := by
    cases hq : a.tmps[t]? with
    | none => simp [hq, undef] at hr
    | some v => simp [hq] at hr; rw [hr]
   simp [yielded, htm, this]
  ·rename_i hx
   obtain rfl := inj1 h
   have hr := ht t _ hx
   simp only [Rep] at hr
   obtain ⟨vs, h1, h2⟩ := hr
   have hy : yielded ops a.tmps j = none := by
    unfold yielded
    rw [htm]
    simp only [Option.bind_some]
    cases hq : a.tmps[t]? with
    | none => rfl
    | some v => simp [hq] at h1; rw [h1]
   rw [hy]; rfl
  ·simp at h
theorem zlP : Rep c w (.tup []) undef := ⟨#[], rfl, by simp [RepL]⟩
theorem zlb (hs : SRel B S c w a) {o : Oper} (hd : zdq S o = true) : SRel B (S.skip o.dst) c w (a.put o.dst undef) := by
 refine ⟨hs.h, zd8 hs.t (fun d h => ?_) zlP, by rw [zcH]; exact hs.nt, by rw [za7]; exact hs.df, hs.fresh, hs.lo, hs.wf, hs.mlo, hs.nlo⟩
 rw [hs.nt]; unfold zdq at hd; simpa [h] using hd
theorem zg5 {o : Oper} (hd : zdq S o = true) : ∀ d, o.dst = some d → d < S.nt := fun d h => by unfold zdq at hd; simpa [h] using hd
theorem zhp (hs : SRel B S c w a) {o : Oper} {v : AV} {new : Option VObj} {c' : Ctx} {w' : World} {v' : Value} (hd : zdq S o = true) (g : Grew c w S.nx new c' w') (hr : Rep c' w' v v') :
  SRel B (S.applyR o.dst v new) c' w' (a.put o.dst v') := by
 have hnx := hs.fresh S.nx (Nat.le_refl _)
 have hho : zaT c c' w w' := fun b hb => ⟨g.I ▸ hb, g.old b (hs.h.imm b hb)⟩
 have hgo : Goes c c' := fun id loc h => by
  by_cases e : id = S.nx
  ·subst e; rw [hnx] at h; cases h
  ·rw [g.φ id e]; exact h
 have ht : ∀ t x, tget (tput S.T o.dst v) t = some x → Rep c' w' x ((a.put o.dst v').tmps.getD t undef) :=
  zd8 (fun t v h => Rep.mono hho hgo _ _ (hs.t t v h)) (fun d h => by rw [hs.nt]; exact zg5 hd d h) hr
 cases new with
 | none =>
  refine ⟨?_, ht, by rw [zcH]; exact hs.nt, by rw [za7]; exact hs.df, fun id hid => ?_, hs.lo, hs.wf, hs.mlo, hs.nlo⟩
  ·exact hs.h.grown (Grew.grown (H := S.H) g (fun _ => hnx) hs.h.imm (fun _ => hs.mlo ▸ hs.nlo) (fun o h => by cases h))
  ·by_cases e : id = S.nx
   ·subst e; rw [g.kept rfl]; exact hnx
   ·rw [g.φ id e]; exact hs.fresh id hid
 | some ob =>
  refine ⟨?_, ht, by rw [zcH]; exact hs.nt, by rw [za7]; exact hs.df, fun id hid => ?_, hs.lo, fun id ob' h => ?_, hs.mlo, Nat.le_trans hs.nlo (Nat.le_succ _)⟩
  ·have h1 : HRel B ((S.nx, ob) :: S.H) S.mv c w := hs.h.more (fun id o h => by
    simp only [hget] at h
    split at h
    ·rename_i e; subst e; exact .inr hnx
    ·exact .inl h)
   exact h1.grown (Grew.grown g (fun _ => hnx) hs.h.imm (fun _ => hs.mlo ▸ hs.nlo) (fun o h => by cases h; simp [hget]))
  ·have hid' : S.nx + 1 ≤ id := hid
   rw [g.φ id (by omega)]; exact hs.fresh id (by omega)
  ·have h' : hget ((S.nx, ob) :: S.H) id = some ob' := h
   simp only [hget] at h'
   show id < S.nx + 1
   split at h'
   ·omega
   ·have := hs.wf _ _ h'; omega
theorem zso (hs : SRel B S c w a) {o : Oper} {f : FuncId} {A : List AV} {K : St → Prop} {Q : Exit → Act → World → Prop} (hd : zdq S o = true) (hc : callee S o.op = some (f, A)) (he : zdJ P f = true) (hk : zt0 P S f A o.dst K) :
  o.wp P a w (Are B K) Q := by
 obtain ⟨ids, args, Hin, out, Hout, mv, fit, hK⟩ := hk
 obtain ⟨vals, hvals, hrun⟩ := zj2 (P := P) (S := S) (c := c) (w := w) (a := a) (fun x _ v h => zcD hs h) he hc
 unfold Oper.wp
 rw [hrun]
 simp only [Oper.upon]
 have hin := znY (nx := S.nx) hs.h fit.len fit.nodup fit.hin
 have hargs : RepL (zcn c ids) w args vals := by
  refine RepL.renIn (c := c) (c' := zcn c ids) (ρ := rho ids S.nx) (m := ids.length) (fun b hb => hb) (fun i loc hi h => ?_) args vals fit.bel (by rw [fit.hargs]; exact hvals)
  simp only [zcn, if_pos hi]; rw [zfJ hi] at h; exact h
 refine (fit.ok (zcn c ids) w vals hargs hin (fun id hid => ?_)).mono ?_
 ·simp only [zcn]; rw [if_neg (by rw [fit.len]; omega)]
 rintro e w' ⟨v, c', rfl, hv, hcal, hfr⟩
 have hnew : ∀ j, j < Hout.length - Hin.length → c.φ (S.nx + j) = none := fun j _ => hs.fresh _ (by omega)
 obtain ⟨h1, h2, h3, h4, h5, _⟩ := zoA (nx := S.nx) (H' := (S.afterCall ids Hin.length out Hout mv o.dst).H) hs.h fit.len fit.nodup fit.lt fit.le (hs.mlo ▸ hs.nlo) fit.hin hnew hcal hfr (fun id ob h => by
  rcases zgb (c := c) fit.nodup fit.len fit.le (fun id hid => .inr (hs.fresh id hid)) id ob h with h | ⟨h1, h2, h3⟩
  ·exact .inl h
  ·refine .inr ⟨fun i hi e => ?_, h3⟩
   by_cases him : i < Hin.length
   ·exact h1 i him e
   ·apply h2
    rw [← e]
    unfold rho
    rw [if_neg (by rw [fit.len]; exact him), fit.len]
    omega)
 refine ⟨_, _, hK, ⟨h1, ?_, by rw [zcH]; exact hs.nt, by rw [za7]; exact hs.df, fun id hid => ?_, hs.lo, fun id ob h => ?_, hs.mlo, Nat.le_trans hs.nlo (Nat.le_add_right _ _)⟩⟩
 ·refine zd8 (S := { S with T := zeh (mv.map (rho ids S.nx)) S.T }) (fun t v h => ?_) (fun d h => by rw [hs.nt]; exact zg5 hd d h) (Rep.renOut h4 h5 _ _ hv)
  obtain ⟨u, hu, hvu⟩ := zmS h
  rcases hvu with rfl | ⟨hnil, rfl⟩
  ·exact Rep.purge h2 h3 _ _ (hs.t t u hu)
  ·have := Rep.purge h2 h3 _ _ (hs.t t v hu)
   rw [hnil, ziV] at this
   exact this
 ·have hid' : S.nx + (Hout.length - Hin.length) ≤ id := hid
  rw [zcI (fun i hi e => ?_)]
  ·exact hs.fresh id (by omega)
  ·rw [← e] at hid'
   unfold rho at hid'
   split at hid'
   ·rename_i hlt
    have : ids.getD i 0 < S.nx := fit.lt _ (by rw [List.getD_eq_getElem?_getD, List.getElem?_eq_getElem hlt]; exact List.getElem_mem hlt)
    omega
   ·have := fit.len; omega
 ·show id < S.nx + (Hout.length - Hin.length)
  rcases zgb (c := c) fit.nodup fit.len fit.le (fun id hid => .inr (hs.fresh id hid)) id ob h with ⟨i, y, hi, rfl, _⟩ | ⟨_, _, y, hy, _⟩
  ·unfold rho
   split
   ·rename_i hlt
    have : ids.getD i 0 < S.nx := fit.lt _ (by rw [List.getD_eq_getElem?_getD, List.getElem?_eq_getElem hlt]; exact List.getElem_mem hlt)
    omega
   ·have := fit.len; omega
  ·have := hs.wf _ _ hy; omega
theorem zjV {Hf : Heap} {mvB : List Nat} {o : Oper} {f : FuncId} {A : List AV} {Q : Exit → Act → World → Prop} {ids : List Nat} {args : List AV} {Hin Hnew : List VObj} {out : AV}
  (h : HRel B Hf mvB c w) (hwf : ∀ id ob, hget S.H id = some ob → id < S.nx) (hf : ∀ id, id < S.nx + Hnew.length → hget Hf id = hget (S.afterCallQ ids out Hnew o.dst).H id) (hund : ∀ id, S.nx ≤ id → id < S.nx + Hnew.length → c.φ id = none) (hge : B.m ≤ S.nx)
  (hm : ∀ x ∈ o.op.operands.toList, ∀ v, S.ev x = some v → Rep c w v (a.eval x)) (hc : callee S o.op = some (f, A)) (he : zdJ P f = true) (fit : zip P S f A ids args Hin out (Hin ++ Hnew) []) :
  o.wp P a w (fun a' w' => ∃ v' c', a' = a.put o.dst v' ∧ Rep c' w' (ren (rho ids S.nx) out) v' ∧ HRel B Hf mvB c' w' ∧ Goes c c' ∧ zaT c c' w w' ∧ (∀ id, (id < S.nx ∨ S.nx + Hnew.length ≤ id) → c'.φ id = c.φ id)) Q := by
 obtain ⟨vals, hvals, hrun⟩ := zj2 (P := P) (S := S) (c := c) (w := w) (a := a) hm he hc
 have hlenS : (Hin ++ Hnew).length - Hin.length = Hnew.length := by simp
 have hold : ∀ id, id < S.nx → hget Hf id = hget S.H id := fun id hid => by
  rw [hf id (by omega)]
  simp only [St.afterCallQ, zb8, zbG, if_neg (by omega : ¬ S.nx ≤ id)]
 have hidlt : ∀ i, i < ids.length → ids.getD i 0 < S.nx := fun i hi => fit.lt _ (by rw [List.getD_eq_getElem?_getD, List.getElem?_eq_getElem hi]; exact List.getElem_mem hi)
 have hHf : ∀ i o, Hin[i]? = some o → hget Hf (ids.getD i 0) = some (renO (rho ids S.nx) o) ∧ zbC ids.length o = true := fun i o hi => by
  have hil : i < ids.length := by rw [fit.len]; exact (List.getElem?_eq_some_iff.1 hi).1
  rw [hold _ (hidlt i hil)]; exact fit.hin i o hi
 unfold Oper.wp
 rw [hrun]
 simp only [Oper.upon]
 have hin := znY (nx := S.nx) h fit.len fit.nodup hHf
 have hargs : RepL (zcn c ids) w args vals := by
  refine RepL.renIn (c := c) (c' := zcn c ids) (ρ := rho ids S.nx) (m := ids.length) (fun b hb => hb) (fun i loc hi h => ?_) args vals fit.bel (by rw [fit.hargs]; exact hvals)
  simp only [zcn, if_pos hi]; rw [zfJ hi] at h; exact h
 refine (fit.ok (zcn c ids) w vals hargs hin (fun id hid => ?_)).mono ?_
 ·simp only [zcn]; rw [if_neg (by rw [fit.len]; omega)]
 rintro e w' ⟨v, c', rfl, hv, hcal, hfr⟩
 obtain ⟨h1, h2, h3, h4, h5, h6⟩ := zoA (nx := S.nx) (H' := Hf) h fit.len fit.nodup fit.lt fit.le hge hHf (fun j hj => hund _ (by omega) (by omega)) hcal hfr (fun id ob hob => by
  by_cases hr : ∃ i, i < (Hin ++ Hnew).length ∧ rho ids S.nx i = id
  ·obtain ⟨i, hi, rfl⟩ := hr
   refine .inl ⟨i, (Hin ++ Hnew)[i], hi, rfl, List.getElem?_eq_getElem hi, ?_⟩
   by_cases him : i < Hin.length
   ·have hil : i < ids.length := by rw [fit.len]; exact him
    have := (hHf i Hin[i] (List.getElem?_eq_getElem him)).1
    rw [zfJ hil, this] at hob
    rw [List.getElem_append_left him]
    exact (inj1 hob).symm
   ·have hr' : rho ids S.nx i = S.nx + (i - Hin.length) := by unfold rho; rw [if_neg (by rw [fit.len]; exact him), fit.len]
    simp only [List.length_append] at hi
    rw [hr', hf _ (by omega)] at hob
    simp only [St.afterCallQ, zb8, zbG, if_pos (by omega : S.nx ≤ S.nx + (i - Hin.length))] at hob
    rw [show S.nx + (i - Hin.length) - S.nx = i - Hin.length by omega] at hob
    have hg : (Hnew.map (renO (rho ids S.nx)))[i - Hin.length]? = some (renO (rho ids S.nx) (Hnew[i - Hin.length]'(by omega))) := by
     rw [List.getElem?_map, List.getElem?_eq_getElem (by omega)]; rfl
    rw [hg] at hob
    rw [List.getElem_append_right (by omega)]
    exact (inj1 hob).symm
  ·refine .inr ⟨fun i hi e => hr ⟨i, hi, e⟩, ob, hob, ?_⟩
   rw [List.map_nil, zkm])
 refine ⟨v, _, rfl, Rep.renOut h4 h5 _ _ hv, by simpa using h1, fun id loc hl => h3 id loc (by simp) hl, h2, fun id hid => ?_⟩
 by_cases hr : ∃ i, i < (Hin ++ Hnew).length ∧ rho ids S.nx i = id
 ·obtain ⟨i, hi, rfl⟩ := hr
  by_cases him : i < Hin.length
  ·have hil : i < ids.length := by rw [fit.len]; exact him
   cases hci : c.φ (rho ids S.nx i) with
   | some loc => exact h3 _ loc (by simp) hci
   | none => exact h6 _ (by rw [zfJ hil]; exact hidlt i hil) hci
  ·exfalso
   have hr' : rho ids S.nx i = S.nx + (i - Hin.length) := by unfold rho; rw [if_neg (by rw [fit.len]; exact him), fit.len]
   simp only [List.length_append] at hi
   rcases hid with hid | hid <;> omega
 ·exact zcI (fun i hi e => hr ⟨i, hi, e⟩)
theorem zrJ (hs : SRel B S c w a) {o : Oper} {f : FuncId} {A : List AV} {K : St → Prop} {Q : Exit → Act → World → Prop} (hd : zdq S o = true) (hc : callee S o.op = some (f, A)) (he : zdJ P f = true) (hk : zub P S f A o.dst K) :
  o.wp P a w (Are B K) Q := by
 obtain ⟨ids, args, Hin, out, Hnew, fit, hK⟩ := hk
 have hg : ∀ id ob, hget (S.afterCallQ ids out Hnew o.dst).H id = some ob → (S.nx ≤ id ∧ id < S.nx + Hnew.length) ∨ (id < S.nx ∧ hget S.H id = some ob) := fun id ob h => by
  simp only [St.afterCallQ, zb8, zbG] at h
  by_cases hle : S.nx ≤ id
  ·rw [if_pos hle] at h
   left
   refine ⟨hle, ?_⟩
   cases hm : (Hnew.map (renO (rho ids S.nx)))[id - S.nx]? with
   | some x => have := (List.getElem?_eq_some_iff.1 hm).1; simp at this; omega
   | none => rw [hm] at h; have := hs.wf _ _ h; omega
  ·rw [if_neg hle] at h
   exact .inr ⟨by omega, h⟩
 have h1 : HRel B (S.afterCallQ ids out Hnew o.dst).H S.mv c w := hs.h.more (fun id ob h => by
  rcases hg id ob h with ⟨h2, _⟩ | ⟨_, h2⟩
  ·exact .inr (hs.fresh id h2)
  ·exact .inl h2)
 refine Oper.wp_mono (fun a' w' h => ?_) (zjV (Q := Q) h1 hs.wf (fun _ _ => rfl) (fun id hid _ => hs.fresh id hid) (hs.mlo ▸ hs.nlo) (fun x _ v h => zcD hs h) hc he fit)
 obtain ⟨v', c', rfl, hr, hH, hgo, hho, hφ⟩ := h
 refine ⟨_, c', hK, ⟨hH, ?_, by rw [zcH]; exact hs.nt, by rw [za7]; exact hs.df, fun id hid => ?_, hs.lo, fun id ob h => ?_, hs.mlo, Nat.le_trans hs.nlo (Nat.le_add_right _ _)⟩⟩
 ·exact zd8 (fun t v h => Rep.mono hho hgo _ _ (hs.t t v h)) (fun d h => by rw [hs.nt]; exact zg5 hd d h) hr
 ·have hid' : S.nx + Hnew.length ≤ id := hid
  rw [hφ id (.inr hid')]; exact hs.fresh id (by omega)
 ·show id < S.nx + Hnew.length
  rcases hg id ob h with ⟨_, h2⟩ | ⟨h2, _⟩ <;> omega
theorem zkt (hs : SRel B S c w a) {o : Oper} {K : St → Prop} {Q : Exit → Act → World → Prop} {tot : Prop} (hd : zdq S o = true) (h : zg8 P tot S o K) : o.wp P a w (Are B K) Q := by
 rcases h with h | h | h | h
 case inr.inr.inr =>
  rcases h with ⟨b, v, ob, h1, _, h3, h4⟩ | ⟨b, v, H', k, h1, _, h3, h4⟩
  ·obtain ⟨v', w', c', hrun, hg, hr⟩ := zme (P := P) (hs.fresh _ (Nat.le_refl _)) hs.h.imm hs.h.heap (zgU hs o.op) h1 h3
   unfold Oper.wp
   rw [hrun]
   exact ⟨_, _, h4, zhp hs hd hg hr⟩
  ·obtain ⟨w', c', hr⟩ := znp (P := P) hs h1 h3 (zg5 hd)
   unfold Oper.wp
   rcases hr with ⟨_, hrun, hs'⟩ | ⟨u, hrun, hs'⟩
   ·rw [hrun]; exact ⟨_, _, h4, hs'⟩
   ·rw [hrun]; exact ⟨_, _, h4, hs'⟩
 case inr.inr.inl =>
  obtain ⟨cond, sz, n, e, cs, he, hc, hl, hK⟩ := zhd h
  have hnx := hs.fresh S.nx (Nat.le_refl _)
  obtain ⟨v', w', c', hrun, hr, hrel, hgo, hho, hφ⟩ := zje (P := P) (zgU hs o.op) (fun v => rfl) hs.h.heap hs.h.imm hnx he hc hl
  unfold Oper.wp
  rw [hrun]
  refine ⟨_, c', hK, hrel B S.H S.mv hs.h ?_ (hs.mlo ▸ hs.nlo), ?_, by rw [zcH]; exact hs.nt, by rw [za7]; exact hs.df, fun id hid => ?_, hs.lo, fun id ob h => Nat.lt_succ_of_lt (hs.wf id ob h), hs.mlo, Nat.le_trans hs.nlo (Nat.le_succ _)⟩
  ·cases h0 : hget S.H S.nx with
   | none => rfl
   | some ob => have := hs.wf _ _ h0; omega
  ·exact zd8 (fun t v h => Rep.mono hho hgo _ _ (hs.t t v h)) (fun d h => by rw [hs.nt]; exact zg5 hd d h) hr
  ·have hid' : S.nx + 1 ≤ id := hid
   rw [hφ id (by omega)]; exact hs.fresh id (by omega)
 case inr.inl =>
  unfold runX at h
  split at h
  ·rename_i cond v H' he
   obtain ⟨_, hc, hK⟩ := h
   obtain ⟨w', u, hrun, hs'⟩ := zm3 (P := P) hs he hc (zg5 hd)
   unfold Oper.wp
   rw [hrun]
   exact ⟨_, _, hK, hs'⟩
  ·split at h
   case h_2 => exact h.elim
   rename_i cond H' he
   obtain ⟨_, hc, hK⟩ := h
   obtain ⟨w', hrun, hs'⟩ := zm1 (P := P) hs he hc (zg5 hd)
   unfold Oper.wp
   rw [hrun]
   exact ⟨_, _, hK, hs'⟩
 unfold zcj at h
 split at h
 ·rename_i cond v new he
  obtain ⟨hc, hK⟩ := h
  obtain ⟨v', w', c', hrun, hg, hr⟩ := zgi (P := P) (zgU hs o.op) (fun v => rfl) hs.h.heap hs.h.imm (fun _ => hs.fresh _ (Nat.le_refl _)) he hc
  unfold Oper.wp
  rw [hrun]
  exact ⟨_, _, hK, zhp hs hd hg hr⟩
 ·split at h
  ·rename_i cond v H' k he
   obtain ⟨_, hc, hK⟩ := h
   obtain ⟨w', c', hr⟩ := znl hs he hc (zg5 hd)
   unfold Oper.wp
   rcases hr with ⟨_, hrun, hs'⟩ | ⟨u, hrun, hs'⟩
   ·rw [hrun]; exact ⟨_, _, hK, hs'⟩
   ·rw [hrun]; exact ⟨_, _, hK, hs'⟩
  ·split at h
   ·rename_i f A hc
    rcases h.2 with h2 | ⟨_, h2⟩
    ·exact zrJ hs hd hc h.1 h2
    ·exact zso hs hd hc h.1 h2
   ·exact h.elim
theorem zhf {Q : St → Prop} {R : Exit → Act → World → Prop} (hR : ∀ a w, Are B Q a w → R .normal a w) : ∀ (l : List Oper) (j : Nat) (S : St) (c : Ctx) (w : World) (a : Act), SRel B S c w a → zY P ops false j l S Q → wpList P ops R l a w
 | [], _, S, c, w, a, hs, h => hR a w ⟨S, c, h, hs⟩
 | o :: r, j, S, c, w, a, hs, h => by
  simp only [zY, opWp] at h
  obtain ⟨hd, h⟩ := h
  unfold wpList
  split at h
  ·rename_i hg
   rw [if_pos (zce hs.t hg)]
   left
   refine Oper.wp_mono (fun a' w' h' => ?_) (zkt (Q := R) hs hd h)
   obtain ⟨S', c', h1, h2⟩ := h'
   exact zhf hR r (j + 1) S' c' w' a' h2 h1
  ·rename_i hg
   rw [if_neg (by rw [zce hs.t hg]; simp)]
   exact zhf hR r (j + 1) _ c w _ (zlb hs hd) h
  ·exact h.elim
mutual
theorem zlI : ∀ a : AV, ren (fun i => i) a = a
 | .undef => rfl
 | .pv _ => rfl
 | .pptr _ _ => rfl
 | .ptr _ _ => rfl
 | .ref _ _ _ _ => rfl
 | .view _ _ _ => rfl
 | .agg cs => by simp only [ren, zdT cs]
 | .tup cs => by simp only [ren, zdT cs]
 | .fnc _ cs => by simp only [ren, zdT cs]
 | .bnd _ _ cs => by simp only [ren, zdT cs]
 | .mapr _ => rfl
theorem zdT : ∀ as : List AV, renL (fun i => i) as = as
 | [] => rfl
 | a :: as => by simp only [renL, zlI a, zdT as]
end
structure Less (S S' : St) : Prop where
 t : ∀ x ∈ S'.T, tget S.T x.1 = some x.2 ∧ zao S'.nx x.2 = true
 h : ∀ x ∈ S'.H, hget S.H x.1 = some x.2 ∧ zbC S'.nx x.2 = true ∧ x.1 < S'.nx
 mv : ∀ x ∈ S.mv, x ∈ S'.mv ∨ S.lo ≤ x
 nt : S'.nt = S.nt
 lo : S'.lo = S.lo
 nx : S.lo ≤ S'.nx
theorem zot : ∀ {T : Tm} {t : Nat} {v : AV}, tget T t = some v → (t, v) ∈ T
 | [], _, _, h => by simp [tget] at h
 | (k, u) :: r, t, v, h => by
  simp only [tget] at h
  split at h
  ·rename_i e; subst e; obtain rfl := inj1 h; simp
  ·exact List.mem_cons_of_mem _ (zot h)
theorem zkA : ∀ {T : Heap} {t : Nat} {v : VObj}, hget T t = some v → (t, v) ∈ T
 | [], _, _, h => by simp [hget] at h
 | (k, u) :: r, t, v, h => by
  simp only [hget] at h
  split at h
  ·rename_i e; subst e; obtain rfl := inj1 h; simp
  ·exact List.mem_cons_of_mem _ (zkA h)
theorem SRel.less {S' : St} (hs : SRel B S c w a) (hl : Less S S') : ∃ c', SRel B S' c' w a := by
 let c' : Ctx := { φ := fun id => if id < S'.nx then c.φ id else none, I := c.I }
 have hrep : ∀ {v u}, zao S'.nx v = true → Rep c w v u → Rep c' w v u := fun hb h =>
  Rep.renIn (c := c) (c' := c') (ρ := fun i => i) (m := S'.nx) (fun b hb => hb) (fun i loc hi h => by show (if i < S'.nx then c.φ i else none) = some loc; rw [if_pos hi]; exact h) _ _ hb (by rw [zlI]; exact h)
 have hφ : ∀ {id loc}, c'.φ id = some loc → id < S'.nx ∧ c.φ id = some loc := fun {id loc} h => by
  have h' : (if id < S'.nx then c.φ id else none) = some loc := h
  split at h'
  ·exact ⟨by assumption, h'⟩
  ·cases h'
 have hH : ∀ {id o}, hget S'.H id = some o → hget S.H id = some o ∧ zbC S'.nx o = true := fun h => by
  have := hl.h _ (zkA h); exact ⟨this.1, this.2.1⟩
 refine ⟨c', ⟨fun id o loc h1 h2 => ?_, fun id o b cap h1 h2 => ?_, fun id id' o o' b cap cap' hne h1 h2 h3 h4 => ?_, hs.h.imm, hs.h.size, hs.h.os, hs.h.tape, hs.h.output, hs.h.blk, hs.h.I, fun id loc hid h1 => ?_, fun id hid h1 => ?_⟩, fun t v h => ?_, ?_, hs.df, fun id hid => ?_, ?_, fun id o h => (hl.h _ (zkA h)).2.2, hl.lo.symm ▸ hs.mlo, hl.lo.symm ▸ hl.nx⟩
 ·obtain ⟨h3, h4⟩ := hH h1
  have := hs.h.heap id o loc h3 (hφ h2).2
  refine zby.renIn (c := c) (c' := c') (ρ := fun i => i) (m := S'.nx) (fun b hb => hb) (fun i loc hi h => by show (if i < S'.nx then c.φ i else none) = some loc; rw [if_pos hi]; exact h) h4 ?_
  have e : renO (fun i => i) o = o := by cases o <;> simp [renO, zdT]
  rw [e]; exact this
 ·exact hs.h.own id o b cap (hH h1).1 (hφ h2).2
 ·exact hs.h.apart id id' o o' b cap cap' hne (hH h1).1 (hH h2).1 (hφ h3).2 (hφ h4).2
 ·have h2 := hs.h.φ id loc (fun hm => by
   rcases hl.mv id hm with h3 | h3
   ·exact hid h3
   ·rw [hs.lo id h3] at h1; cases h1) h1
  show (if id < S'.nx then c.φ id else none) = some loc
  rw [if_pos]
  ·exact h2
  ·have := hs.lo id
   rcases Nat.lt_or_ge id S'.nx with h3 | h3
   ·exact h3
   ·have h4 := this (Nat.le_trans hl.nx h3)
    rw [h4] at h1; cases h1
 ·show (if id < S'.nx then c.φ id else none) = none
  split
  ·exact hs.h.und id hid h1
  ·rfl
 ·have := hl.t _ (zot h)
  exact hrep this.2 (hs.t t v this.1)
 ·rw [hl.nt]; exact hs.nt
 ·show (if id < S'.nx then c.φ id else none) = none
  rw [if_neg (by omega)]
 ·rw [hl.lo]; exact hs.lo
end
end Go.Proofs.YtppnccjeggnllaaGreatVm
namespace Go.Proofs.YtppnccjeggnllaaGreatVm
open Go Go.RowKit
set_option linter.all false
def ze6 (ops : Array Oper) (o : Oper) : List Tmp := o.dst.toList ++ Oper.looksAt ops o
def zf9 (ops : Array Oper) : Bool :=
 (List.range ops.size).all fun j => match ops[j]? with
  | some oj => (oj.after.toList.all fun e => !Region.binds .any e || decide (e.on < j)) && (List.range j).all fun i => match ops[i]? with
   | some oi => bef ops j i || !((match oi.dst with | some d => (ze6 ops oj).contains d | none => false) || (match oj.dst with | some d => (ze6 ops oi).contains d | none => false))
   | none => true
  | none => true
section
variable {ops : Array Oper}
def zd6 (acc : Array Nat) (o : Oper) : Nat := o.after.foldl (fun s e => if Region.binds .any e then s ||| 2 ^ e.on ||| acc.getD e.on 0 else s) 0
theorem zee (g : Array Nat → Oper → Nat) : ∀ (l : List Oper) (acc : Array Nat), (l.foldl (fun acc o => acc.push (g acc o)) acc).size = acc.size + l.length
 | [], _ => rfl
 | o :: l, acc => by simp [zee g l]; omega
theorem zev (g : Array Nat → Oper → Nat) : ∀ (l : List Oper) (acc : Array Nat) (i : Nat), i < acc.size → (l.foldl (fun acc o => acc.push (g acc o)) acc)[i]? = acc[i]?
 | [], _, _, _ => rfl
 | o :: l, acc, i, h => by
  simp only [List.foldl_cons]
  rw [zev g l _ i (by simp; omega), Array.getElem?_push, if_neg (by omega)]
theorem zjJ (g : Array Nat → Oper → Nat) (l : List Oper) : ∀ (acc : Array Nat) (k : Nat) (o : Oper), l[k]? = some o →
  (l.foldl (fun acc o => acc.push (g acc o)) acc)[acc.size + k]? = some (g ((l.take k).foldl (fun acc o => acc.push (g acc o)) acc) o) := by
 induction l with
 | nil => intro acc k o h; simp at h
 | cons x l ih =>
  intro acc k o h
  cases k with
  | zero =>
   obtain rfl : x = o := by simpa using h
   rw [List.foldl_cons, List.take_zero, List.foldl_nil, Nat.add_zero, zev g l _ _ (by rw [Array.size_push]; omega), Array.getElem?_push, if_pos rfl]
  | succ k =>
   rw [List.foldl_cons, List.take_succ_cons, List.foldl_cons]
   have := ih (acc.push (g acc x)) k o (by simpa using h)
   rw [← this, Array.size_push]
   congr 1
   omega
theorem zo8 {j : Nat} {o : Oper} (h : ops[j]? = some o) : ∃ acc : Array Nat, (Region.before ops)[j]? = some (zd6 acc o) ∧ ∀ i, acc.getD i 0 = if i < j then (Region.before ops).getD i 0 else 0 := by
 have e : Region.before ops = ops.toList.foldl (fun acc o => acc.push (zd6 acc o)) #[] := by
  unfold Region.before zd6
  rw [← Array.foldl_toList]
 have hl : ops.toList[j]? = some o := by simpa using h
 refine ⟨(ops.toList.take j).foldl (fun acc o => acc.push (zd6 acc o)) #[], ?_, fun i => ?_⟩
 ·rw [e]
  have := zjJ zd6 ops.toList #[] j o hl
  simpa using this
 ·have hj : j < ops.toList.length := (List.getElem?_eq_some_iff.1 hl).1
  have hsz : ((ops.toList.take j).foldl (fun acc o => acc.push (zd6 acc o)) #[]).size = j := by
   rw [zee]; simp at hj ⊢; omega
  split
  ·rename_i hi
   rw [e]
   have h2 : ops.toList = ops.toList.take j ++ ops.toList.drop j := (List.take_append_drop j _).symm
   conv => rhs; rw [h2, List.foldl_append]
   have := zev zd6 (ops.toList.drop j) ((ops.toList.take j).foldl (fun acc o => acc.push (zd6 acc o)) #[]) i (by omega)
   simp only [Array.getD_eq_getD_getElem?, this]
  ·rename_i hi
   rw [Array.getD_eq_getD_getElem?, Array.getElem?_eq_none (by omega)]; rfl
theorem ziN (acc : Array Nat) (i : Nat) : ∀ (l : List Edge) (s : Nat), (l.foldl (fun s e => if Region.binds .any e then s ||| 2 ^ e.on ||| acc.getD e.on 0 else s) s).testBit i = true →
  s.testBit i = true ∨ ∃ e ∈ l, Region.binds .any e = true ∧ (e.on = i ∨ (acc.getD e.on 0).testBit i = true)
 | [], s, h => .inl h
 | e :: l, s, h => by
  simp only [List.foldl_cons] at h
  rcases ziN acc i l _ h with h1 | ⟨e', h1, h2⟩
  ·split at h1
   ·rename_i hb
    simp only [Nat.testBit_or, Nat.testBit_two_pow, Bool.or_eq_true, decide_eq_true_eq] at h1
    rcases h1 with (h1 | h1) | h1
    ·exact .inl h1
    ·exact .inr ⟨e, by simp, hb, .inl h1⟩
    ·exact .inr ⟨e, by simp, hb, .inr h1⟩
   ·exact .inl h1
  ·exact .inr ⟨e', by simp [h1], h2⟩
theorem zs9 {j i : Nat} (h : bef ops j i = true) : ∃ o e, ops[j]? = some o ∧ e ∈ o.after ∧ Region.binds .any e = true ∧ (e.on = i ∨ (e.on < j ∧ bef ops e.on i = true)) := by
 unfold bef at h
 cases ho : ops[j]? with
 | none =>
  have hsz : (Region.before ops).size = ops.size := by
   unfold Region.before
   rw [← Array.foldl_toList]
   have := zee zd6 ops.toList #[]
   simpa [zd6] using this
  have : ops.size ≤ j := by simpa using ho
  rw [Array.getD_eq_getD_getElem?, Array.getElem?_eq_none (by omega)] at h
  simp at h
 | some o =>
  obtain ⟨acc, h1, h2⟩ := zo8 ho
  rw [Array.getD_eq_getD_getElem?, h1] at h
  simp only [Option.getD_some, zd6] at h
  rw [← Array.foldl_toList] at h
  rcases ziN acc i _ _ h with h3 | ⟨e, h3, h4, h5⟩
  ·simp at h3
  ·refine ⟨o, e, rfl, by simpa using h3, h4, h5.imp (fun h => h) (fun h6 => ?_)⟩
   rw [h2] at h6
   split at h6
   ·exact ⟨by assumption, h6⟩
   ·simp at h6
def zgA (ops : Array Oper) (listed : Array Bool) : Prop := ∀ j i, listed.getD j false = true → bef ops j i = true → listed.getD i false = true
theorem zc5 {listed : Array Bool} (hc : zgA ops listed) {j i : Nat} (hr : j ∈ Region.ready .any ops listed) (h : bef ops j i = true) : listed.getD i false = true := by
 obtain ⟨_, o, ho, hall⟩ := mem_ready.1 hr
 obtain ⟨o', e, ho', he, hb, h1⟩ := zs9 h
 rw [ho] at ho'; cases ho'
 have h2 := hall e he hb
 rcases h1 with rfl | ⟨_, h3⟩
 ·exact h2
 ·exact hc _ _ h2 h3
theorem zmA (h : zf9 ops = true) {j : Nat} {o : Oper} (ho : ops[j]? = some o) {e : Edge} (he : e ∈ o.after) (hb : Region.binds .any e = true) : e.on < j := by
 unfold zf9 at h
 have hj : j < ops.size := (Array.getElem?_eq_some_iff.1 ho).1
 have := List.all_eq_true.1 h j (List.mem_range.2 hj)
 simp only [ho, Bool.and_eq_true] at this
 have := List.all_eq_true.1 this.1 e (by simpa using he)
 simpa [hb] using this
theorem zgm (h : zf9 ops = true) {i j : Nat} {oi oj : Oper} (hij : i < j) (hi : ops[i]? = some oi) (hj : ops[j]? = some oj) {d : Tmp} (hd : (oi.dst = some d ∧ d ∈ ze6 ops oj) ∨ (oj.dst = some d ∧ d ∈ ze6 ops oi)) : bef ops j i = true := by
 unfold zf9 at h
 have hjs : j < ops.size := (Array.getElem?_eq_some_iff.1 hj).1
 have := List.all_eq_true.1 h j (List.mem_range.2 hjs)
 simp only [hj, Bool.and_eq_true] at this
 have := List.all_eq_true.1 this.2 i (List.mem_range.2 hij)
 simp only [hi, Bool.or_eq_true, Bool.not_eq_true', Bool.or_eq_false_iff] at this
 rcases this with h1 | ⟨h1, h2⟩
 ·exact h1
 ·rcases hd with ⟨h3, h4⟩ | ⟨h3, h4⟩
  ·simp only [h3] at h1
   have : (ze6 ops oj).contains d = true := by simpa using h4
   rw [this] at h1; cases h1
  ·simp only [h3] at h2
   have : (ze6 ops oi).contains d = true := by simpa using h4
   rw [this] at h2; cases h2
theorem zhq {i j : Nat} (h : total ops j = true) (hi : i < ops.size) : (i < j → bef ops j i = true) ∧ (j < i → bef ops i j = true) := by
 unfold total at h
 have := List.all_eq_true.1 h i (List.mem_range.2 hi)
 constructor
 ·intro hij; simpa [hij] using this
 ·intro hij; rw [if_neg (by omega), if_pos hij] at this; exact this
theorem zpA (h : zf9 ops = true) {listed : Array Bool} (hsz : listed.size = ops.size) (hr : Region.ready .any ops listed = []) : ∀ j, j < ops.size → listed.getD j false = true := by
 intro j
 induction j using Nat.strongRecOn with
 | _ j ih =>
  intro hj
  cases hl : listed.getD j false with
  | true => rfl
  | false =>
   exfalso
   have : j ∈ Region.ready .any ops listed := mem_ready.2 ⟨by
     have hjl : j < listed.size := by omega
     simp [hjl] at hl ⊢; exact hl, ops[j], by simp [hj], fun e he hb => by
     have := zmA h (j := j) (o := ops[j]) (by simp [hj]) he hb
     exact ih _ this (by omega)⟩
   rw [hr] at this
   simp at this
end
end Go.Proofs.YtppnccjeggnllaaGreatVm
namespace Go.Proofs.YtppnccjeggnllaaGreatVm
open Go Go.RowKit
set_option linter.all false
section
variable {P : Program} {B : Base} {ops : Array Oper}
structure znc (P : Program) (B : Base) (ops : Array Oper) (S : St) (o : Oper) (v : AV) (S' : St) : Prop where
 t : S'.T = tput S.T o.dst v
 mv : S'.mv = S.mv
 nt : S'.nt = S.nt
 lo : S'.lo = S.lo
 nx : S.nx ≤ S'.nx
 old : ∀ id, id < S.nx → hget S'.H id = hget S.H id
 wf : ∀ id ob, hget S'.H id = some ob → id < S'.nx
 sound : ∀ (Hf : Heap) (mvB : List Nat) (c : Ctx) (w : World) (a : Act) (Q : Exit → Act → World → Prop), HRel B Hf mvB c w → (∀ id, id < S'.nx → hget Hf id = hget S'.H id) → (∀ id, S.nx ≤ id → id < S'.nx → c.φ id = none) →
  (∀ t ∈ Oper.looksAt ops o, ∀ x, tget S.T t = some x → Rep c w x (a.tmps.getD t undef)) →
  ∀ K : Act → World → Prop, (∀ (c' : Ctx) (w' : World) (v' : Value), Rep c' w' v v' → HRel B Hf mvB c' w' → Goes c c' → zaT c c' w w' → (∀ id, (id < S.nx ∨ S'.nx ≤ id) → c'.φ id = c.φ id) → K (a.put o.dst v') w') →
  if Region.wanted o (yielded ops a.tmps) then o.wp P a w K Q else K (a.put o.dst undef) w
theorem zfS {S : St} {c : Ctx} {w : World} {a : Act} {o : Oper} {b : Bool} (ht : ∀ t ∈ Oper.looksAt ops o, ∀ x, tget S.T t = some x → Rep c w x (a.tmps.getD t undef)) (h : zbP ops S o = some b) : Region.wanted o (yielded ops a.tmps) = b := by
 unfold zbP at h
 cases hg : o.guard with
 | none => rw [hg] at h; obtain rfl := inj1 h; simp [Region.wanted, hg]
 | some jw =>
  obtain ⟨j, want⟩ := jw
  have h0 := h
  rw [hg] at h
  simp only at h
  cases htm : (ops[j]?).bind (·.dst) with
  | none => rw [htm] at h; simp at h
  | some t =>
   have hlk : t ∈ Oper.looksAt ops o := by simp [Oper.looksAt, hg, htm]
   refine zce (c := c) (w := w) (S := { S with T := match tget S.T t with | some x => [(t, x)] | none => [] }) (ops := ops) (fun t' v h' => ?_) (o := o) ?_
   ·simp only at h'
    cases hx : tget S.T t with
    | none => rw [hx] at h'; simp [tget] at h'
    | some x =>
     rw [hx] at h'
     simp only [tget] at h'
     split at h'
     ·rename_i e; subst e; obtain rfl := inj1 h'; exact ht _ hlk _ hx
     ·cases h'
   ·unfold zbP
    rw [hg]
    simp only [htm]
    rw [htm] at h
    simp only at h
    cases hx : tget S.T t with
    | none => rw [hx] at h; simp at h
    | some x => rw [hx] at h; simpa [tget] using h
theorem zmP {S : St} {c : Ctx} {w : World} {a : Act} {o : Oper} (ht : ∀ t ∈ Oper.looksAt ops o, ∀ x, tget S.T t = some x → Rep c w x (a.tmps.getD t undef)) : ∀ x ∈ o.op.operands.toList, ∀ v, S.ev x = some v → Rep c w v (a.eval x) := by
 intro x hx v h
 cases x with
 | tmp t => exact ht t (by unfold Oper.looksAt; exact List.mem_append_left _ (List.mem_filterMap.2 ⟨.tmp t, hx, rfl⟩)) v h
 | const u => exact zgf h
 | func f => simp only [St.ev] at h; obtain rfl := inj1 h; exact ⟨_, rfl, by simp [RepL]⟩
 | global g => simp [St.ev] at h
theorem zud {S : St} {o : Oper} {cond : Prop} {v : AV} {new : Option VObj} (hwf : ∀ id ob, hget S.H id = some ob → id < S.nx) (hlo : B.m ≤ S.nx) (hg : zbP ops S o = some true) (he : zcv P S.ev S.H S.nx o.op o.type = some (cond, v, new)) (hc : cond) : znc P B ops S o v (S.applyR o.dst v new) := by
 have hH : ∀ id, id < S.nx → hget (S.applyR o.dst v new).H id = hget S.H id := fun id hid => by
  cases new with
  | none => rfl
  | some ob => simp only [St.applyR, hget]; rw [if_neg (by omega)]
 refine ⟨by cases new <;> rfl, by cases new <;> rfl, by cases new <;> rfl, by cases new <;> rfl, by cases new <;> simp [St.applyR], hH, fun id ob h => ?_, ?_⟩
 ·cases new with
  | none => exact hwf id ob h
  | some x =>
   simp only [St.applyR, hget] at h
   show id < S.nx + 1
   split at h
   ·omega
   ·have := hwf id ob h; omega
 ·intro Hf mvB c w a Q h hf hund ht K hK
  rw [if_pos (zfS ht hg)]
  have hnew : new ≠ none → c.φ S.nx = none := fun hn => by
   cases new with
   | none => exact absurd rfl hn
   | some x => exact hund S.nx (Nat.le_refl _) (by simp [St.applyR])
  have hheap : zcX c w S.H := fun id ob loc h1 h2 => by
   have hlt := hwf id ob h1
   refine h.heap id ob loc ?_ h2
   rw [hf id (by cases new <;> simp [St.applyR] <;> omega), hH id hlt]; exact h1
  obtain ⟨v', w', c', hrun, hgr, hr⟩ := zgi (P := P) (zmP ht) (fun v => rfl) hheap h.imm hnew he hc
  unfold Oper.wp
  rw [hrun]
  have hgr' : znk B Hf (fun id => id = S.nx ∧ new ≠ none) c w c' w' := Grew.grown hgr hnew h.imm (fun _ => hlo) (fun ob hn => by
   subst hn
   rw [hf S.nx (by simp [St.applyR])]
   simp [St.applyR, hget])
  refine hK c' w' v' hr (h.grown hgr') hgr'.goes (hgr'.holds h.imm) (fun id hid => ?_)
  refine hgr'.φ id (fun hn => ?_)
  obtain ⟨rfl, hne⟩ := hn
  cases new with
  | none => exact hne rfl
  | some x => simp only [St.applyR] at hid; omega
theorem zuy {S : St} {o : Oper} {cond : Prop} {sz n : Nat} {e : TypeId} {cs : List PV} (hwf : ∀ id ob, hget S.H id = some ob → id < S.nx) (hlo : B.m ≤ S.nx) (hg : zbP ops S o = some true) (he : zcv P S.ev S.H S.nx o.op o.type = some (cond, .ref S.nx sz 0 n, some (.row e sz cs))) (hc : cond) (hl : cs.length = n * sz) : znc P B ops S o (.pv (.slc n false cs)) (S.applyF o.dst (.pv (.slc n false cs))) := by
 refine ⟨rfl, rfl, rfl, rfl, Nat.le_succ _, fun _ _ => rfl, fun id ob h => Nat.lt_succ_of_lt (hwf id ob h), ?_⟩
 intro Hf mvB c w a Q h hf hund ht K hK
 rw [if_pos (zfS ht hg)]
 have hnx : c.φ S.nx = none := hund S.nx (Nat.le_refl _) (Nat.lt_succ_self _)
 have hheap : zcX c w S.H := fun id ob loc h1 h2 => by
  have hlt := hwf id ob h1
  exact h.heap id ob loc (by rw [hf id (Nat.lt_succ_of_lt hlt)]; exact h1) h2
 obtain ⟨v', w', c', hrun, hr, hrel, hgo, hho, hφ⟩ := zje (P := P) (zmP ht) (fun v => rfl) hheap h.imm hnx he hc hl
 unfold Oper.wp
 rw [hrun]
 refine hK c' w' v' hr (hrel B Hf mvB h ?_ hlo) hgo hho (fun id hid => hφ id ?_)
 ·rw [hf S.nx (Nat.lt_succ_self _)]
  show hget S.H S.nx = none
  cases h0 : hget S.H S.nx with
  | none => rfl
  | some ob => have := hwf _ _ h0; omega
 ·have : id < S.nx ∨ S.nx + 1 ≤ id := hid
  omega
theorem zo6 {S : St} {o : Oper} (hwf : ∀ id ob, hget S.H id = some ob → id < S.nx) (hg : zbP ops S o = some false) : znc P B ops S o (.tup []) (S.skip o.dst) := by
 refine ⟨rfl, rfl, rfl, rfl, Nat.le_refl _, fun _ _ => rfl, hwf, ?_⟩
 intro Hf mvB c w a Q h hf hund ht K hK
 rw [if_neg (by rw [zfS ht hg]; simp)]
 exact hK c w undef zlP h (fun _ _ h => h) (fun b hb => ⟨hb, rfl⟩) (fun _ _ => rfl)
theorem zpp {S : St} {o : Oper} {f : FuncId} {A : List AV} {ids : List Nat} {args : List AV} {Hin Hnew : List VObj} {out : AV} (hwf : ∀ id ob, hget S.H id = some ob → id < S.nx) (hlo : B.m ≤ S.nx) (hg : zbP ops S o = some true)
  (hc : callee S o.op = some (f, A)) (he : zdJ P f = true) (fit : zip P S f A ids args Hin out (Hin ++ Hnew) []) : znc P B ops S o (ren (rho ids S.nx) out) (S.afterCallQ ids out Hnew o.dst) := by
 refine ⟨rfl, rfl, rfl, rfl, Nat.le_add_right _ _, fun id hid => ?_, fun id ob h => ?_, ?_⟩
 ·simp only [St.afterCallQ, zb8, zbG]
  rw [if_neg (by omega)]
 ·simp only [St.afterCallQ, zb8, zbG] at h
  show id < S.nx + Hnew.length
  by_cases hle : S.nx ≤ id
  ·rw [if_pos hle] at h
   cases hm : (Hnew.map (renO (rho ids S.nx)))[id - S.nx]? with
   | some x => have := (List.getElem?_eq_some_iff.1 hm).1; simp at this; omega
   | none => rw [hm] at h; have := hwf _ _ h; omega
  ·omega
 ·intro Hf mvB c w a Q h hf hund ht K hK
  rw [if_pos (zfS ht hg)]
  refine Oper.wp_mono (fun a' w' h' => ?_) (zjV (Q := Q) h hwf hf hund hlo (zmP ht) hc he fit)
  obtain ⟨v', c', rfl, hr, hH, hgo, hho, hφ⟩ := h'
  exact hK c' w' v' hr hH hgo hho hφ
inductive zfc (P : Program) (B : Base) (ops : Array Oper) (j : Nat) (S : St) (o : Oper) (S' : St) : Prop
 | quiet (v : AV) (hd : zdq S o = true) (q : (∀ id ob, hget S.H id = some ob → id < S.nx) → B.m ≤ S.nx → znc P B ops S o v S')
 | loud (ht : total ops j = true) (h : ∀ c w a (Q : Exit → Act → World → Prop), SRel B S c w a → Region.wanted o (yielded ops a.tmps) = true ∧ o.wp P a w (Are B (· = S')) Q)
theorem zi1 {tot : Prop} {S : St} {o : Oper} {K : St → Prop} (h : zg8 P tot S o K) : ∃ S', K S' ∧ zg8 P tot S o (· = S') := by
 rcases h with h | h | h | h
 case inr.inr.inr =>
  obtain ⟨S', h1, h2⟩ := zsT h
  exact ⟨S', h1, .inr (.inr (.inr h2))⟩
 case inr.inr.inl =>
  obtain ⟨cond, sz, n, e, cs, he, hc, hl, hK⟩ := zhd h
  exact ⟨_, hK, .inr (.inr (.inl (zru he hc hl rfl)))⟩
 case inr.inl =>
  unfold runX at h
  split at h
  ·rename_i he
   exact ⟨_, h.2.2, .inr (.inl (by unfold runX; rw [he]; exact ⟨h.1, h.2.1, rfl⟩))⟩
  ·rename_i hx
   split at h
   ·rename_i he
    exact ⟨_, h.2.2, .inr (.inl (by unfold runX; rw [hx]; dsimp only; rw [he]; exact ⟨h.1, h.2.1, rfl⟩))⟩
   ·exact h.elim
 suffices hh : ∃ S', K S' ∧ zcj P tot S o (· = S') from by
  obtain ⟨S', h1, h2⟩ := hh
  exact ⟨S', h1, .inl h2⟩
 unfold zcj at h ⊢
 split at h
 ·exact ⟨_, h.2, h.1, rfl⟩
 ·split at h
  ·exact ⟨_, h.2.2, h.1, h.2.1, rfl⟩
  ·split at h
   ·rcases h.2 with ⟨ids, args, Hin, out, Hnew, fit, hK⟩ | ⟨ht, ids, args, Hin, out, Hout, mv, fit, hK⟩
    ·exact ⟨_, hK, h.1, .inl ⟨ids, args, Hin, out, Hnew, fit, rfl⟩⟩
    ·exact ⟨_, hK, h.1, .inr ⟨ht, ids, args, Hin, out, Hout, mv, fit, rfl⟩⟩
   ·exact h.elim
theorem zm9 {j : Nat} {S : St} {o : Oper} {K : St → Prop} (h : opWp P ops (true = false ∨ total ops j = true) S o K) : ∃ S', K S' ∧ zfc P B ops j S o S' := by
 unfold opWp at h
 obtain ⟨hd, h⟩ := h
 split at h
 ·rename_i hg
  have loud : total ops j = true → ∀ S', zg8 P (true = false ∨ total ops j = true) S o (· = S') → zfc P B ops j S o S' := fun ht S' hr => .loud ht fun c w a Q hs => ⟨zce hs.t hg, zkt hs hd hr⟩
  have hall := zi1 h
  rcases h with h | h | h | h
  case inr.inr.inr =>
   obtain ⟨S', h1, h2⟩ := hall
   exact ⟨S', h1, loud (by simpa using zs2 h) S' h2⟩
  case inr.inr.inl =>
   obtain ⟨cond, sz, n, e, cs, he, hc, hl, hK⟩ := zhd h
   exact ⟨_, hK, .quiet _ hd fun hwf hlo => zuy hwf hlo hg he hc hl⟩
  case inr.inl =>
   obtain ⟨S', h1, h2⟩ := hall
   unfold runX at h
   split at h
   ·exact ⟨S', h1, loud (by simpa using h.1) S' h2⟩
   ·split at h
    ·exact ⟨S', h1, loud (by simpa using h.1) S' h2⟩
    ·exact h.elim
  unfold zcj at h
  split at h
  ·rename_i cond v new he
   exact ⟨_, h.2, .quiet v hd fun hwf hlo => zud hwf hlo hg he h.1⟩
  ·split at h
   ·obtain ⟨S', h1, h2⟩ := hall
    exact ⟨S', h1, loud (by simpa using h.1) S' h2⟩
   ·split at h
    ·rename_i f A hc
     obtain ⟨he, h3⟩ := h
     rcases h3 with ⟨ids, args, Hin, out, Hnew, fit, hK⟩ | ⟨ht, ids, args, Hin, out, Hout, mv, fit, hK⟩
     ·exact ⟨_, hK, .quiet _ hd fun hwf hlo => zpp hwf hlo hg hc he fit⟩
     ·obtain ⟨S', h1, h2⟩ := hall
      exact ⟨S', h1, loud (by simpa using ht) S' h2⟩
    ·exact h.elim
 ·rename_i hg
  exact ⟨_, h, .quiet (.tup []) hd fun hwf _ => zo6 hwf hg⟩
 ·exact h.elim
theorem zlk {Q : St → Prop} : ∀ (l : List Oper) (j : Nat) (S : St), zY P ops true j l S Q →
  ∃ F : Nat → St, F j = S ∧ Q (F (j + l.length)) ∧ ∀ i o, l[i]? = some o → zfc P B ops (j + i) (F (j + i)) o (F (j + i + 1))
 | [], j, S, h => ⟨fun _ => S, rfl, h, fun i o hi => by simp at hi⟩
 | o :: l, j, S, h => by
  simp only [zY] at h
  obtain ⟨S', h1, h2⟩ := zm9 (B := B) h
  obtain ⟨F, hF, hQ, hst⟩ := zlk l (j + 1) S' h1
  refine ⟨fun i => if i = j then S else F i, by simp, ?_, fun i o' hi => ?_⟩
  ·simp only [List.length_cons]
   rw [if_neg (by omega), show j + (l.length + 1) = j + 1 + l.length by omega]
   exact hQ
  ·cases i with
   | zero =>
    obtain rfl : o = o' := by simpa using hi
    simp only [Nat.add_zero, if_true]
    rw [if_neg (by omega), hF]
    exact h2
   | succ i =>
    dsimp only
    rw [if_neg (by omega), if_neg (by omega), show j + (i + 1) = j + 1 + i by omega]
    exact hst i o' (by simpa using hi)
def curv (ops : Array Oper) (vals : Nat → AV) (T0 : Tm) (k : Nat) (listed : Array Bool) : Nat → Nat → Option AV
 | 0, t => tget T0 t
 | d + 1, t => if listed.getD (k + d) false = true ∧ (ops[k + d]?).bind (·.dst) = some t then some (vals (k + d)) else curv ops vals T0 k listed d t
structure Part (P : Program) (B : Base) (ops : Array Oper) (F : Nat → St) (vals : Nat → AV) (k k' : Nat) (listed : Array Bool) (c : Ctx) (w : World) (a : Act) : Prop where
 kk : k ≤ k'
 kn : k' ≤ ops.size
 lo : ∀ i, i < k → listed.getD i false = true
 hi : ∀ i, k' ≤ i → listed.getD i false = false
 sz : listed.size = ops.size
 qs : ∀ i, k ≤ i → i < k' → ∀ o, ops[i]? = some o → zdq (F i) o = true ∧ znc P B ops (F i) o (vals i) (F (i + 1))
 stop : ∀ o, ops[k']? = some o → total ops k' = true ∧ ∀ c w a (Q : Exit → Act → World → Prop), SRel B (F k') c w a → Region.wanted o (yielded ops a.tmps) = true ∧ o.wp P a w (Are B (· = F (k' + 1))) Q
 closed : zgA ops listed
 rel : HRel B (F k').H (F k').mv c w
 und : ∀ i, k ≤ i → i < k' → listed.getD i false = false → ∀ id, (F i).nx ≤ id → id < (F (i + 1)).nx → c.φ id = none
 fresh : ∀ id, (F k').nx ≤ id → c.φ id = none
 nt : a.tmps.size = (F k').nt
 df : a.defers = []
 slo : ∀ id, (F k').lo ≤ id → B.c0.φ id = none
 mlo : B.m = (F k').lo
 nlo : (F k').lo ≤ (F k').nx
 wf : ∀ id ob, hget (F k').H id = some ob → id < (F k').nx
 tm : ∀ t v, curv ops vals (F k).T k listed (k' - k) t = some v → Rep c w v (a.tmps.getD t undef)
section
variable {F : Nat → St} {vals : Nat → AV} {k k' : Nat} {listed : Array Bool} {c : Ctx} {w : World} {a : Act}
theorem Part.along (p : Part P B ops F vals k k' listed c w a) : ∀ d i, k ≤ i → i + d ≤ k' → (F i).nx ≤ (F (i + d)).nx ∧ (F (i + d)).mv = (F i).mv ∧ (F (i + d)).nt = (F i).nt ∧ (F (i + d)).lo = (F i).lo ∧ ∀ id, id < (F i).nx → hget (F (i + d)).H id = hget (F i).H id
 | 0, i, _, _ => ⟨Nat.le_refl _, rfl, rfl, rfl, fun _ _ => rfl⟩
 | d + 1, i, h1, h2 => by
  obtain ⟨e1, e2, e3, e4, e5⟩ := Part.along p d i h1 (by omega)
  have hlt : i + d < ops.size := by have := p.kn; omega
  obtain ⟨_, q⟩ := p.qs (i + d) (by omega) (by omega) ops[i + d] (by simp [hlt])
  refine ⟨Nat.le_trans e1 q.nx, q.mv.trans e2, q.nt.trans e3, q.lo.trans e4, fun id hid => ?_⟩
  rw [show i + (d + 1) = i + d + 1 by omega, q.old id (by omega)]
  exact e5 id hid
theorem zkB (p : Part P B ops F vals k k' listed c w a) (t : Nat) : ∀ d, k + d ≤ k' → (∀ i, k ≤ i → i < k + d → (ops[i]?).bind (·.dst) = some t → listed.getD i false = true) → curv ops vals (F k).T k listed d t = tget (F (k + d)).T t
 | 0, _, _ => rfl
 | d + 1, h1, h2 => by
  have hlt : k + d < ops.size := by have := p.kn; omega
  obtain ⟨_, q⟩ := p.qs (k + d) (by omega) (by omega) ops[k + d] (by simp [hlt])
  have ih := zkB p t d (by omega) (fun i hi hi' => h2 i hi (by omega))
  rw [show k + (d + 1) = k + d + 1 by omega, q.t, zfG]
  simp only [curv]
  have hb : (ops[k + d]?).bind (·.dst) = ops[k + d].dst := by simp [hlt]
  rw [hb]
  by_cases e : ops[k + d].dst = some t
  ·rw [if_pos ⟨h2 (k + d) (by omega) (by omega) (by rw [hb]; exact e), e⟩, if_pos e]
  ·rw [if_neg (fun h => e h.2), if_neg e]; exact ih
theorem ziT (t : Nat) (T0 : Tm) (k : Nat) : ∀ d d', d' ≤ d → (∀ i, k + d' ≤ i → i < k + d → ¬ (listed.getD i false = true ∧ (ops[i]?).bind (·.dst) = some t)) → curv ops vals T0 k listed d t = curv ops vals T0 k listed d' t
 | 0, d', h, _ => by
  obtain rfl : d' = 0 := by omega
  rfl
 | d + 1, d', h, hn => by
  by_cases e : d' = d + 1
  ·rw [e]
  ·simp only [curv]
   rw [if_neg (hn (k + d) (by omega) (by omega))]
   exact ziT t T0 k d d' (by omega) (fun i h1 h2 => hn i h1 (by omega))
theorem zkG (t : Nat) (T0 : Tm) (k i : Nat) (hi : (ops[i]?).bind (·.dst) ≠ some t) : ∀ d, curv ops vals T0 k (listed.setIfInBounds i true) d t = curv ops vals T0 k listed d t
 | 0 => rfl
 | d + 1 => by
  simp only [curv]
  by_cases e : k + d = i
  ·rw [e, if_neg (fun h => hi h.2), if_neg (fun h => hi h.2)]
   exact zkG t T0 k i hi d
  ·rw [getD_set_ne false (Ne.symm e), zkG t T0 k i hi d]
theorem zeH (hc : zgA ops listed) (hsz : listed.size = ops.size) {i : Nat} (hr : i ∈ Region.ready .any ops listed) : zgA ops (listed.setIfInBounds i true) := by
 intro j m hj hb
 by_cases e : j = i
 ·subst e
  exact getD_set_true (zc5 hc hr hb)
 ·rw [getD_set_ne false (Ne.symm e)] at hj
  exact getD_set_true (hc j m hj hb)
def cnt (f : Nat → Bool) : Nat → Nat
 | 0 => 0
 | n + 1 => cnt f n + if f n then 1 else 0
theorem zqq {f g : Nat → Bool} {i : Nat} (hf : f i = true) (hg : g i = false) (h : ∀ j, j ≠ i → g j = f j) : ∀ n, i < n → cnt f n = cnt g n + 1
 | n + 1, hi => by
  simp only [cnt]
  by_cases e : n = i
  ·subst e
   rw [hf, hg]
   have : ∀ m, m ≤ n → cnt f m = cnt g m := fun m => by
    induction m with
    | zero => intro _; rfl
    | succ m ih => intro hm; simp only [cnt]; rw [ih (by omega), h m (by omega)]
   rw [this n (Nat.le_refl _)]
   simp
  ·rw [zqq hf hg h n (by omega), h n e]
   omega
theorem znG {f : Nat → Bool} : ∀ n, cnt f n = 0 → ∀ i, i < n → f i = false
 | n + 1, h, i, hi => by
  simp only [cnt] at h
  by_cases e : i = n
  ·subst e
   cases hf : f i with
   | false => rfl
   | true => rw [hf] at h; simp at h
  ·exact znG n (by omega) i (by omega)
theorem zhx (hstep : ∀ j o, ops[j]? = some o → zfc P B ops j (F j) o (F (j + 1))) {k : Nat} (hk : k ≤ ops.size) (hs : SRel B (F k) c w a) (hlo : ∀ i, i < k → listed.getD i false = true) (hhi : ∀ i, k ≤ i → listed.getD i false = false) (hsz : listed.size = ops.size) (hc : zgA ops listed) :
  ∃ vals k', Part P B ops F vals k k' listed c w a := by
 have key : ∀ d, ∀ i, ops.size - i = d → k ≤ i → i ≤ ops.size → (∀ id ob, hget (F i).H id = some ob → id < (F i).nx) → B.m ≤ (F i).nx →
   ∃ (vals : Nat → AV) (k' : Nat), i ≤ k' ∧ k' ≤ ops.size ∧ (∀ j, i ≤ j → j < k' → ∀ o, ops[j]? = some o → zdq (F j) o = true ∧ znc P B ops (F j) o (vals j) (F (j + 1))) ∧
    (∀ o, ops[k']? = some o → total ops k' = true ∧ ∀ c w a (Q : Exit → Act → World → Prop), SRel B (F k') c w a → Region.wanted o (yielded ops a.tmps) = true ∧ o.wp P a w (Are B (· = F (k' + 1))) Q) ∧ (∀ id ob, hget (F k').H id = some ob → id < (F k').nx) := by
  intro d
  induction d with
  | zero =>
   intro i hd hki hin hwf _
   have : i = ops.size := by omega
   subst this
   exact ⟨fun _ => .undef, ops.size, Nat.le_refl _, Nat.le_refl _, fun j h1 h2 => by omega, fun o ho => by simp at ho, hwf⟩
  | succ d ih =>
   intro i hd hki hin hwf hm
   have hlt : i < ops.size := by omega
   cases hstep i ops[i] (by simp [hlt]) with
   | loud ht h =>
    refine ⟨fun _ => .undef, i, Nat.le_refl _, hin, fun j h1 h2 => by omega, fun o ho => ?_, hwf⟩
    have : ops[i] = o := by simpa [hlt] using ho
    subst this
    exact ⟨ht, h⟩
   | quiet v hd' q =>
    have q := q hwf hm
    obtain ⟨vals, k', h1, h2, h3, h4, h5⟩ := ih (i + 1) (by omega) (by omega) (by omega) q.wf (Nat.le_trans hm q.nx)
    refine ⟨fun j => if j = i then v else vals j, k', by omega, h2, fun j h6 h7 o ho => ?_, h4, h5⟩
    by_cases e : j = i
    ·subst e
     have : ops[j] = o := by simpa [hlt] using ho
     subst this
     dsimp only
     rw [if_pos rfl]
     exact ⟨hd', q⟩
    ·dsimp only
     rw [if_neg e]
     exact h3 j (by omega) h7 o ho
 obtain ⟨vals, k', h1, h2, h3, h4, h5⟩ := key _ k rfl (Nat.le_refl _) hk hs.wf (hs.mlo ▸ hs.nlo)
 have along : ∀ d, k + d ≤ k' → (F k).nx ≤ (F (k + d)).nx ∧ (F (k + d)).mv = (F k).mv ∧ (F (k + d)).nt = (F k).nt ∧ (F (k + d)).lo = (F k).lo ∧ ∀ id, id < (F k).nx → hget (F (k + d)).H id = hget (F k).H id := by
  intro d
  induction d with
  | zero => intro _; exact ⟨Nat.le_refl _, rfl, rfl, rfl, fun _ _ => rfl⟩
  | succ d ih =>
   intro hd
   obtain ⟨e1, e2, e3, e4, e5⟩ := ih (by omega)
   have hlt : k + d < ops.size := by omega
   obtain ⟨_, q⟩ := h3 (k + d) (by omega) (by omega) ops[k + d] (by simp [hlt])
   refine ⟨Nat.le_trans e1 q.nx, q.mv.trans e2, q.nt.trans e3, q.lo.trans e4, fun id hid => ?_⟩
   rw [show k + (d + 1) = k + d + 1 by omega, q.old id (by omega)]
   exact e5 id hid
 obtain ⟨e1, e2, e3, e4, e5⟩ := along (k' - k) (by omega)
 rw [show k + (k' - k) = k' by omega] at e1 e2 e3 e4 e5
 refine ⟨vals, k', h1, h2, hlo, fun i hi => hhi i (by omega), hsz, h3, h4, hc, ?_, fun i hi1 hi2 hl id h6 h7 => ?_, fun id hid => hs.fresh id (by omega), by rw [e3]; exact hs.nt, hs.df, by rw [e4]; exact hs.lo, by rw [e4]; exact hs.mlo, by rw [e4]; exact Nat.le_trans hs.nlo e1, h5, fun t v h => ?_⟩
 ·rw [e2]
  exact hs.h.more (fun id o h => by
   by_cases hid : id < (F k).nx
   ·rw [e5 id hid] at h; exact .inl h
   ·exact .inr (hs.fresh id (by omega)))
 ·have := (along (i - k) (by omega)).1
  rw [show k + (i - k) = i by omega] at this
  exact hs.fresh id (by omega)
 ·have hnone : ∀ d, k + d ≤ k' → curv ops vals (F k).T k listed d t = tget (F k).T t := by
   intro d
   induction d with
   | zero => intro _; rfl
   | succ d ih =>
    intro hd
    simp only [curv]
    rw [if_neg (fun h => by rw [hhi (k + d) (by omega)] at h; exact absurd h.1 (by simp))]
    exact ih (by omega)
  rw [hnone (k' - k) (by omega)] at h
  exact hs.t t v h
theorem zoi (hok : zf9 ops = true) (hstep : ∀ j o, ops[j]? = some o → zfc P B ops j (F j) o (F (j + 1))) {R : Exit → Act → World → Prop} (hR : ∀ a w, Are B (· = F ops.size) a w → R .normal a w) :
  ∀ (fuel : Nat) (vals : Nat → AV) (k k' : Nat) (listed : Array Bool) (c : Ctx) (w : World) (a : Act), Part P B ops F vals k k' listed c w a → cnt (fun j => !listed.getD j false) ops.size ≤ fuel → wpAny P .any ops R fuel listed a w := by
 have done : ∀ (vals : Nat → AV) (k k' : Nat) (listed : Array Bool) (c : Ctx) (w : World) (a : Act), Part P B ops F vals k k' listed c w a → (∀ j, j < k' → listed.getD j false = true) → SRel B (F k') c w a := by
  intro vals k k' listed c w a p hall
  refine ⟨p.rel, fun t v h => p.tm t v ?_, p.nt, p.df, p.fresh, p.slo, p.wf, p.mlo, p.nlo⟩
  rw [zkB p t (k' - k) (by have := p.kk; omega) (fun i _ hi _ => hall i (by have := p.kk; omega)), show k + (k' - k) = k' by have := p.kk; omega]
  exact h
 have fin : ∀ (vals : Nat → AV) (k k' : Nat) (listed : Array Bool) (c : Ctx) (w : World) (a : Act), Part P B ops F vals k k' listed c w a → Region.ready .any ops listed = [] → R .normal a w := by
  intro vals k k' listed c w a p hr
  have hall := zpA hok p.sz hr
  have hk' : k' = ops.size := by
   have h1 := p.kn
   rcases Nat.lt_or_ge k' ops.size with h2 | h2
   ·have := hall k' h2
    rw [p.hi k' (Nat.le_refl _)] at this; cases this
   ·omega
  have hs := done vals k k' listed c w a p (fun j hj => hall j (by omega))
  rw [hk'] at hs
  exact hR a w ⟨_, c, rfl, hs⟩
 intro fuel
 induction fuel with
 | zero =>
  intro vals k k' listed c w a p hc
  have hall := znG ops.size (by omega : cnt (fun j => !listed.getD j false) ops.size = 0)
  have hr : Region.ready .any ops listed = [] := by
   cases hq : Region.ready .any ops listed with
   | nil => rfl
   | cons i l =>
    exfalso
    have hm : i ∈ Region.ready .any ops listed := by rw [hq]; simp
    obtain ⟨h1, o, ho, _⟩ := mem_ready.1 hm
    have hlt : i < ops.size := (Array.getElem?_eq_some_iff.1 ho).1
    have := hall i hlt
    have hl : i < listed.size := by rw [p.sz]; exact hlt
    simp [hl] at this h1
    rw [h1] at this; cases this
  exact ⟨hr, fin vals k k' listed c w a p hr⟩
 | succ fuel ih =>
  intro vals k k' listed c w a p hc
  refine ⟨fin vals k k' listed c w a p, fun i hi => ?_⟩
  obtain ⟨hun, o, ho, _⟩ := mem_ready.1 hi
  have hlt : i < ops.size := (Array.getElem?_eq_some_iff.1 ho).1
  have hil : i < listed.size := by rw [p.sz]; exact hlt
  have hunf : listed.getD i false = false := by simp [hil] at hun ⊢; exact hun
  have hki : k ≤ i := by
   rcases Nat.lt_or_ge i k with h | h
   ·have := p.lo i h; rw [hunf] at this; cases this
   ·exact h
  have hset : (listed.setIfInBounds i true).getD i false = true := by simp [hil]
  have hcnt : cnt (fun j => !(listed.setIfInBounds i true).getD j false) ops.size ≤ fuel := by
   have := zqq (f := fun j => !listed.getD j false) (g := fun j => !(listed.setIfInBounds i true).getD j false) (i := i) (by simp only [hunf]; rfl) (by simp only [hset]; rfl) (fun j hj => by simp only [getD_set_ne false (Ne.symm hj)]) ops.size hlt
   omega
  have hbind : (ops[i]?).bind (·.dst) = o.dst := by rw [ho]; rfl
  unfold wpOp
  rw [ho]
  simp only
  rcases Nat.lt_or_ge i k' with hik | hik
  ·-- a quiet one
   obtain ⟨hd, q⟩ := p.qs i hki hik o ho
   have along1 := p.along (k' - (i + 1)) (i + 1) (by omega) (by omega)
   rw [show i + 1 + (k' - (i + 1)) = k' by omega] at along1
   obtain ⟨n1, n2, n3, n4, n5⟩ := along1
   -- what it names stands as in the text's order
   have names : ∀ t, t ∈ ze6 ops o → curv ops vals (F k).T k listed (k' - k) t = tget (F i).T t := by
    intro t ht
    have h1 : curv ops vals (F k).T k listed (k' - k) t = curv ops vals (F k).T k listed (i - k) t := by
     refine ziT t (F k).T k (k' - k) (i - k) (by omega) (fun j h2 h3 h4 => ?_)
     by_cases e : j = i
     ·subst e; rw [hunf] at h4; exact absurd h4.1 (by simp)
     ·have hjs : j < ops.size := by have := p.kn; omega
      have hoj : ops[j]? = some ops[j] := by simp [hjs]
      have := zgm hok (i := i) (j := j) (by omega) ho hoj (d := t) (.inr ⟨by rw [hoj] at h4; exact h4.2, ht⟩)
      have := p.closed j i h4.1 this
      rw [hunf] at this; cases this
    rw [h1, zkB p t (i - k) (by omega) (fun j h2 h3 h4 => ?_), show k + (i - k) = i by omega]
    have hjs : j < ops.size := by omega
    have hoj : ops[j]? = some ops[j] := by simp [hjs]
    exact zc5 p.closed hi (zgm hok (i := j) (j := i) (by omega) hoj ho (d := t) (.inl ⟨by rw [hoj] at h4; exact h4, ht⟩))
   have hreps : ∀ t ∈ Oper.looksAt ops o, ∀ x, tget (F i).T t = some x → Rep c w x (a.tmps.getD t undef) := fun t ht x hx =>
    p.tm t x (by rw [names t (by unfold ze6; exact List.mem_append_right _ ht)]; exact hx)
   have hq := q.sound (F k').H (F k').mv c w a R p.rel (fun id hid => n5 id hid) (fun id h1 h2 => p.und i hki hik hunf id h1 h2) hreps (wpAny P .any ops R fuel (listed.setIfInBounds i true)) (fun c' w' v' hr hH hgo hho hφ => ?_)
   ·split at hq
    ·rename_i hw; rw [if_pos hw]; exact .inl hq
    ·rename_i hw; rw [if_neg hw]; exact hq
   ·refine ih vals k k' _ c' w' _ ⟨p.kk, p.kn, fun j hj => getD_set_true (p.lo j hj), fun j hj => ?_, by simp [p.sz], p.qs, p.stop, zeH p.closed p.sz hi, hH, fun j h1 h2 h3 id h4 h5 => ?_, fun id hid => ?_, by rw [zcH]; exact p.nt, by rw [za7]; exact p.df, p.slo, p.mlo, p.nlo, p.wf, fun t v h => ?_⟩ hcnt
    ·rw [getD_set_ne false (by omega)]; exact p.hi j hj
    ·by_cases e : j = i
     ·subst e; rw [hset] at h3; cases h3
     ·rw [getD_set_ne false (Ne.symm e)] at h3
      rw [hφ id ?_]
      ·exact p.und j h1 h2 h3 id h4 h5
      ·rcases Nat.lt_or_ge j i with hji | hji
       ·left
        have := (p.along (i - (j + 1)) (j + 1) (by omega) (by omega)).1
        rw [show j + 1 + (i - (j + 1)) = i by omega] at this
        omega
       ·right
        have := (p.along (j - (i + 1)) (i + 1) (by omega) (by omega)).1
        rw [show i + 1 + (j - (i + 1)) = j by omega] at this
        omega
    ·rw [hφ id (.inr (by omega))]; exact p.fresh id hid
    ·by_cases e : o.dst = some t
     ·have hv : curv ops vals (F k).T k (listed.setIfInBounds i true) (k' - k) t = some (vals i) := by
       rw [ziT (listed := listed.setIfInBounds i true) t (F k).T k (k' - k) (i - k + 1) (by omega) (fun j h2 h3 h4 => ?_)]
       ·simp only [curv]
        rw [show k + (i - k) = i by omega, if_pos ⟨hset, by rw [hbind]; exact e⟩]
       ·have hjs : j < ops.size := by have := p.kn; omega
        have hoj : ops[j]? = some ops[j] := by simp [hjs]
        rw [getD_set_ne false (by omega : i ≠ j)] at h4
        have := zgm hok (i := i) (j := j) (by omega) ho hoj (d := t) (.inr ⟨by rw [hoj] at h4; exact h4.2, by unfold ze6; simp [e]⟩)
        have := p.closed j i h4.1 this
        rw [hunf] at this; cases this
      rw [hv] at h
      obtain rfl := inj1 h
      have hdlt : t < a.tmps.size := by
       rw [p.nt, n3, q.nt]; exact zg5 hd t e
      simpa [Act.put, e, hdlt] using hr
     ·rw [zkG t (F k).T k i (by rw [hbind]; exact e)] at h
      have h6 := Rep.mono hho hgo _ _ (p.tm t v h)
      cases hod : o.dst with
      | none => simpa [Act.put, hod] using h6
      | some d =>
       have hne : d ≠ t := fun e' => e (by rw [hod, e'])
       simpa [Act.put, hod, Array.getElem?_setIfInBounds_ne hne] using h6
  ·-- the one that stands in order with all others
   have hk'i : k' = i := by
    rcases Nat.lt_or_ge k' i with h | h
    ·exfalso
     have hk'lt : k' < ops.size := by omega
     obtain ⟨ht, _⟩ := p.stop ops[k'] (by simp [hk'lt])
     have := (zhq ht hlt).2 h
     have := zc5 p.closed hi this
     rw [p.hi k' (Nat.le_refl _)] at this; cases this
    ·omega
   subst hk'i
   obtain ⟨ht, hl⟩ := p.stop o ho
   have hs := done vals k k' listed c w a p (fun j hj => zc5 p.closed hi ((zhq ht (by omega : j < ops.size)).1 hj))
   obtain ⟨hw, hwp⟩ := hl c w a R hs
   rw [if_pos hw]
   left
   refine Oper.wp_mono (fun a' w' h => ?_) hwp
   obtain ⟨S', c', rfl, hs'⟩ := h
   obtain ⟨vals', k'', p'⟩ := zhx hstep (listed := listed.setIfInBounds k' true) (k := k' + 1) (by omega) hs' (fun j hj => by
     by_cases e : j = k'
     ·subst e; exact hset
     ·exact getD_set_true (zc5 p.closed hi ((zhq ht (by omega : j < ops.size)).1 (by omega)))) (fun j hj => by rw [getD_set_ne false (by omega)]; exact p.hi j (by omega)) (by simp [p.sz]) (zeH p.closed p.sz hi)
   exact ih vals' _ k'' _ c' w' a' p' hcnt
end
end
end Go.Proofs.YtppnccjeggnllaaGreatVm

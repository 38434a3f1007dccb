import Derived.Test.YtppnccjeggnllaaGreatVmJ
namespace Go.Proofs.YtppnccjeggnllaaGreatVm
open Go Go.RowKit
set_option linter.all false
section
variable {P : Program} {B : Base} {S : St} {c : Ctx} {w : World} {a : Act} {ops : Array Oper}
def Are (B : Base) (K : St → Prop) (a : Act) (w : World) : Prop := ∃ S c, K S ∧ SRel B S c w a
theorem zci (ht : ∀ t v, tget S.T t = some v → Rep c w v (a.tmps.getD t undef)) {o : Oper} {b : Bool} (h : zbV ops S o = some b) : Region.wanted o (yielded ops a.tmps) = b := by
 unfold zbV at h
 unfold Region.wanted
 split at h
 ·rename_i hg; obtain rfl := inj1 h; simp [hg]
 ·rename_i j want hg
  simp only [hg]
  split at h
  case h_2 => simp at h
  rename_i t htm
  split at h
  ·rename_i x hx
   obtain rfl := inj1 h
   have hr := ht t _ hx
   simp only [Rep, RepP] at hr
   have : a.tmps[t]? = some (.bool x) := by
    cases hq : a.tmps[t]? with
    | none => simp [hq, undef] at hr
    | some v => simp [hq] at hr; rw [hr]
   simp [yielded, htm, this]
  ·rename_i hx
   obtain rfl := inj1 h
   have hr := ht t _ hx
   simp only [Rep] at hr
   obtain ⟨vs, h1, h2⟩ := hr
   have hy : yielded ops a.tmps j = none := by
    unfold yielded
    rw [htm]
    simp only [Option.bind_some]
    cases hq : a.tmps[t]? with
    | none => rfl
    | some v => simp [hq] at h1; rw [h1]
   rw [hy]; rfl
  ·simp at h
theorem zjW : Rep c w (.tup []) undef := ⟨#[], rfl, by simp [RepL]⟩
theorem zi8 (hs : SRel B S c w a) {o : Oper} (hd : zdn S o = true) : SRel B (S.skip o.dst) c w (a.put o.dst undef) := by
 refine ⟨hs.h, zdR hs.t (fun d h => ?_) zjW, by rw [zcx]; exact hs.nt, by rw [za9]; exact hs.df, hs.fresh, hs.lo, hs.wf, hs.mlo, hs.nlo⟩
 rw [hs.nt]; unfold zdn at hd; simpa [h] using hd
theorem zgJ {o : Oper} (hd : zdn S o = true) : ∀ d, o.dst = some d → d < S.nt := fun d h => by unfold zdn at hd; simpa [h] using hd
theorem zml (hs : SRel B S c w a) {o : Oper} {v : AV} {new : Option VObj} {c' : Ctx} {w' : World} {v' : Value} (hd : zdn S o = true) (g : Grew c w S.nx new c' w') (hr : Rep c' w' v v') :
  SRel B (S.applyR o.dst v new) c' w' (a.put o.dst v') := by
 have hnx := hs.fresh S.nx (Nat.le_refl _)
 have hho : za1 c c' w w' := fun b hb => ⟨g.I ▸ hb, g.old b (hs.h.imm b hb)⟩
 have hgo : Goes c c' := fun id loc h => by
  by_cases e : id = S.nx
  ·subst e; rw [hnx] at h; cases h
  ·rw [g.φ id e]; exact h
 have ht : ∀ t x, tget (tput S.T o.dst v) t = some x → Rep c' w' x ((a.put o.dst v').tmps.getD t undef) :=
  zdR (fun t v h => Rep.mono hho hgo _ _ (hs.t t v h)) (fun d h => by rw [hs.nt]; exact zgJ hd d h) hr
 cases new with
 | none =>
  refine ⟨?_, ht, by rw [zcx]; exact hs.nt, by rw [za9]; exact hs.df, fun id hid => ?_, hs.lo, hs.wf, hs.mlo, hs.nlo⟩
  ·exact hs.h.grown (Grew.grown (H := S.H) g (fun _ => hnx) hs.h.imm (fun _ => hs.mlo ▸ hs.nlo) (fun o h => by cases h))
  ·by_cases e : id = S.nx
   ·subst e; rw [g.kept rfl]; exact hnx
   ·rw [g.φ id e]; exact hs.fresh id hid
 | some ob =>
  refine ⟨?_, ht, by rw [zcx]; exact hs.nt, by rw [za9]; exact hs.df, fun id hid => ?_, hs.lo, fun id ob' h => ?_, hs.mlo, Nat.le_trans hs.nlo (Nat.le_succ _)⟩
  ·have h1 : HRel B ((S.nx, ob) :: S.H) S.mv c w := hs.h.more (fun id o h => by
    simp only [hget] at h
    split at h
    ·rename_i e; subst e; exact .inr hnx
    ·exact .inl h)
   exact h1.grown (Grew.grown g (fun _ => hnx) hs.h.imm (fun _ => hs.mlo ▸ hs.nlo) (fun o h => by cases h; simp [hget]))
  ·have hid' : S.nx + 1 ≤ id := hid
   rw [g.φ id (by omega)]; exact hs.fresh id (by omega)
  ·have h' : hget ((S.nx, ob) :: S.H) id = some ob' := h
   simp only [hget] at h'
   show id < S.nx + 1
   split at h'
   ·omega
   ·have := hs.wf _ _ h'; omega
theorem zpS (hs : SRel B S c w a) {o : Oper} {f : FuncId} {A : List AV} {K : St → Prop} {Q : Exit → Act → World → Prop} (hd : zdn S o = true) (hc : callee S o.op = some (f, A)) (he : zd4 P f = true) (hk : zry P S f A o.dst K) :
  o.wp P a w (Are B K) Q := by
 obtain ⟨ids, args, Hin, out, Hout, mv, fit, hK⟩ := hk
 obtain ⟨vals, hvals, hrun⟩ := zie (P := P) (S := S) (c := c) (w := w) (a := a) (fun x _ v h => zb7 hs h) he hc
 unfold Oper.wp
 rw [hrun]
 simp only [Oper.upon]
 have hin := zlw (nx := S.nx) hs.h fit.len fit.nodup fit.hin
 have hargs : RepL (zb6 c ids) w args vals := by
  refine RepL.renIn (c := c) (c' := zb6 c ids) (ρ := rho ids S.nx) (m := ids.length) (fun b hb => hb) (fun i loc hi h => ?_) args vals fit.bel (by rw [fit.hargs]; exact hvals)
  simp only [zb6, if_pos hi]; rw [zez hi] at h; exact h
 refine (fit.ok (zb6 c ids) w vals hargs hin (fun id hid => ?_)).mono ?_
 ·simp only [zb6]; rw [if_neg (by rw [fit.len]; omega)]
 rintro e w' ⟨v, c', rfl, hv, hcal, hfr⟩
 have hnew : ∀ j, j < Hout.length - Hin.length → c.φ (S.nx + j) = none := fun j _ => hs.fresh _ (by omega)
 obtain ⟨h1, h2, h3, h4, h5, _⟩ := zls (nx := S.nx) (H' := (S.afterCall ids Hin.length out Hout mv o.dst).H) hs.h fit.len fit.nodup fit.lt fit.le (hs.mlo ▸ hs.nlo) fit.hin hnew hcal hfr (fun id ob h => by
  rcases zfb (c := c) fit.nodup fit.len fit.le (fun id hid => .inr (hs.fresh id hid)) id ob h with h | ⟨h1, h2, h3⟩
  ·exact .inl h
  ·refine .inr ⟨fun i hi e => ?_, h3⟩
   by_cases him : i < Hin.length
   ·exact h1 i him e
   ·apply h2
    rw [← e]
    unfold rho
    rw [if_neg (by rw [fit.len]; exact him), fit.len]
    omega)
 refine ⟨_, _, hK, ⟨h1, ?_, by rw [zcx]; exact hs.nt, by rw [za9]; exact hs.df, fun id hid => ?_, hs.lo, fun id ob h => ?_, hs.mlo, Nat.le_trans hs.nlo (Nat.le_add_right _ _)⟩⟩
 ·refine zdR (S := { S with T := zgi (mv.map (rho ids S.nx)) S.T }) (fun t v h => ?_) (fun d h => by rw [hs.nt]; exact zgJ hd d h) (Rep.renOut h4 h5 _ _ hv)
  obtain ⟨u, hu, hvu⟩ := zkn h
  rcases hvu with rfl | ⟨hnil, rfl⟩
  ·exact Rep.purge h2 h3 _ _ (hs.t t u hu)
  ·have := Rep.purge h2 h3 _ _ (hs.t t v hu)
   rw [hnil, zju] at this
   exact this
 ·have hid' : S.nx + (Hout.length - Hin.length) ≤ id := hid
  rw [zcr (fun i hi e => ?_)]
  ·exact hs.fresh id (by omega)
  ·rw [← e] at hid'
   unfold rho at hid'
   split at hid'
   ·rename_i hlt
    have : ids.getD i 0 < S.nx := fit.lt _ (by rw [List.getD_eq_getElem?_getD, List.getElem?_eq_getElem hlt]; exact List.getElem_mem hlt)
    omega
   ·have := fit.len; omega
 ·show id < S.nx + (Hout.length - Hin.length)
  rcases zfb (c := c) fit.nodup fit.len fit.le (fun id hid => .inr (hs.fresh id hid)) id ob h with ⟨i, y, hi, rfl, _⟩ | ⟨_, _, y, hy, _⟩
  ·unfold rho
   split
   ·rename_i hlt
    have : ids.getD i 0 < S.nx := fit.lt _ (by rw [List.getD_eq_getElem?_getD, List.getElem?_eq_getElem hlt]; exact List.getElem_mem hlt)
    omega
   ·have := fit.len; omega
  ·have := hs.wf _ _ hy; omega
theorem zik {Hf : Heap} {mvB : List Nat} {o : Oper} {f : FuncId} {A : List AV} {Q : Exit → Act → World → Prop} {ids : List Nat} {args : List AV} {Hin Hnew : List VObj} {out : AV}
  (h : HRel B Hf mvB c w) (hwf : ∀ id ob, hget S.H id = some ob → id < S.nx) (hf : ∀ id, id < S.nx + Hnew.length → hget Hf id = hget (S.afterCallQ ids out Hnew o.dst).H id) (hund : ∀ id, S.nx ≤ id → id < S.nx + Hnew.length → c.φ id = none) (hge : B.m ≤ S.nx)
  (hm : ∀ x ∈ o.op.operands.toList, ∀ v, S.ev x = some v → Rep c w v (a.eval x)) (hc : callee S o.op = some (f, A)) (he : zd4 P f = true) (fit : zgZ P S f A ids args Hin out (Hin ++ Hnew) []) :
  o.wp P a w (fun a' w' => ∃ v' c', a' = a.put o.dst v' ∧ Rep c' w' (ren (rho ids S.nx) out) v' ∧ HRel B Hf mvB c' w' ∧ Goes c c' ∧ za1 c c' w w' ∧ (∀ id, (id < S.nx ∨ S.nx + Hnew.length ≤ id) → c'.φ id = c.φ id)) Q := by
 obtain ⟨vals, hvals, hrun⟩ := zie (P := P) (S := S) (c := c) (w := w) (a := a) hm he hc
 have hlenS : (Hin ++ Hnew).length - Hin.length = Hnew.length := by simp
 have hold : ∀ id, id < S.nx → hget Hf id = hget S.H id := fun id hid => by
  rw [hf id (by omega)]
  simp only [St.afterCallQ, zcA, zbR, if_neg (by omega : ¬ S.nx ≤ id)]
 have hidlt : ∀ i, i < ids.length → ids.getD i 0 < S.nx := fun i hi => fit.lt _ (by rw [List.getD_eq_getElem?_getD, List.getElem?_eq_getElem hi]; exact List.getElem_mem hi)
 have hHf : ∀ i o, Hin[i]? = some o → hget Hf (ids.getD i 0) = some (renO (rho ids S.nx) o) ∧ zdc ids.length o = true := fun i o hi => by
  have hil : i < ids.length := by rw [fit.len]; exact (List.getElem?_eq_some_iff.1 hi).1
  rw [hold _ (hidlt i hil)]; exact fit.hin i o hi
 unfold Oper.wp
 rw [hrun]
 simp only [Oper.upon]
 have hin := zlw (nx := S.nx) h fit.len fit.nodup hHf
 have hargs : RepL (zb6 c ids) w args vals := by
  refine RepL.renIn (c := c) (c' := zb6 c ids) (ρ := rho ids S.nx) (m := ids.length) (fun b hb => hb) (fun i loc hi h => ?_) args vals fit.bel (by rw [fit.hargs]; exact hvals)
  simp only [zb6, if_pos hi]; rw [zez hi] at h; exact h
 refine (fit.ok (zb6 c ids) w vals hargs hin (fun id hid => ?_)).mono ?_
 ·simp only [zb6]; rw [if_neg (by rw [fit.len]; omega)]
 rintro e w' ⟨v, c', rfl, hv, hcal, hfr⟩
 obtain ⟨h1, h2, h3, h4, h5, h6⟩ := zls (nx := S.nx) (H' := Hf) h fit.len fit.nodup fit.lt fit.le hge hHf (fun j hj => hund _ (by omega) (by omega)) hcal hfr (fun id ob hob => by
  by_cases hr : ∃ i, i < (Hin ++ Hnew).length ∧ rho ids S.nx i = id
  ·obtain ⟨i, hi, rfl⟩ := hr
   refine .inl ⟨i, (Hin ++ Hnew)[i], hi, rfl, List.getElem?_eq_getElem hi, ?_⟩
   by_cases him : i < Hin.length
   ·have hil : i < ids.length := by rw [fit.len]; exact him
    have := (hHf i Hin[i] (List.getElem?_eq_getElem him)).1
    rw [zez hil, this] at hob
    rw [List.getElem_append_left him]
    exact (inj1 hob).symm
   ·have hr' : rho ids S.nx i = S.nx + (i - Hin.length) := by unfold rho; rw [if_neg (by rw [fit.len]; exact him), fit.len]
    simp only [List.length_append] at hi
    rw [hr', hf _ (by omega)] at hob
    simp only [St.afterCallQ, zcA, zbR, if_pos (by omega : S.nx ≤ S.nx + (i - Hin.length))] at hob
    rw [show S.nx + (i - Hin.length) - S.nx = i - Hin.length by omega] at hob
    have hg : (Hnew.map (renO (rho ids S.nx)))[i - Hin.length]? = some (renO (rho ids S.nx) (Hnew[i - Hin.length]'(by omega))) := by
     rw [List.getElem?_map, List.getElem?_eq_getElem (by omega)]; rfl
    rw [hg] at hob
    rw [List.getElem_append_right (by omega)]
    exact (inj1 hob).symm
  ·refine .inr ⟨fun i hi e => hr ⟨i, hi, e⟩, ob, hob, ?_⟩
   rw [List.map_nil, zii])
 refine ⟨v, _, rfl, Rep.renOut h4 h5 _ _ hv, by simpa using h1, fun id loc hl => h3 id loc (by simp) hl, h2, fun id hid => ?_⟩
 by_cases hr : ∃ i, i < (Hin ++ Hnew).length ∧ rho ids S.nx i = id
 ·obtain ⟨i, hi, rfl⟩ := hr
  by_cases him : i < Hin.length
  ·have hil : i < ids.length := by rw [fit.len]; exact him
   cases hci : c.φ (rho ids S.nx i) with
   | some loc => exact h3 _ loc (by simp) hci
   | none => exact h6 _ (by rw [zez hil]; exact hidlt i hil) hci
  ·exfalso
   have hr' : rho ids S.nx i = S.nx + (i - Hin.length) := by unfold rho; rw [if_neg (by rw [fit.len]; exact him), fit.len]
   simp only [List.length_append] at hi
   rcases hid with hid | hid <;> omega
 ·exact zcr (fun i hi e => hr ⟨i, hi, e⟩)
theorem znE (hs : SRel B S c w a) {o : Oper} {f : FuncId} {A : List AV} {K : St → Prop} {Q : Exit → Act → World → Prop} (hd : zdn S o = true) (hc : callee S o.op = some (f, A)) (he : zd4 P f = true) (hk : zrD P S f A o.dst K) :
  o.wp P a w (Are B K) Q := by
 obtain ⟨ids, args, Hin, out, Hnew, fit, hK⟩ := hk
 have hg : ∀ id ob, hget (S.afterCallQ ids out Hnew o.dst).H id = some ob → (S.nx ≤ id ∧ id < S.nx + Hnew.length) ∨ (id < S.nx ∧ hget S.H id = some ob) := fun id ob h => by
  simp only [St.afterCallQ, zcA, zbR] at h
  by_cases hle : S.nx ≤ id
  ·rw [if_pos hle] at h
   left
   refine ⟨hle, ?_⟩
   cases hm : (Hnew.map (renO (rho ids S.nx)))[id - S.nx]? with
   | some x => have := (List.getElem?_eq_some_iff.1 hm).1; simp at this; omega
   | none => rw [hm] at h; have := hs.wf _ _ h; omega
  ·rw [if_neg hle] at h
   exact .inr ⟨by omega, h⟩
 have h1 : HRel B (S.afterCallQ ids out Hnew o.dst).H S.mv c w := hs.h.more (fun id ob h => by
  rcases hg id ob h with ⟨h2, _⟩ | ⟨_, h2⟩
  ·exact .inr (hs.fresh id h2)
  ·exact .inl h2)
 refine Oper.wp_mono (fun a' w' h => ?_) (zik (Q := Q) h1 hs.wf (fun _ _ => rfl) (fun id hid _ => hs.fresh id hid) (hs.mlo ▸ hs.nlo) (fun x _ v h => zb7 hs h) hc he fit)
 obtain ⟨v', c', rfl, hr, hH, hgo, hho, hφ⟩ := h
 refine ⟨_, c', hK, ⟨hH, ?_, by rw [zcx]; exact hs.nt, by rw [za9]; exact hs.df, fun id hid => ?_, hs.lo, fun id ob h => ?_, hs.mlo, Nat.le_trans hs.nlo (Nat.le_add_right _ _)⟩⟩
 ·exact zdR (fun t v h => Rep.mono hho hgo _ _ (hs.t t v h)) (fun d h => by rw [hs.nt]; exact zgJ hd d h) hr
 ·have hid' : S.nx + Hnew.length ≤ id := hid
  rw [hφ id (.inr hid')]; exact hs.fresh id (by omega)
 ·show id < S.nx + Hnew.length
  rcases hg id ob h with ⟨_, h2⟩ | ⟨h2, _⟩ <;> omega
theorem zjc (hs : SRel B S c w a) {o : Oper} {K : St → Prop} {Q : Exit → Act → World → Prop} {tot : Prop} (hd : zdn S o = true) (h : zkx P tot S o K) : o.wp P a w (Are B K) Q := by
 rcases h with h | h | h
 case inr.inr =>
  obtain ⟨cond, sz, n, e, cs, he, hc, hl, hK⟩ := zf2 h
  have hnx := hs.fresh S.nx (Nat.le_refl _)
  obtain ⟨v', w', c', hrun, hr, hrel, hgo, hho, hφ⟩ := zhF (P := P) (ziE hs o.op) (fun v => rfl) hs.h.heap hs.h.imm hnx he hc hl
  unfold Oper.wp
  rw [hrun]
  refine ⟨_, c', hK, hrel B S.H S.mv hs.h ?_ (hs.mlo ▸ hs.nlo), ?_, by rw [zcx]; exact hs.nt, by rw [za9]; exact hs.df, fun id hid => ?_, hs.lo, fun id ob h => Nat.lt_succ_of_lt (hs.wf id ob h), hs.mlo, Nat.le_trans hs.nlo (Nat.le_succ _)⟩
  ·cases h0 : hget S.H S.nx with
   | none => rfl
   | some ob => have := hs.wf _ _ h0; omega
  ·exact zdR (fun t v h => Rep.mono hho hgo _ _ (hs.t t v h)) (fun d h => by rw [hs.nt]; exact zgJ hd d h) hr
  ·have hid' : S.nx + 1 ≤ id := hid
   rw [hφ id (by omega)]; exact hs.fresh id (by omega)
 case inr.inl =>
  unfold runX at h
  split at h
  ·rename_i cond v H' he
   obtain ⟨_, hc, hK⟩ := h
   obtain ⟨w', u, hrun, hs'⟩ := zkR (P := P) hs he hc (zgJ hd)
   unfold Oper.wp
   rw [hrun]
   exact ⟨_, _, hK, hs'⟩
  ·split at h
   case h_2 => exact h.elim
   rename_i cond H' he
   obtain ⟨_, hc, hK⟩ := h
   obtain ⟨w', hrun, hs'⟩ := zkq (P := P) hs he hc (zgJ hd)
   unfold Oper.wp
   rw [hrun]
   exact ⟨_, _, hK, hs'⟩
 unfold zdk at h
 split at h
 ·rename_i cond v new he
  obtain ⟨hc, hK⟩ := h
  obtain ⟨v', w', c', hrun, hg, hr⟩ := zfp (P := P) (ziE hs o.op) (fun v => rfl) hs.h.heap hs.h.imm (fun _ => hs.fresh _ (Nat.le_refl _)) he hc
  unfold Oper.wp
  rw [hrun]
  exact ⟨_, _, hK, zml hs hd hg hr⟩
 ·split at h
  ·rename_i cond v H' k he
   obtain ⟨_, hc, hK⟩ := h
   obtain ⟨w', c', hr⟩ := zkA hs he hc (zgJ hd)
   unfold Oper.wp
   rcases hr with ⟨_, hrun, hs'⟩ | ⟨u, hrun, hs'⟩
   ·rw [hrun]; exact ⟨_, _, hK, hs'⟩
   ·rw [hrun]; exact ⟨_, _, hK, hs'⟩
  ·split at h
   ·rename_i f A hc
    rcases h.2 with h2 | ⟨_, h2⟩
    ·exact znE hs hd hc h.1 h2
    ·exact zpS hs hd hc h.1 h2
   ·exact h.elim
theorem zfR {Q : St → Prop} {R : Exit → Act → World → Prop} (hR : ∀ a w, Are B Q a w → R .normal a w) : ∀ (l : List Oper) (j : Nat) (S : St) (c : Ctx) (w : World) (a : Act), SRel B S c w a → zY P ops false j l S Q → wpList P ops R l a w
 | [], _, S, c, w, a, hs, h => hR a w ⟨S, c, h, hs⟩
 | o :: r, j, S, c, w, a, hs, h => by
  simp only [zY, opWp] at h
  obtain ⟨hd, h⟩ := h
  unfold wpList
  split at h
  ·rename_i hg
   rw [if_pos (zci hs.t hg)]
   left
   refine Oper.wp_mono (fun a' w' h' => ?_) (zjc (Q := R) hs hd h)
   obtain ⟨S', c', h1, h2⟩ := h'
   exact zfR hR r (j + 1) S' c' w' a' h2 h1
  ·rename_i hg
   rw [if_neg (by rw [zci hs.t hg]; simp)]
   exact zfR hR r (j + 1) _ c w _ (zi8 hs hd) h
  ·exact h.elim
mutual
theorem zqm : ∀ a : AV, ren (fun i => i) a = a
 | .undef => rfl
 | .pv _ => rfl
 | .pptr _ _ => rfl
 | .ptr _ _ => rfl
 | .ref _ _ _ _ => rfl
 | .view _ _ _ => rfl
 | .agg cs => by simp only [ren, zfr cs]
 | .tup cs => by simp only [ren, zfr cs]
 | .fnc _ cs => by simp only [ren, zfr cs]
 | .bnd _ _ cs => by simp only [ren, zfr cs]
 | .mapr _ => rfl
theorem zfr : ∀ as : List AV, renL (fun i => i) as = as
 | [] => rfl
 | a :: as => by simp only [renL, zqm a, zfr as]
end
structure Less (S S' : St) : Prop where
 t : ∀ x ∈ S'.T, tget S.T x.1 = some x.2 ∧ za8 S'.nx x.2 = true
 h : ∀ x ∈ S'.H, hget S.H x.1 = some x.2 ∧ zdc S'.nx x.2 = true ∧ x.1 < S'.nx
 mv : ∀ x ∈ S.mv, x ∈ S'.mv ∨ S.lo ≤ x
 nt : S'.nt = S.nt
 lo : S'.lo = S.lo
 nx : S.lo ≤ S'.nx
theorem zlo : ∀ {T : Tm} {t : Nat} {v : AV}, tget T t = some v → (t, v) ∈ T
 | [], _, _, h => by simp [tget] at h
 | (k, u) :: r, t, v, h => by
  simp only [tget] at h
  split at h
  ·rename_i e; subst e; obtain rfl := inj1 h; simp
  ·exact List.mem_cons_of_mem _ (zlo h)
theorem ziC : ∀ {T : Heap} {t : Nat} {v : VObj}, hget T t = some v → (t, v) ∈ T
 | [], _, _, h => by simp [hget] at h
 | (k, u) :: r, t, v, h => by
  simp only [hget] at h
  split at h
  ·rename_i e; subst e; obtain rfl := inj1 h; simp
  ·exact List.mem_cons_of_mem _ (ziC h)
theorem SRel.less {S' : St} (hs : SRel B S c w a) (hl : Less S S') : ∃ c', SRel B S' c' w a := by
 let c' : Ctx := { φ := fun id => if id < S'.nx then c.φ id else none, I := c.I }
 have hrep : ∀ {v u}, za8 S'.nx v = true → Rep c w v u → Rep c' w v u := fun hb h =>
  Rep.renIn (c := c) (c' := c') (ρ := fun i => i) (m := S'.nx) (fun b hb => hb) (fun i loc hi h => by show (if i < S'.nx then c.φ i else none) = some loc; rw [if_pos hi]; exact h) _ _ hb (by rw [zqm]; exact h)
 have hφ : ∀ {id loc}, c'.φ id = some loc → id < S'.nx ∧ c.φ id = some loc := fun {id loc} h => by
  have h' : (if id < S'.nx then c.φ id else none) = some loc := h
  split at h'
  ·exact ⟨by assumption, h'⟩
  ·cases h'
 have hH : ∀ {id o}, hget S'.H id = some o → hget S.H id = some o ∧ zdc S'.nx o = true := fun h => by
  have := hl.h _ (ziC h); exact ⟨this.1, this.2.1⟩
 refine ⟨c', ⟨fun id o loc h1 h2 => ?_, fun id o b cap h1 h2 => ?_, fun id id' o o' b cap cap' hne h1 h2 h3 h4 => ?_, hs.h.imm, hs.h.size, hs.h.os, hs.h.tape, hs.h.output, hs.h.blk, hs.h.I, fun id loc hid h1 => ?_, fun id hid h1 => ?_⟩, fun t v h => ?_, ?_, hs.df, fun id hid => ?_, ?_, fun id o h => (hl.h _ (ziC h)).2.2, hl.lo.symm ▸ hs.mlo, hl.lo.symm ▸ hl.nx⟩
 ·obtain ⟨h3, h4⟩ := hH h1
  have := hs.h.heap id o loc h3 (hφ h2).2
  refine zbe.renIn (c := c) (c' := c') (ρ := fun i => i) (m := S'.nx) (fun b hb => hb) (fun i loc hi h => by show (if i < S'.nx then c.φ i else none) = some loc; rw [if_pos hi]; exact h) h4 ?_
  have e : renO (fun i => i) o = o := by cases o <;> simp [renO, zfr]
  rw [e]; exact this
 ·exact hs.h.own id o b cap (hH h1).1 (hφ h2).2
 ·exact hs.h.apart id id' o o' b cap cap' hne (hH h1).1 (hH h2).1 (hφ h3).2 (hφ h4).2
 ·have h2 := hs.h.φ id loc (fun hm => by
   rcases hl.mv id hm with h3 | h3
   ·exact hid h3
   ·rw [hs.lo id h3] at h1; cases h1) h1
  show (if id < S'.nx then c.φ id else none) = some loc
  rw [if_pos]
  ·exact h2
  ·have := hs.lo id
   rcases Nat.lt_or_ge id S'.nx with h3 | h3
   ·exact h3
   ·have h4 := this (Nat.le_trans hl.nx h3)
    rw [h4] at h1; cases h1
 ·show (if id < S'.nx then c.φ id else none) = none
  split
  ·exact hs.h.und id hid h1
  ·rfl
 ·have := hl.t _ (zlo h)
  exact hrep this.2 (hs.t t v this.1)
 ·rw [hl.nt]; exact hs.nt
 ·show (if id < S'.nx then c.φ id else none) = none
  rw [if_neg (by omega)]
 ·rw [hl.lo]; exact hs.lo
end
end Go.Proofs.YtppnccjeggnllaaGreatVm

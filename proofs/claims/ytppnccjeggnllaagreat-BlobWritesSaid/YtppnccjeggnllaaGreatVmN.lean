import Derived.Test.YtppnccjeggnllaaGreatVmM
namespace Go.Proofs.YtppnccjeggnllaaGreatVm
open Go Go.RowKit
set_option linter.all false
def zc3 (P : Program) : Code → (Exit → St → Prop) → St → Prop
 | .skip, Q, S => Q .normal S
 | .label _, Q, S => Q .normal S
 | .region _ ops draw, Q, S => match draw with
  | true => P.follows .mixedOrders = true ∧ zf9 ops = true ∧ zY P ops true 0 ops.toList S (Q .normal)
  | false => zY P ops false 0 ops.toList S (Q .normal)
 | .seq x y, Q, S => zc3 P x (fun e S' => match e with | .normal => zc3 P y Q S' | e => Q e S') S
 | .cond c x y, Q, S => match S.ev c with
  | some (.pv (.bool b)) => if b = true then zc3 P x Q S else zc3 P y Q S
  | _ => False
 | .block id x, Q, S => zc3 P x (fun e S' => match e with | .exit id' => if id' = id then Q .normal S' else Q (.exit id') S' | e => Q e S') S
 | .loop x, Q, S => ∃ R : Nat → St → Prop, (∃ d S', Less S S' ∧ R d S') ∧ ∀ d S, R d S → zc3 P x (fun e S' => match e with | .normal => ∃ d' S'', d' < d ∧ Less S' S'' ∧ R d' S'' | e => Q e S') S
 | .exit id, Q, S => Q (.exit id) S
 | .ret, Q, S => Q .ret S
 | _, _, _ => False
section
variable {P : Program} {B : Base}
def AreE (B : Base) (Q : Exit → St → Prop) (e : Exit) (a : Act) (w : World) : Prop := ∃ S c, Q e S ∧ SRel B S c w a
theorem zgu {x : Code} {Q : Exit → Act → World → Prop} (I : Nat → Act → World → Prop) {d : Nat} {a : Act} {w : World} (h₀ : I d a w)
  (round : ∀ d a w, I d a w → x.wp P (Exit.then (fun a' w' => ∃ d', d' < d ∧ I d' a' w') Q) a w) : (Code.loop x).wp P Q a w := by
 intro b k cs
 have key : ∀ d a w, I d a w → ∃ e a' w', Q e a' w' ∧ Arrives P (lone (b.at a (.code x :: .inLoop x :: k)) cs w) b k cs e a' w' := by
  intro d
  induction d using Nat.strongRecOn with
  | _ d ih =>
   intro a w hI
   obtain ⟨e, a₁, w₁, hq, harr⟩ := round d a w hI b (.inLoop x :: k) cs
   cases e with
   | normal =>
    obtain ⟨d', hlt, hI₁⟩ := hq
    obtain ⟨e₂, a₂, w₂, hq₂, harr₂⟩ := ih d' hlt a₁ w₁ hI₁
    exact ⟨e₂, a₂, w₂, hq₂, .of_steps (Steps.trans harr (.one step_inLoop)) harr₂⟩
   | exit id => exact ⟨_, a₁, w₁, hq, .pass (x := .inLoop x) rfl (fun _ _ => .inl (by simp)) harr⟩
   | goto l => exact ⟨_, a₁, w₁, hq, .pass (x := .inLoop x) rfl (fun _ _ => .inl (by simp)) harr⟩
   | ret => exact ⟨_, a₁, w₁, hq, .pass (x := .inLoop x) rfl (fun _ _ => .inl (by simp)) harr⟩
   | panic ch => exact ⟨_, a₁, w₁, hq, .pass (x := .inLoop x) rfl (fun _ _ => .inl (by simp)) harr⟩
   | outgrown => exact ⟨_, a₁, w₁, hq, .pass (x := .inLoop x) rfl (fun _ _ => .inl (by simp)) harr⟩
 obtain ⟨e, a', w', hq, harr⟩ := key d a w h₀
 exact ⟨e, a', w', hq, .of_steps (.one step_loop) harr⟩
theorem zlX {S : St} {c : Ctx} {w : World} {a : Act} (h : SRel B S c w a) : SRel B S c { w with drawn := w.drawn + 1 } a := by
 have hI : zaT c c w { w with drawn := w.drawn + 1 } := fun b hb => ⟨hb, rfl⟩
 exact ⟨⟨fun id o loc h1 h2 => (h.h.heap id o loc h1 h2).mono hI (fun _ _ h => h) (fun _ _ _ => rfl), h.h.own, h.h.apart, h.h.imm, h.h.size, h.h.os, h.h.tape, h.h.output, h.h.blk, h.h.I, h.h.φ, h.h.und⟩,
  fun t v h1 => Rep.mono hI (fun _ _ h => h) _ _ (h.t t v h1), h.nt, h.df, h.fresh, h.lo, h.wf, h.mlo, h.nlo⟩
theorem zcx : ∀ (x : Code) (Q : Exit → St → Prop) (S : St) (c : Ctx) (w : World) (a : Act), zc3 P x Q S → SRel B S c w a → x.wp P (AreE B Q) a w
 | .skip, Q, S, c, w, a, h, hs => wp_skip ⟨S, c, h, hs⟩
 | .label _, Q, S, c, w, a, h, hs => wp_label ⟨S, c, h, hs⟩
 | .region _ ops draw, Q, S, c, w, a, h, hs => by
  cases draw with
  | false =>
   simp only [zc3] at h
   exact wp_region_list (zhf (R := AreE B Q) (fun a w h => h) _ 0 S c w a hs h)
  | true =>
   simp only [zc3] at h
   obtain ⟨hm, hok, h⟩ := h
   obtain ⟨F, hF, hQ, hst⟩ := zlk (B := B) ops.toList 0 S h
   refine wp_region_any hm ?_
   have hs' : SRel B (F 0) c { w with drawn := w.drawn + 1 } a := by rw [hF]; exact zlX hs
   have hstep : ∀ j o, ops[j]? = some o → zfc P B ops j (F j) o (F (j + 1)) := fun j o ho => by
    have := hst j o (by simpa using ho)
    simpa using this
   obtain ⟨vals, k', p⟩ := zhx (listed := Array.replicate ops.size false) hstep (Nat.zero_le _) hs' (fun i hi => by omega) (fun i _ => by simp [Array.getElem?_replicate]; split <;> rfl) (by simp) (fun j i hj _ => by simp [Array.getElem?_replicate] at hj; split at hj <;> simp at hj)
   refine zoi hok hstep (R := AreE B Q) (fun a w h => ?_) ops.size vals 0 k' _ c _ a p ?_
   ·obtain ⟨S', c', rfl, hs''⟩ := h
    exact ⟨_, c', by simpa using hQ, hs''⟩
   ·have : ∀ f n, cnt f n ≤ n := fun f n => by
     induction n with
     | zero => exact Nat.le_refl _
     | succ n ih => simp only [cnt]; split <;> omega
    exact this _ _
 | .seq x y, Q, S, c, w, a, h, hs => by
  simp only [zc3] at h
  refine wp_seq (Code.wp_mono (fun e a w h => ?_) (zcx x _ S c w a h hs))
  obtain ⟨S', c', h1, h2⟩ := h
  cases e with
  | normal => exact zcx y Q S' c' w a h1 h2
  | _ => exact ⟨S', c', h1, h2⟩
 | .cond cd x y, Q, S, c, w, a, h, hs => by
  simp only [zc3] at h
  split at h
  case h_2 => exact h.elim
  rename_i b hb
  have hr := zcD hs hb
  simp only [Rep, RepP] at hr
  cases b with
  | true => exact wp_cond hr (zcx x Q S c w a (by simpa using h) hs)
  | false => exact wp_cond hr (zcx y Q S c w a (by simpa using h) hs)
 | .block id x, Q, S, c, w, a, h, hs => by
  simp only [zc3] at h
  refine wp_block (Code.wp_mono (fun e a w h => ?_) (zcx x _ S c w a h hs))
  obtain ⟨S', c', h1, h2⟩ := h
  cases e with
  | exit id' =>
   simp only [Exit.inBlock]
   simp only at h1
   split
   ·rename_i e; rw [if_pos e] at h1; exact ⟨S', c', h1, h2⟩
   ·rename_i e; rw [if_neg e] at h1; exact ⟨S', c', h1, h2⟩
  | _ => exact ⟨S', c', h1, h2⟩
 | .loop x, Q, S, c, w, a, h, hs => by
  simp only [zc3] at h
  obtain ⟨R, ⟨d, S', hl, hR⟩, round⟩ := h
  obtain ⟨c', hs'⟩ := hs.less hl
  refine zgu (fun d a w => ∃ S c, R d S ∧ SRel B S c w a) ⟨S', c', hR, hs'⟩ (fun d a w hI => ?_)
  obtain ⟨S1, c1, hR1, hs1⟩ := hI
  refine Code.wp_mono (fun e a w h => ?_) (zcx x _ S1 c1 w a (round d S1 hR1) hs1)
  obtain ⟨S2, c2, h1, h2⟩ := h
  cases e with
  | normal =>
   obtain ⟨d', S3, hlt, hl3, hR3⟩ := h1
   obtain ⟨c3, hs3⟩ := h2.less hl3
   exact ⟨d', hlt, S3, c3, hR3, hs3⟩
  | _ => exact ⟨S2, c2, h1, h2⟩
 | .exit id, Q, S, c, w, a, h, hs => wp_exit ⟨S, c, h, hs⟩
 | .ret, Q, S, c, w, a, h, hs => wp_ret ⟨S, c, h, hs⟩
 | .rangeFunc _ _ _ _, _, _, _, _, _, h, _ => by simp [zc3] at h
 | .scope _, _, _, _, _, _, h, _ => by simp [zc3] at h
 | .goto _, _, _, _, _, _, h, _ => by simp [zc3] at h
 | .refuse _, _, _, _, _, _, h, _ => by simp [zc3] at h
def resA (P : Program) (S : St) : ResultVar → Option (Prop × AV)
 | .tmp t => (tget S.T t).map fun v => (True, v)
 | .cell a t => match tget S.T a with
  | some (.ptr id off) => match hget S.H id with
   | some (.box cs) => zdn P t cs off
   | _ => none
  | _ => none
def resL (P : Program) (S : St) : List ResultVar → Option (Prop × List AV)
 | [] => some (True, [])
 | r :: rs => match resA P S r, resL P S rs with
  | some (c, v), some (cs, vs) => some (c ∧ cs, v :: vs)
  | _, _ => none
def zig : List AV → AV
 | [v] => v
 | vs => .tup vs
mutual
def frz (H : Heap) (fz : List Nat) : AV → Option (Prop × AV)
 | .ref id sz off n => if id ∈ fz then match hget H id with
   | some (.row _ sz' cs) => some (off = 0 ∧ sz' = sz ∧ cs.length = n * sz, .pv (.slc n false cs))
   | _ => none
  else some (True, .ref id sz off n)
 | .agg cs => match frzL H fz cs with
  | some (c, vs) => some (c, .agg vs)
  | none => none
 | .tup cs => match frzL H fz cs with
  | some (c, vs) => some (c, .tup vs)
  | none => none
 | v => some (True, v)
def frzL (H : Heap) (fz : List Nat) : List AV → Option (Prop × List AV)
 | [] => some (True, [])
 | a :: as => match frz H fz a, frzL H fz as with
  | some (c, v), some (cs, vs) => some (c ∧ cs, v :: vs)
  | _, _ => none
end
def sig (m : Nat) (new : List Nat) (i : Nat) : Nat := if i < m then i else new.getD (i - m) 0
structure zgn (P : Program) (fn : Func) (m : Nat) (S : St) (out : AV) (Hout : List VObj) (mv : List Nat) (fz new : List Nat) (cs : Prop) (vs : List AV) (cf : Prop) (v : AV) : Prop where
 res : resL P S fn.results.toList = some (cs, vs)
 ok : cs
 fr : frz S.H fz (zig vs) = some (cf, v)
 fok : cf
 fge : ∀ x ∈ fz, m ≤ x ∧ x ∉ new
 eq : ren (sig m new) out = v
 bel : zao Hout.length out = true
 mv : ∀ x ∈ S.mv, x ∈ mv ∨ m ≤ x
 nodup : new.Nodup
 ge : ∀ x ∈ new, m ≤ x
 len : Hout.length = m + new.length
 objs : ∀ i o, Hout[i]? = some o → hget S.H (sig m new i) = some (renO (sig m new) o) ∧ zbC Hout.length o = true
def zas (P : Program) (fn : Func) (m : Nat) (out : AV) (Hout : List VObj) (mv : List Nat) (e : Exit) (S : St) : Prop :=
 match e with
 | .normal => ∃ fz new cs vs cf v, zgn P fn m S out Hout mv fz new cs vs cf v
 | .ret => ∃ fz new cs vs cf v, zgn P fn m S out Hout mv fz new cs vs cf v
 | _ => False
def zoq (tmps : Array Value) : ResultVar → Sem Value
 | .tmp t => pure (tmps.getD t undef)
 | .cell b t => do loadVar t (← asAddr (tmps.getD b undef))
theorem zsy {S : St} {c : Ctx} {w : World} {a : Act} (hs : SRel B S c w a) {r : ResultVar} {cond : Prop} {v : AV} (h : resA P S r = some (cond, v)) (hc : cond) :
  ∃ u, (zoq a.tmps r).run P w = .ok u w ∧ Rep c w v u := by
 unfold resA at h
 split at h
 ·rename_i t
  simp only [Option.map_eq_some_iff] at h
  obtain ⟨v', h1, h2⟩ := h
  obtain ⟨_, rfl⟩ := z9 (congrArg some h2)
  exact ⟨_, rfl, hs.t t _ h1⟩
 ·rename_i b t
  split at h
  case h_2 => simp at h
  rename_i id off hb
  split at h
  case h_2 => simp at h
  rename_i cs hcs
  have hr := hs.t b _ hb
  simp only [Rep] at hr
  obtain ⟨bl, cap, hφ, hv⟩ := hr
  obtain ⟨arr, ty, hbl, hl⟩ := hs.h.heap id _ _ hcs hφ
  obtain ⟨u, hu, hru⟩ := zfT (P := P) (b := bl) hl (fun j u hj => by rw [zeD hbl]; simpa using hj) h hc
  exact ⟨u, by simp [zoq, hv, asAddr, hu], hru⟩
theorem zn8 {S : St} {c : Ctx} {w : World} {a : Act} (hs : SRel B S c w a) : ∀ (rs : List ResultVar) (cond : Prop) (vs : List AV), resL P S rs = some (cond, vs) → cond →
  ∃ us, (rs.mapM (zoq a.tmps)).run P w = .ok us w ∧ RepL c w vs us
 | [], cond, vs, h, _ => by simp only [resL] at h; obtain ⟨_, rfl⟩ := z9 h; exact ⟨[], rfl, by simp [RepL]⟩
 | r :: rs, cond, vs, h, hc => by
  simp only [resL] at h
  split at h
  case h_2 => simp at h
  rename_i c1 v c2 vs' h1 h2
  obtain ⟨rfl, rfl⟩ := z9 h
  obtain ⟨u, h3, h4⟩ := zsy hs h1 hc.1
  obtain ⟨us, h5, h6⟩ := zn8 hs rs c2 vs' h2 hc.2
  refine ⟨u :: us, ?_, by simp only [RepL]; exact ⟨h4, h6⟩⟩
  rw [List.mapM_cons, Sem.run_bind, h3]
  simp only [Result.andThen_ok, Sem.run_bind, h5, Sem.run_pure]
theorem znx {S : St} {c : Ctx} {w : World} {a : Act} (hs : SRel B S c w a) {fn : Func} {cond : Prop} {vs : List AV} (h : resL P S fn.results.toList = some (cond, vs)) (hc : cond) :
  ∃ u, (results fn a.tmps).run P w = .ok u w ∧ Rep c w (zig vs) u := by
 obtain ⟨us, h1, h2⟩ := zn8 hs _ _ _ h hc
 have hlen := zW h2
 have hres : results fn a.tmps = (do let vs ← fn.results.mapM (zoq a.tmps); pure (if h : vs.size = 1 then vs[0] else .tuple vs)) := rfl
 rw [hres, Array.mapM_eq_mapM_toList, Sem.run_bind, Sem.run_map, h1]
 simp only [Result.andThen_ok, Sem.run_pure]
 match us, vs, h2, hlen with
 | [], [], _, _ => exact ⟨.tuple #[], by simp, #[], rfl, by simp [RepL]⟩
 | [u], [v], h2, _ => simp only [RepL, and_true] at h2; exact ⟨u, by simp, h2⟩
 | u :: u' :: us, v :: v' :: vs, h2, _ => exact ⟨.tuple (u :: u' :: us).toArray, by simp, _, rfl, by simpa using h2⟩
 | [], _ :: _, _, hl => simp at hl
 | _ :: _, [], _, hl => simp at hl
 | [_], _ :: _ :: _, _, hl => simp at hl
 | _ :: _ :: _, [_], _, hl => simp at hl
end
end Go.Proofs.YtppnccjeggnllaaGreatVm

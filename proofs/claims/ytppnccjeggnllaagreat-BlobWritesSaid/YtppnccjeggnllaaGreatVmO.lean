import Derived.Test.YtppnccjeggnllaaGreatVmN
namespace Go.Proofs.YtppnccjeggnllaaGreatVm
open Go Go.RowKit
set_option linter.all false
section
variable {P : Program} {B : Base}
def zlU (c : Ctx) (H : Heap) (fz : List Nat) (b : Nat) : Prop := c.I b ∨ ∃ id cap e sz cs, id ∈ fz ∧ hget H id = some (.row e sz cs) ∧ c.φ id = some (.blk b cap)
theorem zcW {c : Ctx} {w : World} {b : Nat} {arr : Array Value} {e : TypeId} {fr : Nat × Nat} (hb : w.heap[b]? = some (.cells arr e fr)) : ∀ (cs : List PV) (off : Nat), RepL c w (cs.map .pv) ((arr.toList.drop off).take cs.length) → z4 c w b off cs
 | [], _, _ => by simp [z4]
 | p :: ps, off, h => by
  simp only [List.map_cons, List.length_cons] at h
  cases hd : arr.toList.drop off with
  | nil => rw [hd] at h; simp [RepL] at h
  | cons v vs =>
   rw [hd, List.take_succ_cons] at h
   simp only [RepL, Rep] at h
   have h1 : arr[off]? = some v := by
    have := congrArg (fun l => l[0]?) hd
    simp only [List.getElem?_drop, Nat.add_zero, List.getElem?_cons_zero, Array.getElem?_toList] at this
    exact this
   have h2 : arr.toList.drop (off + 1) = vs := by
    rw [← List.drop_drop, hd]; rfl
   simp only [z4]
   exact ⟨⟨v, by rw [zeD hb]; exact h1, h.1⟩, zcW hb ps (off + 1) (by rw [h2]; exact h.2)⟩
mutual
theorem zmB {c c2 : Ctx} {w : World} {H : Heap} {fz : List Nat} (hH : zcX c w H) (hmono : zaT c c2 w w) (hgo : Goes c c2) (hI : ∀ b, c2.I b ↔ zlU c H fz b) : ∀ (a : AV) (v : Value) (cf : Prop) (b : AV), frz H fz a = some (cf, b) → cf → Rep c w a v → Rep c2 w b v
 | .ref id sz off n, v, cf, b, h, hc, hr => by
  simp only [frz] at h
  split at h
  ·rename_i hid
   split at h
   case h_2 => simp at h
   rename_i e sz' cs hg
   obtain ⟨rfl, rfl⟩ := z9 h
   obtain ⟨rfl, rfl, hl⟩ := hc
   simp only [Rep, RepP] at hr ⊢
   rcases hr with ⟨h1, _, rfl, a, rfl⟩ | ⟨bl, cap, a, h1, rfl, h2, h3, h4⟩
   ·have : cs = [] := hH id _ _ hg h1
    exact ⟨a, 0, rfl, Nat.le_refl _, Nat.zero_le _, (by simp), .inl ⟨rfl, this⟩⟩
   ·refine ⟨a, cap, by simp, by omega, h3, (by simp), ?_⟩
    obtain ⟨arr, hb, _, _, hle, hrl⟩ := hH id _ _ hg h1
    rcases h4 with rfl | h4
    ·right
     refine ⟨bl, 0, by simp, (hI bl).2 (.inr ⟨id, cap, e, sz', cs, hid, hg, h1⟩), zcW hb cs 0 ?_⟩
     rw [List.drop_zero]
     exact RepL.mono hmono hgo _ _ hrl
    ·left
     have : n = 0 := by omega
     subst this
     exact ⟨rfl, List.eq_nil_of_length_eq_zero (by omega)⟩
  ·obtain ⟨rfl, rfl⟩ := z9 h
   exact Rep.mono hmono hgo _ _ hr
 | .agg cs, v, cf, b, h, hc, hr => by
  simp only [frz] at h
  split at h
  case h_2 => simp at h
  rename_i c1 vs h1
  obtain ⟨rfl, rfl⟩ := z9 h
  simp only [Rep] at hr ⊢
  obtain ⟨us, hv, hl⟩ := hr
  exact ⟨us, hv, zhi hH hmono hgo hI cs _ _ _ h1 hc hl⟩
 | .tup cs, v, cf, b, h, hc, hr => by
  simp only [frz] at h
  split at h
  case h_2 => simp at h
  rename_i c1 vs h1
  obtain ⟨rfl, rfl⟩ := z9 h
  simp only [Rep] at hr ⊢
  obtain ⟨us, hv, hl⟩ := hr
  exact ⟨us, hv, zhi hH hmono hgo hI cs _ _ _ h1 hc hl⟩
 | .undef, v, cf, b, h, hc, hr => by simp only [frz] at h; obtain ⟨rfl, rfl⟩ := z9 h; exact Rep.mono hmono hgo _ _ hr
 | .pv p, v, cf, b, h, hc, hr => by simp only [frz] at h; obtain ⟨rfl, rfl⟩ := z9 h; exact Rep.mono hmono hgo _ _ hr
 | .pptr cs off, v, cf, b, h, hc, hr => by simp only [frz] at h; obtain ⟨rfl, rfl⟩ := z9 h; exact Rep.mono hmono hgo _ _ hr
 | .ptr id off, v, cf, b, h, hc, hr => by simp only [frz] at h; obtain ⟨rfl, rfl⟩ := z9 h; exact Rep.mono hmono hgo _ _ hr
 | .view id off n, v, cf, b, h, hc, hr => by simp only [frz] at h; obtain ⟨rfl, rfl⟩ := z9 h; exact Rep.mono hmono hgo _ _ hr
 | .fnc f cs, v, cf, b, h, hc, hr => by simp only [frz] at h; obtain ⟨rfl, rfl⟩ := z9 h; exact Rep.mono hmono hgo _ _ hr
 | .bnd f q cs, v, cf, b, h, hc, hr => by simp only [frz] at h; obtain ⟨rfl, rfl⟩ := z9 h; exact Rep.mono hmono hgo _ _ hr
 | .mapr id, v, cf, b, h, hc, hr => by simp only [frz] at h; obtain ⟨rfl, rfl⟩ := z9 h; exact Rep.mono hmono hgo _ _ hr
theorem zhi {c c2 : Ctx} {w : World} {H : Heap} {fz : List Nat} (hH : zcX c w H) (hmono : zaT c c2 w w) (hgo : Goes c c2) (hI : ∀ b, c2.I b ↔ zlU c H fz b) : ∀ (as : List AV) (vs : List Value) (cf : Prop) (bs : List AV), frzL H fz as = some (cf, bs) → cf → RepL c w as vs → RepL c2 w bs vs
 | [], vs, cf, bs, h, _, hr => by simp only [frzL] at h; obtain ⟨_, rfl⟩ := z9 h; cases vs <;> simp_all [RepL]
 | a :: as, v :: vs, cf, bs, h, hc, hr => by
  simp only [frzL] at h
  split at h
  case h_2 => simp at h
  rename_i c1 b c2' bs' h1 h2
  obtain ⟨rfl, rfl⟩ := z9 h
  simp only [RepL] at hr ⊢
  exact ⟨zmB hH hmono hgo hI a v _ _ h1 hc.1 hr.1, zhi hH hmono hgo hI as vs _ _ h2 hc.2 hr.2⟩
 | _ :: _, [], _, _, _, _, hr => by simp [RepL] at hr
end
theorem zuk {m i j : Nat} {new : List Nat} (hn : new.Nodup) (hg : ∀ x ∈ new, m ≤ x) (hi : i < m + new.length) (hj : j < m + new.length) (h : sig m new i = sig m new j) : i = j := by
 unfold sig at h
 have mem : ∀ {k}, k < m + new.length → ¬ k < m → new.getD (k - m) 0 ∈ new := fun {k} h1 h2 => by
  rw [List.getD_eq_getElem?_getD, List.getElem?_eq_getElem (by omega)]; exact List.getElem_mem _
 split at h
 ·split at h
  ·exact h
  ·rename_i h1 h2; have := hg _ (mem hj h2); omega
 ·split at h
  ·rename_i h1 h2; have := hg _ (mem hi h1); omega
  ·rename_i h1 h2
   rw [List.getD_eq_getElem?_getD, List.getElem?_eq_getElem (by omega), List.getD_eq_getElem?_getD, List.getElem?_eq_getElem (by omega)] at h
   have := (List.getElem_inj hn).1 h
   omega
theorem zl7 {S : St} {c c0 : Ctx} {w w0 : World} {a : Act} {fn : Func} {m : Nat} {out : AV} {Hout : List VObj} {mv fz new : List Nat} {cs cf : Prop} {vs : List AV} {v : AV} (hs : SRel ⟨c0, w0, m⟩ S c w a) (h : zgn P fn m S out Hout mv fz new cs vs cf v) :
  ∃ u c', (results fn a.tmps).run P w = .ok u w ∧ Rep c' w out u ∧ HRel ⟨c0, w0, m⟩ (idx 0 Hout) mv c' w ∧ ∀ id, Hout.length ≤ id → c'.φ id = none := by
 obtain ⟨u, hu, hr⟩ := znx hs h.res h.ok
 let c2 : Ctx := { φ := c.φ, I := zlU c S.H fz }
 have hr2 : Rep c2 w v u := zmB (c2 := c2) hs.h.heap (fun b hb => ⟨.inl hb, rfl⟩) (fun _ _ h => h) (fun b => Iff.rfl) _ _ _ _ h.fr h.fok hr
 let c' : Ctx := { φ := fun i => if i < Hout.length then c.φ (sig m new i) else none, I := zlU c S.H fz }
 have hφ' : ∀ {i loc}, c'.φ i = some loc → i < Hout.length ∧ c.φ (sig m new i) = some loc := fun {i loc} h1 => by
  have h2 : (if i < Hout.length then c.φ (sig m new i) else none) = some loc := h1
  split at h2
  ·exact ⟨by assumption, h2⟩
  ·cases h2
 have hget' : ∀ {i o}, hget (idx 0 Hout) i = some o → Hout[i]? = some o := fun h1 => by rw [zbG] at h1; simpa using h1
 have hren : ∀ i loc, i < Hout.length → c2.φ (sig m new i) = some loc → c'.φ i = some loc := fun i loc hi h1 => by
  show (if i < Hout.length then c.φ (sig m new i) else none) = some loc
  rw [if_pos hi]; exact h1
 have hsm : ∀ i, i < m → sig m new i = i := fun i hi => if_pos hi
 have hsg : ∀ i, i < Hout.length → ¬ i < m → m ≤ sig m new i ∧ sig m new i ∈ new := fun i hi hm => by
  have h1 : sig m new i ∈ new := by
   unfold sig
   rw [if_neg hm, List.getD_eq_getElem?_getD, List.getElem?_eq_getElem (by have := h.len; omega)]
   exact List.getElem_mem _
  exact ⟨h.ge _ h1, h1⟩
 refine ⟨u, c', hu, ?_, ⟨fun i o loc h1 h2 => ?_, fun i o b cap h1 h2 => ?_, fun i j o o' b cap cap' hne h1 h2 h3 h4 => ?_, fun b hb => ?_, hs.h.size, hs.h.os, hs.h.tape, hs.h.output, hs.h.blk, fun b hb => ?_, fun i loc hi h1 => ?_, fun i hi h1 => ?_⟩, fun id hid => ?_⟩
 ·exact Rep.renIn (c := c2) (c' := c') (ρ := sig m new) (m := Hout.length) (fun b hb => hb) hren _ _ h.bel (by rw [h.eq]; exact hr2)
 ·obtain ⟨hi, h3⟩ := hφ' h2
  obtain ⟨h4, h5⟩ := h.objs i o (hget' h1)
  have := hs.h.heap _ _ loc h4 h3
  exact zby.renIn (c := c) (c' := c') (ρ := sig m new) (m := Hout.length) (fun b hb => .inl hb) (fun i loc hi h => hren i loc hi h) h5 this
 ·obtain ⟨hi, h3⟩ := hφ' h2
  obtain ⟨h4, _⟩ := h.objs i o (hget' h1)
  obtain ⟨h5, h6, h7⟩ := hs.h.own _ _ b cap h4 h3
  refine ⟨h5, ?_, ?_⟩
  ·rintro (h8 | ⟨id, cap', e, sz, cs', hid, hg, h8⟩)
   ·exact h6 h8
   ·refine hs.h.apart _ _ _ _ b cap cap' (fun e => ?_) h4 hg h3 h8
    have hf := h.fge id hid
    by_cases him : i < m
    ·rw [hsm i him] at e; omega
    ·exact hf.2 (e ▸ (hsg i hi him).2)
  ·rcases h7 with h7 | ⟨h7, cap', h8⟩
   ·exact .inl h7
   ·by_cases him : i < m
    ·rw [hsm i him] at h8; exact .inr ⟨him, cap', h8⟩
    ·have := (hsg i hi him).1
     have h7' : sig m new i < m := h7
     omega
 ·obtain ⟨hi, h5⟩ := hφ' h3
  obtain ⟨hj, h6⟩ := hφ' h4
  exact hs.h.apart _ _ _ _ b cap cap' (fun e => hne (zuk h.nodup h.ge (by rw [← h.len]; exact hi) (by rw [← h.len]; exact hj) e)) (h.objs i o (hget' h1)).1 (h.objs j o' (hget' h2)).1 h5 h6
 ·rcases hb with hb | ⟨id, cap, e, sz, cs', _, hg, h1⟩
  ·exact hs.h.imm b hb
  ·exact (hs.h.own id _ b cap hg h1).1
 ·constructor
  ·rintro (h1 | ⟨id, cap, e, sz, cs', hid, hg, h1⟩)
   ·exact (hs.h.I b hb).1 h1
   ·exfalso
    rcases (hs.h.own id _ b cap hg h1).2.2 with h2 | ⟨h2, _⟩
    ·have h3 : w0.heap.size ≤ b := h2
     have h4 : b < w0.heap.size := hb
     omega
    ·have := (h.fge id hid).1
     have h3 : id < m := h2
     omega
  ·intro h1; exact .inl ((hs.h.I b hb).2 h1)
 ·have him : i < m := by
   rcases Nat.lt_or_ge i m with h2 | h2
   ·exact h2
   ·have h3 := hs.lo i (by have := hs.mlo; have h4 : m = S.lo := this; omega)
    have h4 : c0.φ i = none := h3
    have h5 : c0.φ i = some loc := h1
    rw [h4] at h5; cases h5
  show (if i < Hout.length then c.φ (sig m new i) else none) = some loc
  rw [if_pos (by have := h.len; omega), hsm i him]
  exact hs.h.φ i loc (fun hm => by
   rcases h.mv i hm with h2 | h2
   ·exact hi h2
   ·omega) h1
 ·have him : i < m := hi
  show (if i < Hout.length then c.φ (sig m new i) else none) = none
  rw [if_pos (by have := h.len; omega), hsm i him]
  exact hs.h.und i hi h1
 ·show (if id < Hout.length then c.φ (sig m new id) else none) = none
  rw [if_neg (by omega)]
def zkS : Nat → List AV → Tm
 | _, [] => []
 | k, a :: as => (k, a) :: zkS (k + 1) as
def zqM (args : List AV) (Hin : List VObj) (nt : Nat) : St :=
 { T := zkS 0 args, H := idx 0 Hin, nx := Hin.length, mv := [], nt := args.length + (nt - args.length), lo := Hin.length }
theorem zmt {c : Ctx} {w : World} : ∀ {as : List AV} {vs : List Value} {k t : Nat} {v : AV}, RepL c w as vs → tget (zkS k as) t = some v → ∃ u, k ≤ t ∧ vs[t - k]? = some u ∧ Rep c w v u
 | [], _, _, _, _, _, h => by simp [zkS, tget] at h
 | a :: as, u :: us, k, t, v, hr, h => by
  simp only [zkS, tget] at h
  simp only [RepL] at hr
  split at h
  ·rename_i e; subst e; obtain rfl := inj1 h; exact ⟨u, Nat.le_refl _, by simp, hr.1⟩
  ·rename_i e
   obtain ⟨u', h1, h2, h3⟩ := zmt hr.2 h
   exact ⟨u', by omega, by rw [show t - k = (t - (k + 1)) + 1 by omega, List.getElem?_cons_succ]; exact h2, h3⟩
 | _ :: _, [], _, _, _, hr, _ => by simp [RepL] at hr
theorem ztm {f : FuncId} {fn : Func} {code : Code} {args : List AV} {Hin : List VObj} {out : AV} {Hout : List VObj} {mv : List Nat} (hf : P.funcs[f]? = some fn) (hb : fn.body = some code)
  (h : ∀ B c w a, SRel B (zqM args Hin fn.ntmps) c w a → code.wp P (AreE B (zas P fn Hin.length out Hout mv)) a w) : Ok P f args Hin out Hout mv := by
 intro c w vals hargs hrel hnone
 refine calls_of_wp hf hb ?_
 have hlen := zW hargs
 have hs : SRel ⟨c, w, Hin.length⟩ (zqM args Hin fn.ntmps) c w { tmps := vals.toArray ++ Array.replicate (fn.ntmps - vals.toArray.size) undef, defers := [] } := by
  refine ⟨hrel, fun t v h => ?_, by simp [zqM, hlen], rfl, hnone, hnone, fun id o h => ?_, rfl, Nat.le_refl _⟩
  ·obtain ⟨u, _, h1, h2⟩ := zmt hargs h
   simp only [Nat.sub_zero] at h1
   have hlt := (List.getElem?_eq_some_iff.1 h1).1
   have : (vals.toArray ++ Array.replicate (fn.ntmps - vals.toArray.size) undef).getD t undef = u := by
    rw [Array.getD_eq_getD_getElem?, Array.getElem?_append_left (by simpa using hlt)]
    simp [h1]
   rw [this]; exact h2
  ·have h' : hget (idx 0 Hin) id = some o := h
   rw [zbG] at h'
   simp at h'
   exact (List.getElem?_eq_some_iff.1 h').1
 refine Code.wp_mono (fun e a w' h' => ?_) (h _ c w _ hs)
 obtain ⟨S', c', h1, h2⟩ := h'
 have key : (∃ fz new cs vs cf v, zgn P fn Hin.length S' out Hout mv fz new cs vs cf v) → a.defers = [] ∧ ∃ v, (results fn a.tmps).run P w' = .ok v w' ∧
   ∃ v' c', Ending.returned v = .returned v' ∧ Rep c' w' out v' ∧ HRel ⟨c, w, Hin.length⟩ (idx 0 Hout) mv c' w' ∧ ∀ id, Hout.length ≤ id → c'.φ id = none := by
  rintro ⟨fz, new, cs, vs, cf, v, ha⟩
  obtain ⟨u, c'', h3, h4, h5, h6⟩ := zl7 h2 ha
  exact ⟨h2.df, u, h3, u, c'', rfl, h4, h5, h6⟩
 cases e with
 | normal => exact key h1
 | ret => exact key h1
 | _ => exact h1.elim
end
end Go.Proofs.YtppnccjeggnllaaGreatVm

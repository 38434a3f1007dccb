import Derived.Test.YtppnccjeggnllaaGreatVmX
namespace Go.Proofs.YtppnccjeggnllaaGreatVm
open Go Go.RowKit
set_option linter.all false
def cutW {W : Type} (st : W → St) (I : W → Prop) (Q : Exit → St → Prop) (e : Exit) (S : St) : Prop := match e with
 | .normal => ∃ w, I w ∧ zD S (st w)
 | e => Q e S
section
variable {P : Program} {x : Code} {Q : Exit → St → Prop} {S S' : St}
theorem zX {W : Type} (st : W → St) (I : W → Prop) (h : zaG P x (cutW st I Q) S) (h2 : ∀ w, I w → Q .normal (st w)) : zaG P x Q S := by
 unfold zaG at h ⊢
 intro B c w a hs
 refine Code.wp_mono (fun e a w h3 => ?_) (h B c w a hs)
 obtain ⟨S1, c1, h4, h5⟩ := h3
 cases e with
 | normal =>
  obtain ⟨v, h6, h7⟩ := h4
  obtain ⟨c2, h8⟩ := h7 _ _ _ _ h5
  exact ⟨st v, c2, h2 v h6, h8⟩
 | _ => exact ⟨S1, c1, h4, h5⟩
theorem z0 {W : Type} {st : W → St} {I : W → Prop} (w : W) (h : I w) (ht : zD S (st w)) : cutW st I Q .normal S := ⟨w, h, ht⟩
theorem zaz {W : Type} {st : W → St} {I : W → Prop} (h : Q .ret S) : cutW st I Q .ret S := h
theorem z1 {α : Type} (st : α → St) (I : α → Prop) (μ : α → Nat) (a0 : α) (h0 : I a0) (hl : zD S (st a0)) (round : ∀ a, I a → zaG P x (lupK (fun d S => ∃ a, I a ∧ μ a = d ∧ S = st a) (μ a) Q) (st a)) : zaG P (.loop x) Q S := by
 refine zbq hl ?_
 unfold zaG at round ⊢
 intro B c w a hs
 refine zgu (fun d a w => ∃ y c, I y ∧ μ y = d ∧ SRel B (st y) c w a) (d := μ a0) ⟨a0, c, h0, rfl, hs⟩ (fun d a w hI => ?_)
 obtain ⟨y, c1, hy, rfl, hs1⟩ := hI
 refine Code.wp_mono (fun e a w h => ?_) (round y hy B c1 w a hs1)
 obtain ⟨S2, c2, h1, h2⟩ := h
 cases e with
 | normal =>
  unfold lupK at h1
  obtain ⟨d', S3, hlt, hl3, y', hy', rfl, rfl⟩ := h1
  obtain ⟨c3, hs3⟩ := hl3 _ _ _ _ h2
  exact ⟨_, hlt, y', c3, hy', rfl, hs3⟩
 | _ => unfold lupK at h1; exact ⟨S2, c2, h1, h2⟩
end
theorem zaE {α : Type} [Inhabited α] {l : List α} {k : Nat} (h : k < l.length) : l[k]? = some (l.getD k default) := by
 rw [List.getElem?_eq_getElem h]; simp [List.getD, h]
theorem zc9 {α : Type} [BEq α] [LawfulBEq α] {a b : α} (h : (a != b) = true) : ¬ a = b := bne_iff_ne.1 h
theorem zdl {α : Type} [BEq α] [LawfulBEq α] {a b : α} (h : (a != b) = false) : a = b := by
 rcases Classical.em (a = b) with e | e
 ·exact e
 ·rw [bne_iff_ne.2 e] at h; cases h
theorem zd5 {α : Type} [BEq α] [LawfulBEq α] {a b : α} (h : (a == b) = true) : a = b := eq_of_beq h
theorem zed {α : Type} [BEq α] [LawfulBEq α] {a b : α} (h : (a == b) = false) : ¬ a = b := ne_of_beq_false h
theorem zbA {b : Bool} (h : (!b) = true) : b = false := by cases b <;> simp_all
theorem zbz {b : Bool} (h : (!b) = false) : b = true := by cases b <;> simp_all
theorem zaA {b : Bool} (h : b = false) : ¬ b = true := by rw [h]; decide
def looP : PV → PV
 | .slc n _ cs => .slc n false cs
 | p => p
mutual
def loo : AV → AV
 | .pv p => .pv (looP p)
 | .agg cs => .agg (looL cs)
 | .tup cs => .tup (looL cs)
 | .fnc f [] => .pv (.fn f)
 | v => v
def looL : List AV → List AV
 | [] => []
 | a :: as => loo a :: looL as
end
theorem zse {c : Ctx} {w : World} {p : PV} {v : Value} (h : RepP c w p v) : RepP c w (looP p) v := by
 cases p with
 | slc n f cs =>
  simp only [looP, RepP] at h ⊢
  obtain ⟨a, cap, h1, h2, h3, _, h5⟩ := h
  exact ⟨a, cap, h1, h2, h3, by simp, h5⟩
 | _ => simpa [looP] using h
mutual
theorem zrD {c : Ctx} {w : World} : ∀ (a : AV) (v : Value), Rep c w a v → Rep c w (loo a) v
 | .undef, _, h => h
 | .pv p, v, h => by simp only [loo, Rep] at h ⊢; exact zse h
 | .pptr _ _, _, h => h
 | .ptr _ _, _, h => h
 | .ref _ _ _ _, _, h => h
 | .view _ _ _, _, h => h
 | .agg cs, v, h => by simp only [loo, Rep] at h ⊢; obtain ⟨vs, h1, h2⟩ := h; exact ⟨vs, h1, zgH cs _ h2⟩
 | .tup cs, v, h => by simp only [loo, Rep] at h ⊢; obtain ⟨vs, h1, h2⟩ := h; exact ⟨vs, h1, zgH cs _ h2⟩
 | .fnc f [], v, h => by
  simp only [loo, Rep, RepP] at h ⊢
  obtain ⟨vs, rfl, h2⟩ := h
  have : vs.toList = [] := by cases e : vs.toList with | nil => rfl | cons x y => rw [e] at h2; simp [RepL] at h2
  have : vs = #[] := Array.toList_inj.1 (by simpa using this)
  rw [this]
 | .fnc _ (_ :: _), _, h => h
 | .bnd _ _ _, _, h => h
 | .mapr _, _, h => h
theorem zgH {c : Ctx} {w : World} : ∀ (as : List AV) (vs : List Value), RepL c w as vs → RepL c w (looL as) vs
 | [], [], _ => by simp [looL, RepL]
 | a :: as, v :: vs, h => by simp only [looL, RepL] at h ⊢; exact ⟨zrD a v h.1, zgH as vs h.2⟩
 | [], _ :: _, h => by simp [RepL] at h
 | _ :: _, [], h => by simp [RepL] at h
end
def looO : VObj → VObj
 | .row e sz cs => .row e sz cs
 | .box cs => .box (looL cs)
 | .mp es => .mp es
 | .arow e sz cs => .arow e sz (looL cs)
def LooT (T : Tm) : Tm → Prop
 | [] => True
 | (k, v') :: r => (∃ v, tget T k = some v ∧ (v = v' ∨ loo v = v')) ∧ LooT T r
def LooH (H : Heap) : Heap → Prop
 | [] => True
 | (k, o') :: r => (∃ o, hget H k = some o ∧ (o = o' ∨ looO o = o')) ∧ LooH H r
theorem znD {T : Tm} : ∀ {T' : Tm} {k : Nat} {v' : AV}, LooT T T' → tget T' k = some v' → ∃ v, tget T k = some v ∧ (v = v' ∨ loo v = v')
 | [], _, _, _, h => by simp [tget] at h
 | (j, u) :: r, k, v, hf, h => by
  simp only [tget] at h
  split at h
  ·rename_i e; subst e; cases h; exact hf.1
  ·exact znD hf.2 h
theorem zfU {H : Heap} : ∀ {H' : Heap} {k : Nat} {o' : VObj}, LooH H H' → hget H' k = some o' → ∃ o, hget H k = some o ∧ (o = o' ∨ looO o = o')
 | [], _, _, _, h => by simp [hget] at h
 | (j, u) :: r, k, v, hf, h => by
  simp only [hget] at h
  split at h
  ·rename_i e; subst e; cases h; exact hf.1
  ·exact zfU hf.2 h
theorem zkD : ∀ l : List AV, (looL l).length = l.length
 | [] => rfl
 | x :: l => by simp [looL, zkD l]
theorem zD.loose {T T' : Tm} {H H' : Heap} {nx : Nat} {mv : List Nat} {nt lo : Nat} (ht : LooT T T') (hh : LooH H H') : zD ⟨T, H, nx, mv, nt, lo⟩ ⟨T', H', nx, mv, nt, lo⟩ := by
 intro B c w a hs
 refine ⟨c, ⟨fun id o loc h1 h2 => ?_, fun id o b cap h1 h2 => ?_, fun id id' o o' b cap cap' hne h1 h2 h3 h4 => ?_, hs.h.imm, hs.h.size, hs.h.os, hs.h.tape, hs.h.output, hs.h.blk, hs.h.I, hs.h.φ, hs.h.und⟩, fun t v h => ?_, hs.nt, hs.df, hs.fresh, hs.lo, fun id o h => ?_, hs.mlo, hs.nlo⟩
 ·obtain ⟨o1, h3, h4⟩ := zfU hh h1
  have h5 := hs.h.heap id o1 loc h3 h2
  rcases h4 with rfl | rfl
  ·exact h5
  ·cases o1 with
   | row e sz cs => exact h5
   | mp es => exact h5
   | arow e sz cs =>
    cases loc with
    | virt => have h' : cs = [] := h5; subst h'; rfl
    | blk b cap =>
     obtain ⟨arr, h8, h9, h10, h11, h12⟩ := h5
     exact ⟨arr, h8, h9, h10, by rw [zkD]; exact h11, by rw [zkD]; exact zgH cs _ h12⟩
   | box cs =>
    cases loc with
    | virt => exact h5
    | blk b cap =>
     obtain ⟨arr, t, h8, h9⟩ := h5
     exact ⟨arr, t, h8, zgH cs _ h9⟩
 ·obtain ⟨o1, h3, _⟩ := zfU hh h1
  exact hs.h.own id o1 b cap h3 h2
 ·obtain ⟨o1, h5, _⟩ := zfU hh h1
  obtain ⟨o2, h6, _⟩ := zfU hh h2
  exact hs.h.apart id id' o1 o2 b cap cap' hne h5 h6 h3 h4
 ·obtain ⟨u, h1, h2⟩ := znD ht h
  have h3 := hs.t t u h1
  rcases h2 with rfl | rfl
  ·exact h3
  ·exact zrD u _ h3
 ·obtain ⟨o1, h1, _⟩ := zfU hh h
  exact hs.wf id o1 h1
def zux (H : Heap) (fz : List Nat) (T : Tm) : Tm → Prop
 | [] => True
 | (k, v') :: r => (∃ v cf, tget T k = some v ∧ frzB H fz v = some (cf, v') ∧ cf) ∧ zux H fz T r
def zpq (H : Heap) (fz : List Nat) : VObj → Option (Prop × VObj)
 | .row e sz cs => some (True, .row e sz cs)
 | .box cs => (zfw H fz cs).map fun r => (r.1, .box r.2)
 | .mp es => some (True, .mp es)
 | .arow e sz cs => (zfw H fz cs).map fun r => (r.1, .arow e sz r.2)
def ztR (H : Heap) (fz : List Nat) : Heap → Prop
 | [] => True
 | (k, o') :: r => (fz.contains k = false ∧ ∃ o cf, hget H k = some o ∧ zpq H fz o = some (cf, o') ∧ cf) ∧ ztR H fz r
theorem zmh {H : Heap} {fz : List Nat} {T : Tm} : ∀ {T' : Tm} {k : Nat} {v' : AV}, zux H fz T T' → tget T' k = some v' → ∃ v cf, tget T k = some v ∧ frzB H fz v = some (cf, v') ∧ cf
 | [], _, _, _, h => by simp [tget] at h
 | (j, u) :: r, k, v', hf, h => by
  simp only [tget] at h
  split at h
  ·rename_i e; subst e; cases h; exact hf.1
  ·exact zmh hf.2 h
theorem zeY {H : Heap} {fz : List Nat} : ∀ {H' : Heap} {k : Nat} {o' : VObj}, ztR H fz H' → hget H' k = some o' → k ∉ fz ∧ ∃ o cf, hget H k = some o ∧ zpq H fz o = some (cf, o') ∧ cf
 | [], _, _, _, h => by simp [hget] at h
 | (j, u) :: r, k, v', hf, h => by
  simp only [hget] at h
  split at h
  ·rename_i e; subst e; cases h
   exact ⟨by have := hf.1.1; simpa using this, hf.1.2⟩
  ·exact zeY hf.2 h
theorem zms {H : Heap} {fz : List Nat} : ∀ (as : List AV) (cf : Prop) (bs : List AV), zfw H fz as = some (cf, bs) → bs.length = as.length
 | [], cf, bs, h => by simp only [zfw] at h; obtain ⟨_, rfl⟩ := z9 h; rfl
 | a :: as, cf, bs, h => by
  simp only [zfw] at h
  split at h
  case h_2 => simp at h
  rename_i c1 b c2' bs' h1 h2
  obtain ⟨rfl, rfl⟩ := z9 h
  simp [zms as _ _ h2]
theorem zD.freezeJ {T T' : Tm} {H H' : Heap} {nx : Nat} {mv : List Nat} {nt lo : Nat} (fz : List Nat) (hge : fz.all (fun x => Nat.ble lo x) = true) (ht : zux H fz T T') (hh : ztR H fz H') : zD ⟨T, H, nx, mv, nt, lo⟩ ⟨T', H', nx, mv, nt, lo⟩ := by
 intro B c w a hs
 have hge' : ∀ x ∈ fz, lo ≤ x := fun x hx => by have := List.all_eq_true.1 hge x hx; simpa [Nat.ble_eq] using this
 let c2 : Ctx := { φ := c.φ, I := zh1 c H fz }
 have hho : zaT c c2 w w := fun b hb => ⟨.inl hb, rfl⟩
 have hgo : Goes c c2 := fun _ _ h => h
 have hheap : zcX c w H := hs.h.heap
 have hown := hs.h.own
 refine ⟨c2, ⟨fun id o loc h1 h2 => ?_, fun id o b cap h1 h2 => ?_, fun id id' o o' b cap cap' hne h1 h2 h3 h4 => ?_, fun b hb => ?_, hs.h.size, hs.h.os, hs.h.tape, hs.h.output, hs.h.blk, fun b hb => ?_, hs.h.φ, hs.h.und⟩, fun t v h => ?_, hs.nt, hs.df, hs.fresh, hs.lo, fun id o h => ?_, hs.mlo, hs.nlo⟩
 ·obtain ⟨_, o1, cf, h3, h4, hc⟩ := zeY hh h1
  have h5 := hheap id o1 loc h3 h2
  cases o1 with
  | row e sz cs =>
   simp only [zpq, Option.some.injEq, Prod.mk.injEq] at h4
   obtain ⟨_, rfl⟩ := h4
   exact h5.mono hho hgo (fun _ _ _ => rfl)
  | mp es =>
   simp only [zpq, Option.some.injEq, Prod.mk.injEq] at h4
   obtain ⟨_, rfl⟩ := h4
   exact h5.mono hho hgo (fun _ _ _ => rfl)
  | arow e sz cs =>
   simp only [zpq, Option.map_eq_some_iff, Prod.mk.injEq] at h4
   obtain ⟨⟨r1, r2⟩, h6, h7, rfl⟩ := h4
   simp only at h7
   subst h7
   have hl := zms cs _ _ h6
   cases loc with
   | virt =>
    have h' : cs = [] := h5
    subst h'
    exact List.eq_nil_of_length_eq_zero hl
   | blk b cap =>
    obtain ⟨arr, h8, h9, h10, h11, h12⟩ := h5
    exact ⟨arr, h8, h9, h10, by rw [hl]; exact h11, by rw [hl]; exact zc8 hheap hho hgo (fun b => Iff.rfl) cs _ _ _ h6 hc h12⟩
  | box cs =>
   simp only [zpq, Option.map_eq_some_iff, Prod.mk.injEq] at h4
   obtain ⟨⟨r1, r2⟩, h6, h7, rfl⟩ := h4
   cases loc with
   | virt => exact h5
   | blk b cap =>
    obtain ⟨arr, t, h8, h9⟩ := h5
    simp only at h7
    subst h7
    exact ⟨arr, t, h8, zc8 hheap hho hgo (fun b => Iff.rfl) cs _ _ _ h6 hc h9⟩
 ·obtain ⟨hk, o1, cf, h3, h4, hc⟩ := zeY hh h1
  obtain ⟨h5, h6, h7⟩ := hown id o1 b cap h3 h2
  refine ⟨h5, ?_, h7⟩
  rintro (h8 | ⟨j, cap', o3, hj, hg, h8⟩)
  ·exact h6 h8
  ·exact hs.h.apart id j o1 _ b cap cap' (fun e => hk (e ▸ hj)) h3 hg h2 h8
 ·obtain ⟨_, o1, _, h5, _, _⟩ := zeY hh h1
  obtain ⟨_, o2, _, h6, _, _⟩ := zeY hh h2
  exact hs.h.apart id id' o1 o2 b cap cap' hne h5 h6 h3 h4
 ·rcases hb with hb | ⟨id, cap, o3, _, hg, h1⟩
  ·exact hs.h.imm b hb
  ·exact (hown id _ b cap hg h1).1
 ·constructor
  ·rintro (h1 | ⟨id, cap, o3, hid, hg, h1⟩)
   ·exact (hs.h.I b hb).1 h1
   ·exfalso
    rcases (hown id _ b cap hg h1).2.2 with h2 | ⟨h2, _⟩
    ·omega
    ·have h3 := hge' id hid
     have h4 : B.m = lo := hs.mlo
     omega
  ·intro h1; exact .inl ((hs.h.I b hb).2 h1)
 ·obtain ⟨u, cf, h1, h2, hc⟩ := zmh ht h
  exact zon (c2 := c2) hheap hho hgo (fun b => Iff.rfl) _ _ _ _ h2 hc (hs.t t u h1)
 ·obtain ⟨_, o1, _, h5, _, _⟩ := zeY hh h
  exact hs.wf id o1 h5
theorem Fn1.renN {α : Type} {P : Program} {f : FuncId} {caps : List AV} {A : α → List AV} {R : α → AV} (h : Fn1 P f caps A R) {ρ : Nat → Nat} : ren ρ (.fnc f caps) = .fnc f caps := zfr (show zao 0 (.fnc f caps) = true from h.bel)
theorem zbS {k : Nat} (h : k < 9223372036854775807) : IntKind.i64.wrap ((k : Int) + 1) = ((k + 1 : Nat) : Int) := by
 rw [znb (by omega) (by omega)]; omega
def orK (k : IntKind) (a b : Int) : Int := k.wrap (BitVec.ofInt k.bits a ||| BitVec.ofInt k.bits b).toNat
def xorK (k : IntKind) (a b : Int) : Int := k.wrap (BitVec.ofInt k.bits a ^^^ BitVec.ofInt k.bits b).toNat
def shlK (k : IntKind) (a b : Int) : Int := k.wrap (a * 2 ^ (min b.toNat k.bits))
def shrK (k : IntKind) (a b : Int) : Int := a.fdiv (2 ^ (min b.toNat k.bits))
theorem zpi (c : Ctx) : zh1 c [] [] = c.I := by
 funext b
 simp [zh1]
theorem Ok.coerce {P : Program} {f : FuncId} {args args' : List AV} {Hnew : List VObj} {out : AV} {mv : List Nat} {cond : Prop} (h : Ok P f args' [] out Hnew mv) (hf : zfw [] [] args = some (cond, args')) (hc : cond) : Ok P f args [] out Hnew mv := by
 intro c w vals hargs hrel hnone
 refine h c w vals ?_ hrel hnone
 exact zc8 (c2 := c) (H := []) (fz := []) (fun id o loc h1 _ => by simp [hget] at h1) (fun b hb => ⟨hb, rfl⟩) (fun _ _ h => h) (fun b => by rw [zpi]) _ _ _ _ hf hc hargs
section
variable {P : Program} {ops : Array Oper} {dr : Bool} {j : Nat} {d : Nat} {op : Op} {type : TypeId} {pos : String} {after : Array Edge} {r : List Oper} {T : Tm} {H : Heap} {nx : Nat} {mv : List Nat} {nt lo : Nat} {Q : St → Prop}
theorem zb5 {f : FuncId} {A A' : List AV} {out : AV} {Hnew : List VObj} {cond : Prop} {H' : Heap} {out' : AV} {nx' : Nat} (hr : zcv P (St.ev ⟨T, H, nx, mv, nt, lo⟩) H nx op type = none) (hw : zez P (St.ev ⟨T, H, nx, mv, nt, lo⟩) H op = none) (hcal : callee ⟨T, H, nx, mv, nt, lo⟩ op = some (f, A)) (hent : zdJ P f = true)
  (hren : renL (rho [] nx) A = A) (hbel : zau 0 A = true) (hf : zfw [] [] A = some (cond, A')) (hc : cond)
  (hok : Ok P f A' [] out Hnew [])
  (ho : ren (fun i => nx + i) out = out') (hH : idx nx (Hnew.map (renO (fun i => nx + i))) ++ H = H') (hnx : nx + Hnew.length = nx') (hd : Nat.blt d nt = true) (h : zY P ops dr (j + 1) r ⟨(d, out') :: T, H', nx', mv, nt, lo⟩ Q) :
  zY P ops dr j ({ dst := some d, op := op, type := type, pos := pos, after := after, guard := none } :: r) ⟨T, H, nx, mv, nt, lo⟩ Q := by
 refine zc6 ?_
 simp only [zjB, zbP, zdq, zcj, hr, hw, hcal]
 have hrho : rho [] nx = fun i => nx + i := by
  funext i; unfold rho; simp
 refine ⟨by simpa [Nat.blt_eq] using hd, hent, .inl ⟨[], A, [], out, Hnew, ⟨by simpa using Ok.coerce hok hf hc, hren, by simpa using hbel, List.nodup_nil, fun x hx => by simp at hx, rfl, by simp, fun i o hio => by simp at hio⟩, ?_⟩⟩
 simp only [St.afterCallQ, tput, hrho, ho, hH, hnx]
 exact h
end
theorem Ok.frz {P : Program} {f : FuncId} {args : List AV} {out out' : AV} {Hout : List VObj} {cond : Prop} (h : Ok P f args [] out Hout []) (hf : frzB (idx 0 Hout) (List.range Hout.length) out = some (cond, out')) (hb : zao 0 out' = true) (hc : cond) : Ok P f args [] out' [] [] := by
 intro c w vals ha hr hn
 refine Calls.mono (h c w vals ha hr hn) (fun e w' hpost => ?_)
 obtain ⟨v, c', rfl, hrep, hrel, hnone⟩ := hpost
 have hs : SRel ⟨c, w, 0⟩ ⟨[(0, out)], idx 0 Hout, Hout.length, [], 1, 0⟩ c' w' { tmps := #[v], defers := [] } := by
  refine ⟨hrel, fun t u ht => ?_, rfl, rfl, fun id hid => hnone id hid, fun id _ => hn id (Nat.zero_le _), fun id o ho => ?_, rfl, Nat.zero_le _⟩
  ·simp only [tget] at ht
   split at ht
   ·rename_i e; subst e; cases ht; exact hrep
   ·cases ht
  ·rw [zbG] at ho
   simp only [Nat.zero_le, if_true, Nat.sub_zero] at ho
   exact (List.getElem?_eq_some_iff.1 ho).1
 obtain ⟨c2, h2⟩ := zD.freezeJ (T' := [(0, out')]) (H' := []) (List.range Hout.length) (by simp [Nat.ble_eq]) ⟨⟨_, _, rfl, hf, hc⟩, trivial⟩ trivial _ _ _ _ hs
 have hv : Rep c2 w' out' v := h2.t 0 out' rfl
 refine ⟨v, { φ := fun _ => none, I := c2.I }, rfl, ?_, ⟨fun id o loc h1 _ => by simp [idx, hget] at h1, fun id o b cap h1 => by simp [idx, hget] at h1, fun id id' o o' b cap cap' _ h1 => by simp [idx, hget] at h1, h2.h.imm, h2.h.size, h2.h.os, h2.h.tape, h2.h.output, h2.h.blk, h2.h.I, fun id loc _ h1 => (by rw [hn id (Nat.zero_le _)] at h1; cases h1), fun _ _ _ => rfl⟩, fun _ _ => rfl⟩
 exact Rep.renIn (c := c2) (c' := { φ := fun _ => none, I := c2.I }) (ρ := id) (m := 0) (fun _ h => h) (fun i _ hi => absurd hi (Nat.not_lt_zero _)) out' v hb (by rw [zfr hb]; exact hv)
section
variable {P : Program} {ops : Array Oper} {dr : Bool} {j : Nat} {d : Nat} {op : Op} {type : TypeId} {pos : String} {after : Array Edge} {r : List Oper} {T : Tm} {H : Heap} {nx : Nat} {mv : List Nat} {nt lo : Nat} {Q : St → Prop}
theorem zjz : ∀ (vs cs : List AV) (i : Nat), i + vs.length ≤ cs.length → zat cs i vs = cs.take i ++ vs ++ cs.drop (i + vs.length)
 | [], cs, i, _ => by simp [zat]
 | v :: vs, cs, i, h => by
  simp only [List.length_cons] at h
  rw [zat, zjz vs _ _ (by rw [List.length_set]; omega), List.take_set, List.drop_set]
  simp only [List.length_cons]
  rw [if_pos (by omega), show i + 1 + vs.length = i + (vs.length + 1) by omega]
  have : (cs.take (i + 1)).set i v = cs.take i ++ [v] := by
   have hi : i < cs.length := by omega
   rw [List.take_add_one, List.set_append_right _ _ (by rw [List.length_take]; omega)]
   simp [List.getElem?_eq_getElem hi, List.length_take, Nat.min_eq_left (by omega : i ≤ cs.length)]
  rw [this]
  simp
theorem zH {t : TypeId} {ad x : Operand} {id off s : Nat} {v : AV} {cs : List AV} {H' : Heap} (ha : St.ev ⟨T, H, nx, mv, nt, lo⟩ ad = some (.ptr id off)) (hx : St.ev ⟨T, H, nx, mv, nt, lo⟩ x = some v) (hs : tsz P t = some s)
  (hv : (told v && (zam v).all one && Nat.beq (zam v).length s) = true) (hg : hget H id = some (.box cs)) (hle : Nat.ble (off + (zam v).length) cs.length = true) (htot : dr = false ∨ total ops j = true)
  (hH : hset H id (.box (cs.take off ++ (zam v ++ cs.drop (off + (zam v).length)))) = H') (h : zY P ops dr (j + 1) r ⟨T, H', nx, mv, nt, lo⟩ Q) :
  zY P ops dr j ({ dst := none, op := .store t ad x, type := type, pos := pos, after := after, guard := none } :: r) ⟨T, H, nx, mv, nt, lo⟩ Q := by
 have hle' := Nat.le_of_ble_eq_true hle
 refine zj7 ha hx hs hv hg (c := off + (zam v).length ≤ cs.length) (o' := .box (zat cs off (zam v))) rfl hle' htot ?_ h
 rw [zjz _ _ _ hle', List.append_assoc]; exact hH
theorem zar {f : FuncId} {A : List AV} {out : AV} {Hin Hout : List VObj} {H1 H' : Heap} {T1 : Tm} {out' : AV} {nx' k0 : Nat} {mvc ks : List Nat} (ids : List Nat) (hr : zcv P (St.ev ⟨T, H, nx, mv, nt, lo⟩) H nx op type = none) (hw : zez P (St.ev ⟨T, H, nx, mv, nt, lo⟩) H op = none) (hcal : callee ⟨T, H, nx, mv, nt, lo⟩ op = some (f, A)) (hent : zdJ P f = true) (htot : dr = false ∨ total ops j = true)
  (hin : ids.map (hget H) = Hin.map (fun o => some (renO (rho ids nx) o))) (hbo : Hin.all (zbC ids.length) = true) (hren : renL (rho ids nx) (renL (fun x => ids.idxOf x) A) = A) (hbel : zau ids.length (renL (fun x => ids.idxOf x) A) = true)
  (hok : Ok P f (renL (fun x => ids.idxOf x) A) Hin out Hout mvc) (hle : Nat.ble Hin.length Hout.length = true) (hnd : ids.Nodup) (hlt : ids.all (fun x => Nat.blt x nx) = true)
  (hk : mvc.map (rho ids nx) = k0 :: ks) (hp : PurH (k0 :: ks) H H1) (hT : PurT (k0 :: ks) T T1)
  (ho : ren (rho ids nx) out = out') (hH : idx nx ((Hout.drop Hin.length).map (renO (rho ids nx))) ++ zgD H1 ids ((Hout.take Hin.length).map (renO (rho ids nx))) = H') (hnx : nx + (Hout.length - Hin.length) = nx') (hd : Nat.blt d nt = true) (h : zY P ops dr (j + 1) r ⟨(d, out') :: T1, H', nx', (k0 :: ks) ++ mv, nt, lo⟩ Q) :
  zY P ops dr j ({ dst := some d, op := op, type := type, pos := pos, after := after, guard := none } :: r) ⟨T, H, nx, mv, nt, lo⟩ Q := by
 have hlen : ids.length = Hin.length := by simpa using congrArg List.length hin
 refine zc6 ?_
 simp only [zjB, zbP, zdq, zcj, hr, hw, hcal]
 refine ⟨by simpa [Nat.blt_eq] using hd, hent, .inr ⟨htot, ids, _, Hin, _, Hout, mvc, ⟨hok, hren, hbel, hnd, fun x hx => ?_, hlen, by simpa [Nat.ble_eq] using hle, fun i o hio => ?_⟩, ?_⟩⟩
 ·have := List.all_eq_true.1 hlt x hx
  simpa [Nat.blt_eq] using this
 ·have hi := (List.getElem?_eq_some_iff.1 hio).1
  have h1 : (ids.map (hget H))[i]? = some (some (renO (rho ids nx) o)) := by rw [hin]; simp [hio]
  simp only [List.getElem?_map, Option.map_eq_some_iff] at h1
  obtain ⟨x, h2, h3⟩ := h1
  exact ⟨by rw [List.getD_eq_getElem?_getD, h2]; exact h3, List.all_eq_true.1 hbo o (List.mem_of_getElem? hio)⟩
 ·simp only [St.afterCall, tput, hk, zeh, zho, hT.eq, hp.eq]
  rw [ho, hH, hnx]
  exact h
end
attribute [irreducible] cutW
end Go.Proofs.YtppnccjeggnllaaGreatVm

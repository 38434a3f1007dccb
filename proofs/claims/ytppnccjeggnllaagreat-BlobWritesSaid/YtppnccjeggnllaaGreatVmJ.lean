import Derived.Test.YtppnccjeggnllaaGreatVmI
namespace Go.Proofs.YtppnccjeggnllaaGreatVm
open Go Go.RowKit
set_option linter.all false
def zeh (ks : List Nat) (T : Tm) : Tm := match ks with | [] => T | _ :: _ => zfm ks T
def zho (ks : List Nat) (H : Heap) : Heap := match ks with | [] => H | _ :: _ => zc1 ks H
def zgD : Heap → List Nat → List VObj → Heap
 | H, i :: is, o :: os => zgD (hset H i o) is os
 | H, _, _ => H
def St.applyR (S : St) (dst : Option Tmp) (v : AV) : Option VObj → St
 | none => { S with T := tput S.T dst v }
 | some o => { S with T := tput S.T dst v, H := (S.nx, o) :: S.H, nx := S.nx + 1 }
def St.skip (S : St) (dst : Option Tmp) : St := { S with T := tput S.T dst (.tup []) }
def St.afterCall (S : St) (ids : List Nat) (m : Nat) (out : AV) (Hout : List VObj) (mv : List Nat) (dst : Option Tmp) : St :=
 { S with
  T := tput (zeh (mv.map (rho ids S.nx)) S.T) dst (ren (rho ids S.nx) out)
  H := idx S.nx ((Hout.drop m).map (renO (rho ids S.nx))) ++ zgD (zho (mv.map (rho ids S.nx)) S.H) ids ((Hout.take m).map (renO (rho ids S.nx)))
  nx := S.nx + (Hout.length - m)
  mv := mv.map (rho ids S.nx) ++ S.mv }
def zdJ (P : Program) (f : FuncId) : Bool := match P.funcs[f]? with
 | some fn => fn.name != "runtime.NumGoroutine" && fn.body.isSome
 | none => false
def zbP (ops : Array Oper) (S : St) (o : Oper) : Option Bool :=
 match o.guard with
 | none => some true
 | some (j, want) => match (ops[j]?).bind (·.dst) with
  | some t => match tget S.T t with
   | some (.pv (.bool b)) => some (b == want)
   | some (.tup []) => some false
   | _ => none
  | none => none
def zdq (S : St) (o : Oper) : Bool := match o.dst with | some d => decide (d < S.nt) | none => true
structure zip (P : Program) (S : St) (f : FuncId) (A : List AV) (ids : List Nat) (args : List AV) (Hin : List VObj) (out : AV) (Hout : List VObj) (mv : List Nat) : Prop where
 ok : Ok P f args Hin out Hout mv
 hargs : renL (rho ids S.nx) args = A
 bel : zau ids.length args = true
 nodup : ids.Nodup
 lt : ∀ x ∈ ids, x < S.nx
 len : ids.length = Hin.length
 le : Hin.length ≤ Hout.length
 hin : ∀ i o, Hin[i]? = some o → hget S.H (ids.getD i 0) = some (renO (rho ids S.nx) o) ∧ zbC ids.length o = true
def callee (S : St) (op : Op) : Option (FuncId × List AV) :=
 match op with
 | .call c => match c.callee with
  | .value fo => match S.ev fo, evs S.ev c.args.toList with
   | some (.fnc f caps), some A => some (f, A ++ caps)
   | some (.bnd f q cs), some A => some (f, cs.take q ++ (A ++ cs.drop q))
   | some (.pv (.fn f)), some A => some (f, A)
   | _, _ => none
  | _ => none
 | _ => none
def zt0 (P : Program) (S : St) (f : FuncId) (A : List AV) (dst : Option Tmp) (K : St → Prop) : Prop :=
 ∃ ids args Hin out Hout mv, zip P S f A ids args Hin out Hout mv ∧ K (S.afterCall ids Hin.length out Hout mv dst)
def St.afterCallQ (S : St) (ids : List Nat) (out : AV) (Hnew : List VObj) (dst : Option Tmp) : St :=
 { S with T := tput S.T dst (ren (rho ids S.nx) out), H := idx S.nx (Hnew.map (renO (rho ids S.nx))) ++ S.H, nx := S.nx + Hnew.length }
def zub (P : Program) (S : St) (f : FuncId) (A : List AV) (dst : Option Tmp) (K : St → Prop) : Prop :=
 ∃ ids args Hin out Hnew, zip P S f A ids args Hin out (Hin ++ Hnew) [] ∧ K (S.afterCallQ ids out Hnew dst)
def zcj (P : Program) (tot : Prop) (S : St) (o : Oper) (K : St → Prop) : Prop :=
 match zcv P S.ev S.H S.nx o.op o.type with
 | some (cond, v, new) => cond ∧ K (S.applyR o.dst v new)
 | none => match zez P S.ev S.H o.op with
  | some (cond, v, H', k) => tot ∧ cond ∧ K (S.applyW o.dst v H' k)
  | none => match callee S o.op with
   | some (f, A) => zdJ P f = true ∧ (zub P S f A o.dst K ∨ (tot ∧ zt0 P S f A o.dst K))
   | none => False
def runX (P : Program) (tot : Prop) (S : St) (o : Oper) (K : St → Prop) : Prop :=
 match zuQ P S.ev S.H o.op with
 | some (cond, v, H') => tot ∧ cond ∧ K (S.applyW o.dst (some v) H' none)
 | none => match zuU P S.ev S.H o.op with
  | some (cond, H') => tot ∧ cond ∧ K (S.applyW o.dst none H' none)
  | none => False
def St.applyF (S : St) (dst : Option Tmp) (v : AV) : St := { S with T := tput S.T dst v, nx := S.nx + 1 }
def runF (P : Program) (S : St) (o : Oper) (K : St → Prop) : Prop :=
 match zcv P S.ev S.H S.nx o.op o.type with
 | some (cond, .ref id sz off n, some (.row _ sz' cs)) => cond ∧ id = S.nx ∧ sz' = sz ∧ off = 0 ∧ cs.length = n * sz ∧ K (S.applyF o.dst (.pv (.slc n false cs)))
 | _ => False
theorem zhd {P : Program} {S : St} {o : Oper} {K : St → Prop} (h : runF P S o K) : ∃ cond sz n e cs, zcv P S.ev S.H S.nx o.op o.type = some (cond, .ref S.nx sz 0 n, some (.row e sz cs)) ∧ cond ∧ cs.length = n * sz ∧ K (S.applyF o.dst (.pv (.slc n false cs))) := by
 unfold runF at h
 split at h
 ·rename_i cond id sz off n e sz' cs he
  obtain ⟨h1, rfl, rfl, rfl, h2, h3⟩ := h
  exact ⟨_, _, _, _, _, he, h1, h2, h3⟩
 ·exact h.elim
theorem zru {P : Program} {S : St} {o : Oper} {K : St → Prop} {cond : Prop} {sz n : Nat} {e : TypeId} {cs : List PV} (he : zcv P S.ev S.H S.nx o.op o.type = some (cond, .ref S.nx sz 0 n, some (.row e sz cs))) (hc : cond) (hl : cs.length = n * sz) (hK : K (S.applyF o.dst (.pv (.slc n false cs)))) : runF P S o K := by
 unfold runF; rw [he]; exact ⟨hc, rfl, rfl, rfl, hl, hK⟩
def runG (P : Program) (tot : Prop) (S : St) (o : Oper) (K : St → Prop) : Prop :=
 (∃ b v ob, zlW P S.ev S.H S.nx o.op = some (b, v, ob) ∧ tot ∧ b = true ∧ K (S.applyR o.dst v (some ob))) ∨ ∃ b v H' k, zek P S.ev S.H o.op = some (b, v, H', k) ∧ tot ∧ b = true ∧ K (S.applyW o.dst v H' k)
theorem zs2 {P : Program} {tot : Prop} {S : St} {o : Oper} {K : St → Prop} (h : runG P tot S o K) : tot := by
 rcases h with ⟨b, v, ob, h1, h2, h3, h4⟩ | ⟨b, v, H', k, h1, h2, h3, h4⟩ <;> exact h2
theorem zsT {P : Program} {tot : Prop} {S : St} {o : Oper} {K : St → Prop} (h : runG P tot S o K) : ∃ S', K S' ∧ runG P tot S o (· = S') := by
 rcases h with ⟨b, v, ob, h1, h2, h3, h4⟩ | ⟨b, v, H', k, h1, h2, h3, h4⟩
 ·exact ⟨_, h4, .inl ⟨b, v, ob, h1, h2, h3, rfl⟩⟩
 ·exact ⟨_, h4, .inr ⟨b, v, H', k, h1, h2, h3, rfl⟩⟩
theorem zrR {P : Program} {tot : Prop} {S : St} {o : Oper} {K K' : St → Prop} (hk : ∀ S, K S → K' S) (h : runG P tot S o K) : runG P tot S o K' := by
 rcases h with ⟨b, v, ob, h1, h2, h3, h4⟩ | ⟨b, v, H', k, h1, h2, h3, h4⟩
 ·exact .inl ⟨b, v, ob, h1, h2, h3, hk _ h4⟩
 ·exact .inr ⟨b, v, H', k, h1, h2, h3, hk _ h4⟩
def zg8 (P : Program) (tot : Prop) (S : St) (o : Oper) (K : St → Prop) : Prop := zcj P tot S o K ∨ runX P tot S o K ∨ runF P S o K ∨ runG P tot S o K
def zjB (P : Program) (ops : Array Oper) (tot : Prop) (S : St) (o : Oper) (K : St → Prop) : Prop :=
 zdq S o = true ∧ match zbP ops S o with
  | some true => zcj P tot S o K
  | some false => K (S.skip o.dst)
  | none => False
def opWp (P : Program) (ops : Array Oper) (tot : Prop) (S : St) (o : Oper) (K : St → Prop) : Prop :=
 zdq S o = true ∧ match zbP ops S o with
  | some true => zg8 P tot S o K
  | some false => K (S.skip o.dst)
  | none => False
def bef (ops : Array Oper) (j i : Nat) : Bool := ((Region.before ops).getD j 0).testBit i
def total (ops : Array Oper) (j : Nat) : Bool := (List.range ops.size).all fun i => if i < j then bef ops j i else if j < i then bef ops i j else true
def zY (P : Program) (ops : Array Oper) (dr : Bool) : Nat → List Oper → St → (St → Prop) → Prop
 | _, [], S, Q => Q S
 | j, o :: r, S, Q => opWp P ops (dr = false ∨ total ops j = true) S o fun S' => zY P ops dr (j + 1) r S' Q
theorem zc6 {P : Program} {ops : Array Oper} {dr : Bool} {j : Nat} {o : Oper} {r : List Oper} {S : St} {Q : St → Prop} (h : zjB P ops (dr = false ∨ total ops j = true) S o fun S' => zY P ops dr (j + 1) r S' Q) : zY P ops dr j (o :: r) S Q := by
 show opWp P ops (dr = false ∨ total ops j = true) S o _
 obtain ⟨h1, h2⟩ := h
 refine ⟨h1, ?_⟩
 split at h2
 ·exact .inl h2
 ·exact h2
 ·exact h2
section
variable {P : Program} {B : Base} {S : St} {c : Ctx} {w : World} {a : Act} {ops : Array Oper}
theorem zmS {ks : List Nat} {T : Tm} {t : Nat} {v : AV} (h : tget (zeh ks T) t = some v) : ∃ u, tget T t = some u ∧ (v = purge ks u ∨ (ks = [] ∧ v = u)) := by
 cases ks with
 | nil => exact ⟨v, h, .inr ⟨rfl, rfl⟩⟩
 | cons k ks =>
  simp only [zeh, zdu, Option.map_eq_some_iff] at h
  obtain ⟨u, h1, h2⟩ := h
  exact ⟨u, h1, .inl h2.symm⟩
mutual
theorem ziV : ∀ a : AV, purge [] a = a
 | .undef => rfl
 | .pv _ => rfl
 | .pptr _ _ => rfl
 | .ptr _ _ => rfl
 | .ref _ _ _ _ => rfl
 | .view _ _ _ => rfl
 | .agg cs => by simp only [purge, zd1 cs]
 | .tup cs => by simp only [purge, zd1 cs]
 | .fnc _ cs => by simp only [purge, zd1 cs]
 | .bnd _ _ cs => by simp only [purge, zd1 cs]
 | .mapr _ => rfl
theorem zd1 : ∀ as : List AV, zcB [] as = as
 | [] => rfl
 | a :: as => by simp only [zcB, ziV a, zd1 as]
end
theorem zkm (o : VObj) : zdN [] o = o := by cases o <;> simp [zdN, zd1]
theorem zgs {ks : List Nat} {H : Heap} {t : Nat} : hget (zho ks H) t = (hget H t).map (zdN ks) := by
 cases ks with
 | nil => simp only [zho]; cases hget H t <;> simp [zkm]
 | cons k ks => exact zdr
theorem zb8 : ∀ {A C : Heap} {id : Nat}, hget (A ++ C) id = match hget A id with | some o => some o | none => hget C id
 | [], _, _ => rfl
 | (k, o) :: r, C, id => by
  simp only [List.cons_append, hget]
  split
  ·rfl
  ·exact zb8
theorem zlS : ∀ {is : List Nat} {os : List VObj} {H : Heap}, is.length = os.length → is.Nodup → ∀ {id : Nat} {o : VObj}, hget (zgD H is os) id = some o →
  (∃ i : Nat, is[i]? = some id ∧ os[i]? = some o) ∨ (id ∉ is ∧ hget H id = some o)
 | [], [], H, _, _, id, o, h => .inr ⟨by simp, h⟩
 | i :: is, x :: os, H, hl, hn, id, o, h => by
  simp only [zgD] at h
  simp only [List.nodup_cons] at hn
  rcases zlS (by simpa using hl) hn.2 h with ⟨j, h1, h2⟩ | ⟨h1, h2⟩
  ·exact .inl ⟨j + 1, by simpa using h1, by simpa using h2⟩
  ·rw [zbB] at h2
   split at h2
   ·rename_i e
    simp only [Option.map_eq_some_iff] at h2
    obtain ⟨_, _, rfl⟩ := h2
    exact .inl ⟨0, by simp [e], by simp⟩
   ·rename_i e
    exact .inr ⟨by simp [e, h1], h2⟩
 | [], _ :: _, _, hl, _, _, _, _ => by simp at hl
 | _ :: _, [], _, hl, _, _, _, _ => by simp at hl
theorem zgb {ids : List Nat} {Hin Hout : List VObj} {mv : List Nat} {out : AV} {dst : Option Tmp} (hn : ids.Nodup) (hlen : ids.length = Hin.length) (hle : Hin.length ≤ Hout.length) (hfresh : ∀ id, S.nx ≤ id → hget S.H id = none ∨ c.φ id = none) :
  ∀ id o, hget (S.afterCall ids Hin.length out Hout mv dst).H id = some o →
   (∃ i y, i < Hout.length ∧ id = rho ids S.nx i ∧ Hout[i]? = some y ∧ o = renO (rho ids S.nx) y) ∨ ((∀ i, i < Hin.length → rho ids S.nx i ≠ id) ∧ ¬ (S.nx ≤ id ∧ id < S.nx + (Hout.length - Hin.length)) ∧ ∃ y, hget S.H id = some y ∧ o = zdN (mv.map (rho ids S.nx)) y) := by
 intro id o h
 simp only [St.afterCall, zb8] at h
 cases h1 : hget (idx S.nx ((Hout.drop Hin.length).map (renO (rho ids S.nx)))) id with
 | some x =>
  rw [h1] at h
  obtain rfl := inj1 h
  rw [zbG] at h1
  split at h1
  case isFalse => simp at h1
  rename_i hle'
  simp only [List.getElem?_map, List.getElem?_drop, Option.map_eq_some_iff] at h1
  obtain ⟨y, h2, rfl⟩ := h1
  have hlt := (List.getElem?_eq_some_iff.1 h2).1
  exact .inl ⟨Hin.length + (id - S.nx), y, hlt, by unfold rho; rw [if_neg (by omega), hlen]; omega, h2, rfl⟩
 | none =>
  rw [h1] at h
  simp only at h
  rcases zlS (by rw [List.length_map, List.length_take, hlen]; omega) hn h with ⟨i, h2, h3⟩ | ⟨h2, h3⟩
  ·have hi := (List.getElem?_eq_some_iff.1 h2).1
   simp only [List.getElem?_map, Option.map_eq_some_iff] at h3
   obtain ⟨y, h4, rfl⟩ := h3
   rw [List.getElem?_take] at h4
   split at h4
   case isFalse => simp at h4
   exact .inl ⟨i, y, by omega, by rw [zfJ hi, List.getD_eq_getElem?_getD, h2]; rfl, h4, rfl⟩
  ·rw [zgs] at h3
   simp only [Option.map_eq_some_iff] at h3
   obtain ⟨y, h4, rfl⟩ := h3
   refine .inr ⟨fun i hi e => h2 ?_, fun hr => ?_, y, h4, rfl⟩
   ·rw [zfJ (by omega)] at e
    rw [← e, List.getD_eq_getElem?_getD, List.getElem?_eq_getElem (by omega : i < ids.length)]
    exact List.getElem_mem _
   ·rw [zbG, if_pos hr.1] at h1
    simp only [List.getElem?_map, List.getElem?_drop, Option.map_eq_none_iff] at h1
    have := List.getElem?_eq_none_iff.1 h1
    omega
theorem zkc {c : Ctx} {w : World} : ∀ {n : Nat} {us vs : List Value} {cs : List AV}, us.length = n → RepL c w cs (us ++ vs) → RepL c w (cs.take n) us ∧ RepL c w (cs.drop n) vs
 | 0, [], vs, cs, _, h => by simpa [RepL] using h
 | 0, _ :: _, _, _, e, _ => by simp at e
 | n + 1, [], _, _, e, _ => by simp at e
 | n + 1, u :: us, vs, [], _, h => by simp [RepL] at h
 | n + 1, u :: us, vs, x :: cs, e, h => by
  simp only [List.cons_append, RepL] at h
  obtain ⟨h1, h2⟩ := zkc (n := n) (by simpa using e) h.2
  simp only [List.take_succ_cons, List.drop_succ_cons, RepL]
  exact ⟨⟨h.1, h1⟩, h2⟩
theorem zj2 {o : Oper} {f : FuncId} {A : List AV} (hm : ∀ x ∈ o.op.operands.toList, ∀ v, S.ev x = some v → Rep c w v (a.eval x)) (he : zdJ P f = true) (h : callee S o.op = some (f, A)) :
  ∃ vals : List Value, RepL c w A vals ∧ (execOp a.eval o).run P w = .ok (.enter f vals.toArray) w := by
 unfold callee at h
 split at h
 case h_2 => simp at h
 rename_i cl hop
 obtain ⟨cal, args, ts⟩ := cl
 split at h
 case h_2 => simp at h
 rename_i fo hcal
 simp only at hcal
 subst hcal
 have hargs : ∀ {A}, evs S.ev args.toList = some A → RepL c w A (args.toList.map a.eval) := fun h1 =>
  zgw (fun x hx v hv => hm x (by simp [hop, Op.operands, Call.operands]; exact .inr (by simpa using hx)) v hv) h1
 have hfo : ∀ {v}, S.ev fo = some v → Rep c w v (a.eval fo) := fun h1 => hm fo (by simp [hop, Op.operands, Call.operands]) _ h1
 have hcallF : ∀ (vs : Array Value), (callFunc f vs).run P w = .ok (.enter f vs) w := fun vs => by
  unfold zdJ at he
  cases hfn : P.funcs[f]? with
  | none => simp [hfn] at he
  | some fn =>
   simp only [hfn, Bool.and_eq_true, bne_iff_ne, ne_eq] at he
   have hb : fn.body.isNone = false := by cases hb : fn.body <;> simp_all
   have hnm : (fn.name == "runtime.NumGoroutine") = false := by simpa using he.1
   simp only [callFunc, Sem.run_bind, run_program, Result.andThen_ok, hfn]
   rw [if_neg (by simp [hnm]), if_neg (by simp [hb])]
   rfl
 split at h
 ·rename_i g caps A' h1 h2
  obtain ⟨rfl, rfl⟩ := inj2 h
  have hf := hfo h1
  simp only [Rep] at hf
  obtain ⟨cs, hv, hl⟩ := hf
  refine ⟨args.toList.map a.eval ++ cs.toList, zaF (hargs h2) hl, ?_⟩
  have : (args.toList.map a.eval ++ cs.toList).toArray = args.map a.eval ++ cs := by
   apply Array.ext'; simp
  simp [execOp, hop, resolve, hv, Deferred.ofValue, invoke, hcallF]
  first | done | exact this.symm | rw [this]
 ·rename_i g q cs A' h1 h2
  obtain ⟨rfl, rfl⟩ := inj2 h
  have hf := hfo h1
  simp only [Rep] at hf
  obtain ⟨us, vs, hv, h0, hl⟩ := hf
  refine ⟨us.toList ++ (args.toList.map a.eval ++ vs.toList), ?_, ?_⟩
  ·obtain ⟨l1, l2⟩ := zkc (n := q) (us := us.toList) (by simpa using h0) hl
   exact zaF l1 (zaF (hargs h2) l2)
  ·have : (us.toList ++ (args.toList.map a.eval ++ vs.toList)).toArray = us ++ args.map a.eval ++ vs := by
    apply Array.ext'; simp
   simp [execOp, hop, resolve, hv, Deferred.ofValue, invoke, hcallF]
   first | done | exact this.symm | rw [this] | (rw [← this]; simp)
 ·rename_i g A' h1 h2
  obtain ⟨rfl, rfl⟩ := inj2 h
  have hf := hfo h1
  simp only [Rep, RepP] at hf
  refine ⟨args.toList.map a.eval, hargs h2, ?_⟩
  have : (args.toList.map a.eval).toArray = args.map a.eval := by
   apply Array.ext'; simp
  simp [execOp, hop, resolve, hf, Deferred.ofValue, invoke, hcallF]
  first | done | exact this.symm | rw [this]
 ·simp at h
theorem zh0 {c : Ctx} {w : World} {b : Nat} {arr : Array Value} {e : TypeId} {fr : Nat × Nat} (hb : w.heap[b]? = some (.cells arr e fr)) : ∀ (cs : List PV) (off : Nat), RepL c w (cs.map .pv) ((arr.toList.drop off).take cs.length) → z4 c w b off cs
 | [], _, _ => by simp [z4]
 | p :: ps, off, h => by
  simp only [List.map_cons, List.length_cons] at h
  cases hd : arr.toList.drop off with
  | nil => rw [hd] at h; simp [RepL] at h
  | cons v vs =>
   rw [hd, List.take_succ_cons] at h
   simp only [RepL, Rep] at h
   have h1 : arr[off]? = some v := by
    have := congrArg (fun l => l[0]?) hd
    simp only [List.getElem?_drop, Nat.add_zero, List.getElem?_cons_zero, Array.getElem?_toList] at this
    exact this
   have h2 : arr.toList.drop (off + 1) = vs := by
    rw [← List.drop_drop, hd]; rfl
   simp only [z4]
   exact ⟨⟨v, by rw [zeD hb]; exact h1, h.1⟩, zh0 hb ps (off + 1) (by rw [h2]; exact h.2)⟩
theorem zje {P : Program} {c : Ctx} {w : World} {o : Oper} {ev : Operand → Option AV} {ρ : Operand → Value} {H : Heap} {nx : Nat} {cond : Prop} {sz n : Nat} {e : TypeId} {cs : List PV} (hm : zb9 c w o.op ev ρ) (hconst : ∀ v, ρ (.const v) = v) (hH : zcX c w H) (hI : ∀ b, c.I b → b < w.heap.size) (hnx : c.φ nx = none)
  (he : zcv P ev H nx o.op o.type = some (cond, .ref nx sz 0 n, some (.row e sz cs))) (hc : cond) (hl : cs.length = n * sz) :
  ∃ v' w' c', (execOp ρ o).run P w = .ok (.value v') w' ∧ Rep c' w' (.pv (.slc n false cs)) v' ∧ (∀ B Hf mv, HRel B Hf mv c w → hget Hf nx = none → B.m ≤ nx → HRel B Hf mv c' w') ∧ Goes c c' ∧ zaT c c' w w' ∧ ∀ id, id ≠ nx → c'.φ id = c.φ id := by
 obtain ⟨v', w', c1, hrun, hg, hr⟩ := zgi (P := P) hm hconst hH hI (fun _ => hnx) he hc
 let c2 : Ctx := { φ := c1.φ, I := fun b => c1.I b ∨ ∃ cap, c1.φ nx = some (.blk b cap) }
 have hho : zaT c1 c2 w' w' := fun b hb => ⟨.inl hb, rfl⟩
 have hgo : Goes c1 c2 := fun _ _ h => h
 obtain ⟨loc, hloc, hob, hbl⟩ := hg.made _ rfl
 refine ⟨v', w', c2, hrun, ?_, fun B Hf mv h hn hlo => ?_, fun id loc' h => ?_, fun b hb => ⟨.inl (hg.I ▸ hb), hg.old b (hI b hb)⟩, fun id hid => hg.φ id hid⟩
 ·simp only [Rep, RepP] at hr ⊢
  rcases hr with ⟨h1, _, rfl, a, rfl⟩ | ⟨bl, cap, a, h1, rfl, h2, h3, h4⟩
  ·rw [hloc] at h1; cases h1
   have : cs = [] := hob
   exact ⟨a, 0, rfl, Nat.le_refl _, Nat.zero_le _, (by simp), .inl ⟨rfl, this⟩⟩
  ·refine ⟨a, cap, by simp, by omega, h3, (by simp), ?_⟩
   rw [hloc] at h1; cases h1
   obtain ⟨arr, hb, _, _, hle, hrl⟩ := hob
   rcases h4 with rfl | h4
   ·right
    refine ⟨bl, 0, by simp, .inr ⟨cap, hloc⟩, zh0 hb cs 0 ?_⟩
    rw [List.drop_zero]
    exact RepL.mono hho hgo _ _ hrl
   ·left
    have : n = 0 := by omega
    subst this
    exact ⟨rfl, List.eq_nil_of_length_eq_zero (by omega)⟩
 ·have h1 : HRel B ((nx, .row e sz cs) :: Hf) mv c w := h.more (fun id o h => by
   simp only [hget] at h
   split at h
   ·rename_i e; subst e; exact .inr hnx
   ·exact .inl h)
  have h2 : HRel B ((nx, .row e sz cs) :: Hf) mv c1 w' := h1.grown (Grew.grown hg (fun _ => hnx) hI (fun _ => hlo) (fun ob hn => by cases hn; simp [hget]))
  have hin : ∀ id o, hget Hf id = some o → id ≠ nx ∧ hget ((nx, .row e sz cs) :: Hf) id = some o := fun id o h3 => by
   have hne : id ≠ nx := fun e => by subst e; rw [hn] at h3; cases h3
   exact ⟨hne, by simp only [hget]; rw [if_neg hne.symm]; exact h3⟩
  have hself : hget ((nx, VObj.row e sz cs) :: Hf) nx = some (.row e sz cs) := by simp [hget]
  refine ⟨fun id o loc' h3 h4 => zby.mono hho hgo (h2.heap id o loc' (hin id o h3).2 h4) (fun _ _ _ => rfl), fun id o b cap h3 h4 => ?_, fun id id' o o' b cap cap' hne h3 h4 => h2.apart id id' o o' b cap cap' hne (hin id o h3).2 (hin id' o' h4).2, fun b hb => ?_, h2.size, h2.os, h2.tape, h2.output, h2.blk, fun b hb => ?_, h2.φ, h2.und⟩
  ·obtain ⟨x, y, z⟩ := h2.own id o b cap (hin id o h3).2 h4
   refine ⟨x, fun hi => ?_, z⟩
   rcases hi with hi | ⟨cap', hi⟩
   ·exact y hi
   ·exact h2.apart id nx o _ b cap cap' (hin id o h3).1 (hin id o h3).2 hself h4 hi
  ·rcases hb with hb | ⟨cap', hb⟩
   ·exact h2.imm b hb
   ·exact (h2.own nx _ b cap' hself hb).1
  ·refine ⟨fun hi => ?_, fun hi => .inl ((h2.I b hb).2 hi)⟩
   rcases hi with hi | ⟨cap', hi⟩
   ·exact (h2.I b hb).1 hi
   ·rw [hloc] at hi; cases hi
    have := (hbl b cap' rfl).1
    have := h.size
    omega
 ·by_cases e : id = nx
  ·subst e; rw [hnx] at h; cases h
  ·show c1.φ id = some loc'
   rw [hg.φ id e]; exact h
end
end Go.Proofs.YtppnccjeggnllaaGreatVm

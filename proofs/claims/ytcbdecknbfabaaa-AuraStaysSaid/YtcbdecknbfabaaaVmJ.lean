import Derived.Test.YtcbdecknbfabaaaVmI
namespace Go.Proofs.YtcbdecknbfabaaaVm
open Go Go.RowKit
set_option linter.all false
def purgeT' (ks : List Nat) (T : Tm) : Tm := match ks with | [] => T | _ :: _ => purgeT ks T
def purgeH' (ks : List Nat) (H : Heap) : Heap := match ks with | [] => H | _ :: _ => purgeH ks H
def hputs : Heap → List Nat → List VObj → Heap
  | H, i :: is, o :: os => hputs (hset H i o) is os
  | H, _, _ => H
def St.applyR (S : St) (dst : Option Tmp) (v : AV) : Option VObj → St
  | none => { S with T := tput S.T dst v }
  | some o => { S with T := tput S.T dst v, H := (S.nx, o) :: S.H, nx := S.nx + 1 }
def St.skip (S : St) (dst : Option Tmp) : St := { S with T := tput S.T dst (.tup []) }
def St.afterCall (S : St) (ids : List Nat) (m : Nat) (out : AV) (Hout : List VObj) (mv : List Nat) (dst : Option Tmp) : St :=
  { S with
    T := tput (purgeT' (mv.map (rho ids S.nx)) S.T) dst (ren (rho ids S.nx) out)
    H := idx S.nx ((Hout.drop m).map (renO (rho ids S.nx))) ++ hputs (purgeH' (mv.map (rho ids S.nx)) S.H) ids ((Hout.take m).map (renO (rho ids S.nx)))
    nx := S.nx + (Hout.length - m)
    mv := mv.map (rho ids S.nx) ++ S.mv }
def enters (P : Program) (f : FuncId) : Bool := match P.funcs[f]? with
  | some fn => fn.name != "runtime.NumGoroutine" && fn.body.isSome
  | none => false
def guardA (ops : Array Oper) (S : St) (o : Oper) : Option Bool :=
  match o.guard with
  | none => some true
  | some (j, want) => match (ops[j]?).bind (·.dst) with
    | some t => match tget S.T t with
      | some (.pv (.bool b)) => some (b == want)
      | some (.tup []) => some false
      | _ => none
    | none => none
def dstOk (S : St) (o : Oper) : Bool := match o.dst with | some d => decide (d < S.nt) | none => true
structure CallFits (P : Program) (S : St) (f : FuncId) (A : List AV) (ids : List Nat) (args : List AV) (Hin : List VObj) (out : AV) (Hout : List VObj) (mv : List Nat) : Prop where
  ok : Ok P f args Hin out Hout mv
  hargs : renL (rho ids S.nx) args = A
  bel : belowL ids.length args = true
  nodup : ids.Nodup
  lt : ∀ x ∈ ids, x < S.nx
  len : ids.length = Hin.length
  le : Hin.length ≤ Hout.length
  hin : ∀ i o, Hin[i]? = some o → hget S.H (ids.getD i 0) = some (renO (rho ids S.nx) o) ∧ belowO ids.length o = true
def callee (S : St) (op : Op) : Option (FuncId × List AV) :=
  match op with
  | .call c => match c.callee with
    | .value fo => match S.ev fo, evs S.ev c.args.toList with
      | some (.fnc f caps), some A => some (f, A ++ caps)
      | some (.pv (.fn f)), some A => some (f, A)
      | _, _ => none
    | _ => none
  | _ => none
def CallK (P : Program) (S : St) (f : FuncId) (A : List AV) (dst : Option Tmp) (K : St → Prop) : Prop :=
  ∃ ids args Hin out Hout mv, CallFits P S f A ids args Hin out Hout mv ∧ K (S.afterCall ids Hin.length out Hout mv dst)
def St.afterCallQ (S : St) (ids : List Nat) (out : AV) (Hnew : List VObj) (dst : Option Tmp) : St :=
  { S with T := tput S.T dst (ren (rho ids S.nx) out), H := idx S.nx (Hnew.map (renO (rho ids S.nx))) ++ S.H, nx := S.nx + Hnew.length }
def CallQ (P : Program) (S : St) (f : FuncId) (A : List AV) (dst : Option Tmp) (K : St → Prop) : Prop :=
  ∃ ids args Hin out Hnew, CallFits P S f A ids args Hin out (Hin ++ Hnew) [] ∧ K (S.afterCallQ ids out Hnew dst)
def runWp0 (P : Program) (tot : Prop) (S : St) (o : Oper) (K : St → Prop) : Prop :=
  match evalR P S.ev S.H S.nx o.op o.type with
  | some (cond, v, new) => cond ∧ K (S.applyR o.dst v new)
  | none => match evalW P S.ev S.H o.op with
    | some (cond, v, H', k) => tot ∧ cond ∧ K (S.applyW o.dst v H' k)
    | none => match callee S o.op with
      | some (f, A) => enters P f = true ∧ (CallQ P S f A o.dst K ∨ (tot ∧ CallK P S f A o.dst K))
      | none => False
def runX (P : Program) (tot : Prop) (S : St) (o : Oper) (K : St → Prop) : Prop :=
  match evalX P S.ev S.H o.op with
  | some (cond, v, H') => tot ∧ cond ∧ K (S.applyW o.dst (some v) H' none)
  | none => match evalM P S.ev S.H o.op with
    | some (cond, H') => tot ∧ cond ∧ K (S.applyW o.dst none H' none)
    | none => False
def runWp (P : Program) (tot : Prop) (S : St) (o : Oper) (K : St → Prop) : Prop := runWp0 P tot S o K ∨ runX P tot S o K
def opWp0 (P : Program) (ops : Array Oper) (tot : Prop) (S : St) (o : Oper) (K : St → Prop) : Prop :=
  dstOk S o = true ∧ match guardA ops S o with
    | some true => runWp0 P tot S o K
    | some false => K (S.skip o.dst)
    | none => False
def opWp (P : Program) (ops : Array Oper) (tot : Prop) (S : St) (o : Oper) (K : St → Prop) : Prop :=
  dstOk S o = true ∧ match guardA ops S o with
    | some true => runWp P tot S o K
    | some false => K (S.skip o.dst)
    | none => False
def bef (ops : Array Oper) (j i : Nat) : Bool := ((Region.before ops).getD j 0).testBit i
def total (ops : Array Oper) (j : Nat) : Bool := (List.range ops.size).all fun i => if i < j then bef ops j i else if j < i then bef ops i j else true
def opsWp (P : Program) (ops : Array Oper) (dr : Bool) : Nat → List Oper → St → (St → Prop) → Prop
  | _, [], S, Q => Q S
  | j, o :: r, S, Q => opWp P ops (dr = false ∨ total ops j = true) S o fun S' => opsWp P ops dr (j + 1) r S' Q
theorem opsWp_of0 {P : Program} {ops : Array Oper} {dr : Bool} {j : Nat} {o : Oper} {r : List Oper} {S : St} {Q : St → Prop} (h : opWp0 P ops (dr = false ∨ total ops j = true) S o fun S' => opsWp P ops dr (j + 1) r S' Q) : opsWp P ops dr j (o :: r) S Q := by
  show opWp P ops (dr = false ∨ total ops j = true) S o _
  obtain ⟨h1, h2⟩ := h
  refine ⟨h1, ?_⟩
  split at h2
  · exact .inl h2
  · exact h2
  · exact h2
section
variable {P : Program} {B : Base} {S : St} {c : Ctx} {w : World} {a : Act} {ops : Array Oper}
theorem purgeT'_get {ks : List Nat} {T : Tm} {t : Nat} {v : AV} (h : tget (purgeT' ks T) t = some v) : ∃ u, tget T t = some u ∧ (v = purge ks u ∨ (ks = [] ∧ v = u)) := by
  cases ks with
  | nil => exact ⟨v, h, .inr ⟨rfl, rfl⟩⟩
  | cons k ks =>
    simp only [purgeT', purgeT_get, Option.map_eq_some_iff] at h
    obtain ⟨u, h1, h2⟩ := h
    exact ⟨u, h1, .inl h2.symm⟩
mutual
theorem purge_nil : ∀ a : AV, purge [] a = a
  | .undef => rfl
  | .pv _ => rfl
  | .pptr _ _ => rfl
  | .ptr _ _ => rfl
  | .ref _ _ _ _ => rfl
  | .view _ _ _ => rfl
  | .agg cs => by simp only [purge, purgeL_nil cs]
  | .tup cs => by simp only [purge, purgeL_nil cs]
  | .fnc _ cs => by simp only [purge, purgeL_nil cs]
  | .mapr _ => rfl
theorem purgeL_nil : ∀ as : List AV, purgeL [] as = as
  | [] => rfl
  | a :: as => by simp only [purgeL, purge_nil a, purgeL_nil as]
end
theorem purgeO_nil (o : VObj) : purgeO [] o = o := by cases o <;> simp [purgeO, purgeL_nil]
theorem purgeH'_get {ks : List Nat} {H : Heap} {t : Nat} : hget (purgeH' ks H) t = (hget H t).map (purgeO ks) := by
  cases ks with
  | nil => simp only [purgeH']; cases hget H t <;> simp [purgeO_nil]
  | cons k ks => exact purgeH_get
theorem hget_append : ∀ {A C : Heap} {id : Nat}, hget (A ++ C) id = match hget A id with | some o => some o | none => hget C id
  | [], _, _ => rfl
  | (k, o) :: r, C, id => by
    simp only [List.cons_append, hget]
    split
    · rfl
    · exact hget_append
theorem hputs_get : ∀ {is : List Nat} {os : List VObj} {H : Heap}, is.length = os.length → is.Nodup → ∀ {id : Nat} {o : VObj}, hget (hputs H is os) id = some o →
    (∃ i : Nat, is[i]? = some id ∧ os[i]? = some o) ∨ (id ∉ is ∧ hget H id = some o)
  | [], [], H, _, _, id, o, h => .inr ⟨by simp, h⟩
  | i :: is, x :: os, H, hl, hn, id, o, h => by
    simp only [hputs] at h
    simp only [List.nodup_cons] at hn
    rcases hputs_get (by simpa using hl) hn.2 h with ⟨j, h1, h2⟩ | ⟨h1, h2⟩
    · exact .inl ⟨j + 1, by simpa using h1, by simpa using h2⟩
    · rw [hget_hset] at h2
      split at h2
      · rename_i e
        simp only [Option.map_eq_some_iff] at h2
        obtain ⟨_, _, rfl⟩ := h2
        exact .inl ⟨0, by simp [e], by simp⟩
      · rename_i e
        exact .inr ⟨by simp [e, h1], h2⟩
  | [], _ :: _, _, hl, _, _, _, _ => by simp at hl
  | _ :: _, [], _, hl, _, _, _, _ => by simp at hl
theorem afterCall_heap {ids : List Nat} {Hin Hout : List VObj} {mv : List Nat} {out : AV} {dst : Option Tmp} (hn : ids.Nodup) (hlen : ids.length = Hin.length) (hle : Hin.length ≤ Hout.length) (hfresh : ∀ id, S.nx ≤ id → hget S.H id = none ∨ c.φ id = none) :
    ∀ id o, hget (S.afterCall ids Hin.length out Hout mv dst).H id = some o →
      (∃ i y, i < Hout.length ∧ id = rho ids S.nx i ∧ Hout[i]? = some y ∧ o = renO (rho ids S.nx) y) ∨ ((∀ i, i < Hin.length → rho ids S.nx i ≠ id) ∧ ¬ (S.nx ≤ id ∧ id < S.nx + (Hout.length - Hin.length)) ∧ ∃ y, hget S.H id = some y ∧ o = purgeO (mv.map (rho ids S.nx)) y) := by
  intro id o h
  simp only [St.afterCall, hget_append] at h
  cases h1 : hget (idx S.nx ((Hout.drop Hin.length).map (renO (rho ids S.nx)))) id with
  | some x =>
    rw [h1] at h
    obtain rfl := inj1 h
    rw [idx_get] at h1
    split at h1
    case isFalse => simp at h1
    rename_i hle'
    simp only [List.getElem?_map, List.getElem?_drop, Option.map_eq_some_iff] at h1
    obtain ⟨y, h2, rfl⟩ := h1
    have hlt := (List.getElem?_eq_some_iff.1 h2).1
    exact .inl ⟨Hin.length + (id - S.nx), y, hlt, by unfold rho; rw [if_neg (by omega), hlen]; omega, h2, rfl⟩
  | none =>
    rw [h1] at h
    simp only at h
    rcases hputs_get (by rw [List.length_map, List.length_take, hlen]; omega) hn h with ⟨i, h2, h3⟩ | ⟨h2, h3⟩
    · have hi := (List.getElem?_eq_some_iff.1 h2).1
      simp only [List.getElem?_map, Option.map_eq_some_iff] at h3
      obtain ⟨y, h4, rfl⟩ := h3
      rw [List.getElem?_take] at h4
      split at h4
      case isFalse => simp at h4
      exact .inl ⟨i, y, by omega, by rw [rho_lt hi, List.getD_eq_getElem?_getD, h2]; rfl, h4, rfl⟩
    · rw [purgeH'_get] at h3
      simp only [Option.map_eq_some_iff] at h3
      obtain ⟨y, h4, rfl⟩ := h3
      refine .inr ⟨fun i hi e => h2 ?_, fun hr => ?_, y, h4, rfl⟩
      · rw [rho_lt (by omega)] at e
        rw [← e, List.getD_eq_getElem?_getD, List.getElem?_eq_getElem (by omega : i < ids.length)]
        exact List.getElem_mem _
      · rw [idx_get, if_pos hr.1] at h1
        simp only [List.getElem?_map, List.getElem?_drop, Option.map_eq_none_iff] at h1
        have := List.getElem?_eq_none_iff.1 h1
        omega
theorem callee_run {o : Oper} {f : FuncId} {A : List AV} (hm : ∀ x ∈ o.op.operands.toList, ∀ v, S.ev x = some v → Rep c w v (a.eval x)) (he : enters P f = true) (h : callee S o.op = some (f, A)) :
    ∃ vals : List Value, RepL c w A vals ∧ (execOp a.eval o).run P w = .ok (.enter f vals.toArray) w := by
  unfold callee at h
  split at h
  case h_2 => simp at h
  rename_i cl hop
  obtain ⟨cal, args, ts⟩ := cl
  split at h
  case h_2 => simp at h
  rename_i fo hcal
  simp only at hcal
  subst hcal
  have hargs : ∀ {A}, evs S.ev args.toList = some A → RepL c w A (args.toList.map a.eval) := fun h1 =>
    evs_rep (fun x hx v hv => hm x (by simp [hop, Op.operands, Call.operands]; exact .inr (by simpa using hx)) v hv) h1
  have hfo : ∀ {v}, S.ev fo = some v → Rep c w v (a.eval fo) := fun h1 => hm fo (by simp [hop, Op.operands, Call.operands]) _ h1
  have hcallF : ∀ (vs : Array Value), (callFunc f vs).run P w = .ok (.enter f vs) w := fun vs => by
    unfold enters at he
    cases hfn : P.funcs[f]? with
    | none => simp [hfn] at he
    | some fn =>
      simp only [hfn, Bool.and_eq_true, bne_iff_ne, ne_eq] at he
      have hb : fn.body.isNone = false := by cases hb : fn.body <;> simp_all
      have hnm : (fn.name == "runtime.NumGoroutine") = false := by simpa using he.1
      simp only [callFunc, Sem.run_bind, run_program, Result.andThen_ok, hfn]
      rw [if_neg (by simp [hnm]), if_neg (by simp [hb])]
      rfl
  split at h
  · rename_i g caps A' h1 h2
    obtain ⟨rfl, rfl⟩ := inj2 h
    have hf := hfo h1
    simp only [Rep] at hf
    obtain ⟨cs, hv, hl⟩ := hf
    refine ⟨args.toList.map a.eval ++ cs.toList, repL_append (hargs h2) hl, ?_⟩
    have : (args.toList.map a.eval ++ cs.toList).toArray = args.map a.eval ++ cs := by
      apply Array.ext'; simp
    simp [execOp, hop, resolve, hv, Deferred.ofValue, invoke, hcallF]
    first | done | exact this.symm | rw [this]
  · rename_i g A' h1 h2
    obtain ⟨rfl, rfl⟩ := inj2 h
    have hf := hfo h1
    simp only [Rep, RepP] at hf
    refine ⟨args.toList.map a.eval, hargs h2, ?_⟩
    have : (args.toList.map a.eval).toArray = args.map a.eval := by
      apply Array.ext'; simp
    simp [execOp, hop, resolve, hf, Deferred.ofValue, invoke, hcallF]
    first | done | exact this.symm | rw [this]
  · simp at h
end
end Go.Proofs.YtcbdecknbfabaaaVm

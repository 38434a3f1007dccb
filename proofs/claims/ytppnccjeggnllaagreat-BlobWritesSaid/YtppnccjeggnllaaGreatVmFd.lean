import Derived.Test.YtppnccjeggnllaaGreatVmFc
namespace Go.Proofs.YtppnccjeggnllaaGreatVm
open Go Go.RowKit
set_option linter.all false
noncomputable section
def zrq (P : Program) (call : zcN) (fs : FS) (f : FuncId) (A : List AV) (dst : Option Tmp) : Option FS :=
  match zdJ P f && zqY fs.nx A with
  | true => match call f A fs with
    | some (out, g) => match lowB fs.nx g.mv, Nat.ble fs.nx g.wr with
      | [], true => putT { T := fs.T, H := g.H, nx := g.nx, last := g.last, now := g.now, mv := fs.mv, c := fs.c, wr := fs.wr } dst out
      | _, _ => none
    | none => none
  | false => none
def zpV (P : Program) (call : zcN) (tot : Bool) (o : Oper) (fs : FS) : Option FS := match tot with
  | true => zr3 P call o fs
  | false => match zs3 o.op P fs with
   | some v => putT fs o.dst v
   | none => match zcR P fs.ev fs.hg fs.nx o.op o.type with
    | some (_, v, new) => match zfj P fs.ev fs.hg o.op with
      | true => putR fs o.dst v new
      | false => none
    | none => match wF P fs.ev fs.hg o.op with
      | some _ => none
      | none => match zez P fs.ev [] o.op with
        | some _ => none
        | none => match zkP fs.ev o.op with
          | some (f, A) => zrq P call fs f A o.dst
          | none => none
def opDF (P : Program) (call : zcN) (ops : Array Oper) (tot : Bool) (o : Oper) (fs : FS) : Option FS :=
  match dstF fs o with
  | true => match zqf ops fs.tg o with
    | some true => zpV P call tot o fs
    | some false => putT fs o.dst (.tup [])
    | none => none
  | false => none
def zrS (P : Program) (call : zcN) (ops : Array Oper) (l : List Oper) : Nat → FS → Option FS :=
  List.rec (motive := fun _ => Nat → FS → Option FS) (fun _ fs => some fs) (fun o _ ih j fs => match opDF P call ops (total ops j) o fs with
    | some fs1 => ih (Nat.succ j) fs1
    | none => none) l
section
variable {P : Program} {call : zcN} {fs fs' : FS} {S : St} {l0 : Tri Nat} {n0 : Nat} {h0 : Tri (Nat × VObj)} {m0 : Nat} {o : Oper} {ops : Array Oper}
theorem zkQ {ρ σ : Nat → Nat} {m : Nat} (h : ∀ i, i < m → ρ i = σ i) : ∀ {v : AV}, zao m v = true → ren ρ v = ren σ v
  | .undef, _ => rfl
  | .pv _, _ => rfl
  | .pptr _ _, _ => rfl
  | .ptr id off, hb => by simp only [zao, decide_eq_true_eq] at hb; simp only [ren, h id hb]
  | .ref id sz off n, hb => by simp only [zao, decide_eq_true_eq] at hb; simp only [ren, h id hb]
  | .view id off n, hb => by simp only [zao, decide_eq_true_eq] at hb; simp only [ren, h id hb]
  | .mapr id, hb => by simp only [zao, decide_eq_true_eq] at hb; simp only [ren, h id hb]
  | .agg cs, hb => by simp only [zao] at hb; simp only [ren, renL_ext h hb]
  | .tup cs, hb => by simp only [zao] at hb; simp only [ren, renL_ext h hb]
  | .fnc f cs, hb => by simp only [zao] at hb; simp only [ren, renL_ext h hb]
  | .bnd f q cs, hb => by simp only [zao] at hb; simp only [ren, renL_ext h hb]
where
  renL_ext {ρ σ : Nat → Nat} {m : Nat} (h : ∀ i, i < m → ρ i = σ i) : ∀ {vs : List AV}, zau m vs = true → renL ρ vs = renL σ vs
  | [], _ => rfl
  | v :: vs, hb => by
    simp only [zau, Bool.and_eq_true] at hb
    simp only [renL, zkQ h hb.1, renL_ext h hb.2]
theorem ztr {ρ : Nat → Nat} {m : Nat} (h : ∀ i, i < m → ρ i = i) {v : AV} (hb : zao m v = true) : ren ρ v = v := (zkQ h hb).trans (zlI v)
theorem zpG {ρ : Nat → Nat} {m : Nat} (h : ∀ i, i < m → ρ i = i) {o : VObj} (hb : zbC m o = true) : renO ρ o = o := by
  cases o with
  | row e sz cs => rfl
  | mp es => rfl
  | box cs => simp only [zbC] at hb; simp only [renO, (zkQ.renL_ext h hb).trans (zdT cs)]
  | arow e sz cs => simp only [zbC] at hb; simp only [renO, (zkQ.renL_ext h hb).trans (zdT cs)]
theorem zrn (hcall : zbQ P call) (hw : FWf fs l0 n0 h0 m0) (hs : FOk fs S) {f : FuncId} {A : List AV} {dst : Option Tmp} (h : zrq P call fs f A dst = some fs') : zdJ P f = true ∧ zub P S f A dst fun S' => FWf fs' l0 n0 h0 m0 ∧ FOk fs' S' := by
  unfold zrq at h
  split at h
  case h_2 => cases h
  rename_i hb
  simp only [Bool.and_eq_true] at hb
  rw [zit] at hb
  split at h
  case h_2 => cases h
  rename_i out g hc
  split at h
  case h_2 => cases h
  rename_i hmv hwr
  obtain ⟨g1, g3, g4⟩ := hcall f A fs out g hw.dense hw.bh hw.la hb.2 hc
  have hwr' := Nat.le_of_ble_eq_true hwr
  have g2 : g.lo = fs.nx := g1.lq
  have hnx : fs.nx ≤ g.nx := by rw [← g2]; exact g1.lo
  have hlast : ∀ i, i < fs.nx → zcQ g.last i = zcQ fs.last i := fun i hi => by
    rcases g1.mvr i (by rw [g2]; exact hi) with ⟨h1, h2⟩ | ⟨h1, h2⟩
    · have : i ∈ lowB fs.nx g.mv := zdW.2 ⟨h1, hi⟩
      rw [hmv] at this; cases this
    · exact h2
  have hst : ∀ {τ i : Nat}, i < fs.nx → zcZ fs.last τ i = zcZ g.last τ i := fun {τ i} hi => by
    unfold zcZ; rw [hlast i hi]
  have hH : ∀ i, i < fs.nx → g.H.get (Nat.succ i) = fs.H.get (Nat.succ i) := fun i hi => g1.un i (by rw [g2]; exact hi) (by omega)
  have hhg : ∀ i, i < fs.nx → g.hg i = fs.hg i := fun i hi => by
    unfold FS.hg
    rw [hH i hi]
    cases hp : fs.H.get (Nat.succ i) with
    | none => rfl
    | some p =>
      simp only
      rw [zgQ, zgQ, zqC (fun i hi => (hst hi).symm) (hw.bh i p hp).1]
  have hob : zbF g = zbF fs ++ (zbF g).drop fs.nx := by
    have h1 := (List.take_append_drop fs.nx (zbF g)).symm
    rw [show (zbF g).take fs.nx = zbF fs from ?_] at h1
    · exact h1
    · apply List.ext_getElem?
      intro i
      rw [List.getElem?_take, zcb hw.dense]
      by_cases hi : i < fs.nx
      · rw [if_pos hi, zcb g1.dense, hhg i hi]
      · rw [if_neg hi, ← zcb hw.dense, List.getElem?_eq_none (by rw [zaR]; omega)]
  refine ⟨hb.1, List.range fs.nx, A, zbF fs, out, (zbF g).drop fs.nx, ?_, ?_⟩
  · rw [hmv, hob] at g4
    refine ⟨g4, by rw [hs.nx, zdQ, zdT], by simpa using hb.2, List.nodup_range, fun x hx => by rw [hs.nx]; simpa using hx, by simp [zaR], by simp [zaR], fun i ob hi => ?_⟩
    rw [zcb hw.dense] at hi
    have hlt : i < fs.nx := by
      refine (hw.dense i).2 ?_
      unfold FS.hg at hi
      split at hi
      · exact ⟨_, by assumption⟩
      · cases hi
    refine ⟨?_, ?_⟩
    · rw [hs.nx, zdQ, znf, List.getD_eq_getElem?_getD, List.getElem?_range hlt, Option.getD_some, hs.h, hi]
    · unfold FS.hg at hi
      split at hi
      · rename_i p hp
        obtain rfl := inj1 hi
        rw [zgQ, List.length_range]
        exact zgz _ (hw.bh i p hp).1
      · cases hi
  · have w1 : FWf { T := fs.T, H := g.H, nx := g.nx, last := g.last, now := g.now, mv := fs.mv, c := fs.c, wr := fs.wr } l0 n0 h0 m0 := by
      refine ⟨g1.dense, fun k p hk => ⟨zfR hnx (hw.bt k p hk).1, Nat.le_trans (hw.bt k p hk).2 g1.ge⟩, g1.bh, g1.la, Nat.le_trans hw.ge g1.ge, fun i hi => ?_, Nat.le_trans hw.lo hnx, fun i h1 h2 => ?_, hw.lq⟩
      · have hi' : i < fs.nx := Nat.lt_of_lt_of_le hi hw.lo
        show (i ∈ fs.mv ∧ n0 < zcQ g.last i) ∨ (i ∉ fs.mv ∧ zcQ g.last i = zcQ l0 i)
        rw [hlast i hi']
        exact hw.mvr i hi
      · show g.H.get (Nat.succ i) = _
        rw [hH i (Nat.lt_of_lt_of_le h1 hw.lo)]
        exact hw.un i h1 h2
    have w2 : FOk { T := fs.T, H := g.H, nx := g.nx, last := g.last, now := g.now, mv := fs.mv, c := fs.c, wr := fs.wr }
        { S with H := idx S.nx (((zbF g).drop fs.nx).map (renO (rho (List.range fs.nx) S.nx))) ++ S.H, nx := g.nx } := by
      refine ⟨fun k => ?_, fun i => ?_, rfl, hs.mv, hs.nt, hs.lo⟩
      · show tget S.T k = _
        rw [hs.t k]
        unfold FS.tg
        simp only
        cases hk : fs.T.get (Nat.succ k) with
        | none => rfl
        | some p =>
          simp only
          rw [zib, zib]
          exact congrArg some (zlm (fun i hi => hst hi) (hw.bt k p hk).1)
      · show hget (idx S.nx (((zbF g).drop fs.nx).map (renO (rho (List.range fs.nx) S.nx))) ++ S.H) i = g.hg i
        rw [hs.nx, zdQ, zgv, zb8, zbG]
        by_cases hi : fs.nx ≤ i
        · rw [if_pos hi, List.getElem?_drop, show fs.nx + (i - fs.nx) = i by omega, zcb g1.dense]
          cases hq : g.hg i with
          | some x => rfl
          | none =>
            simp only
            rw [hs.h i, ← zcb hw.dense i, List.getElem?_eq_none (by rw [zaR]; exact hi)]
        · rw [if_neg hi]
          simp only
          rw [hs.h i, hhg i (by omega)]
    obtain ⟨q1, q2⟩ := zdc w1 w2 h
    refine ⟨q1, ?_⟩
    have e : S.afterCallQ (List.range fs.nx) out ((zbF g).drop fs.nx) dst = { S with T := tput S.T dst out, H := idx S.nx (((zbF g).drop fs.nx).map (renO (rho (List.range fs.nx) S.nx))) ++ S.H, nx := g.nx } := by
      unfold St.afterCallQ
      simp only [hs.nx, zdQ, zlI, List.length_drop, zaR]
      congr 1
      omega
    rw [e]
    exact q2
theorem zpQ {t t' : Prop} (ht : t → t') {K : St → Prop} (h : zg8 P t S o K) : zg8 P t' S o K := by
  rcases h with h | h | h | h
  · refine .inl ?_
    unfold zcj at h ⊢
    split at h
    · exact h
    · split at h
      · exact ⟨ht h.1, h.2⟩
      · split at h
        · exact ⟨h.1, h.2.imp id (fun q => ⟨ht q.1, q.2⟩)⟩
        · exact h.elim
  · refine .inr (.inl ?_)
    unfold runX at h ⊢
    split at h
    · exact ⟨ht h.1, h.2⟩
    · split at h
      · exact ⟨ht h.1, h.2⟩
      · exact h.elim
  · exact .inr (.inr (.inl h))
  · refine .inr (.inr (.inr ?_))
    rcases h with ⟨b, v, ob, h1, h2, h3⟩ | ⟨b, v, H', k, h1, h2, h3⟩
    · exact .inl ⟨b, v, ob, h1, ht h2, h3⟩
    · exact .inr ⟨b, v, H', k, h1, ht h2, h3⟩
theorem zrW (hcall : zbQ P call) {tot : Bool} (hw : FWf fs l0 n0 h0 m0) (hs : FOk fs S) (h : zpV P call tot o fs = some fs') : zg8 P (tot = true) S o fun S' => FWf fs' l0 n0 h0 m0 ∧ FOk fs' S' := by
  unfold zpV at h
  split at h
  · have := zn5 hcall hw hs h
    have e : (true = true) = True := by simp
    rw [e]; exact this
  · split at h
    · rename_i v hv
      exact zkq hw hs hv h
    rw [evF hs, hgF hs, ← hs.nx, ← zg4, ← zjr] at h
    split at h
    · rename_i c v new he
      split at h
      case h_2 => cases h
      rename_i hb
      refine .inl ?_
      unfold zcj
      rw [he]
      exact ⟨zkR he hb, zli hw hs h⟩
    · rename_i he
      split at h
      · cases h
      · split at h
        case h_1 => cases h
        rename_i hwn
        split at h
        case h_2 => cases h
        rename_i f A hc
        obtain ⟨h1, h2⟩ := zrn hcall hw hs h
        refine .inl ?_
        unfold zcj
        rw [he, zj0 hwn (by rw [hc]; simp), show callee S o.op = some (f, A) from hc]
        exact ⟨h1, .inl h2⟩
theorem zrK (hcall : zbQ P call) {tot : Bool} (hw : FWf fs l0 n0 h0 m0) (hs : FOk fs S) (h : opDF P call ops tot o fs = some fs') {t : Prop} (ht : tot = true → t) : opWp P ops t S o fun S' => FWf fs' l0 n0 h0 m0 ∧ FOk fs' S' := by
  unfold opDF at h
  rw [zpN hs, zmp hs] at h
  split at h
  case h_2 => cases h
  rename_i hd
  refine ⟨hd, ?_⟩
  split at h
  · rename_i hg
    rw [hg]
    exact zpQ ht (zrW hcall hw hs h)
  · rename_i hg
    rw [hg]
    exact zdc hw hs h
  · cases h
theorem zks (hcall : zbQ P call) {Q : St → Prop} : ∀ {l : List Oper} {j : Nat} {fs fs' : FS} {S : St}, FWf fs l0 n0 h0 m0 → FOk fs S → zrS P call ops l j fs = some fs' → (∀ S', FWf fs' l0 n0 h0 m0 → FOk fs' S' → Q S') → zY P ops true j l S Q
  | [], j, fs, fs', S, hw, hs, h, hQ => by obtain rfl := inj1 (show some fs = some fs' from h); exact hQ S hw hs
  | o :: r, j, fs, fs', S, hw, hs, h, hQ => by
    have h' : (match opDF P call ops (total ops j) o fs with
      | some fs1 => zrS P call ops r (Nat.succ j) fs1
      | none => none) = some fs' := h
    split at h'
    case h_2 => cases h'
    rename_i fs1 h1
    have h2 := zrK hcall hw hs h1 (t := true = false ∨ total ops j = true) (fun e => .inr e)
    simp only [zY, opWp] at h2 ⊢
    refine ⟨h2.1, ?_⟩
    have h3 := h2.2
    split at h3
    · exact zeV (fun S1 hS => zks hcall hS.1 hS.2 h' hQ) h3
    · exact zks hcall h3.1 h3.2 h' hQ
    · exact h3.elim
end
def zuE (o : Oper) : Bool := match o.op with
  | .store _ _ _ => true
  | .mapUpdate _ _ _ _ => true
  | .call c => match c.callee with
    | .builtin .append => true
    | .builtin .clear => true
    | .builtin .copy => true
    | .builtin .delete => true
    | _ => false
  | _ => false
def zuJ (ops : Array Oper) (j : Nat) (l : List Oper) : Nat → List (Nat × Nat) → List (Nat × Nat) :=
  List.rec (motive := fun _ => Nat → List (Nat × Nat) → List (Nat × Nat)) (fun _ acc => acc) (fun o _ ih i acc => match Nat.blt i j with
    | true => match ztv o with
      | true => match bef ops j i with
        | true => ih (Nat.succ i) acc
        | false => ih (Nat.succ i) ((j, i) :: acc)
      | false => ih (Nat.succ i) acc
    | false => acc) l
def zgY (ops : Array Oper) (l0 l : List Oper) : Nat → List (Nat × Nat) → List (Nat × Nat) :=
  List.rec (motive := fun _ => Nat → List (Nat × Nat) → List (Nat × Nat)) (fun _ acc => acc) (fun o _ ih j acc => match zuE o with
    | true => ih (Nat.succ j) (zuJ ops j l0 0 acc)
    | false => ih (Nat.succ j) acc) l
def triB {α : Type} (f : α → α → Bool) : Tri α → Tri α → Bool
  | .lf, .lf => true
  | .nd v l r, .nd v' l' r' => (match v, v' with
    | some x, some y => f x y
    | none, none => true
    | _, _ => false) && triB f l l' && triB f r r'
  | _, _ => false
theorem zg0 {α : Type} {f : α → α → Bool} : ∀ {t u : Tri α} {n : Nat}, triB f t u = true → (t.get n = none ∧ u.get n = none) ∨ ∃ x y, t.get n = some x ∧ u.get n = some y ∧ f x y = true
  | .lf, .lf, n, _ => .inl ⟨rfl, rfl⟩
  | .nd v l r, .nd v' l' r', n, h => by
    simp only [triB, Bool.and_eq_true] at h
    rw [Tri.get_nd, Tri.get_nd]
    by_cases e : n = 1
    · rw [if_pos e, if_pos e]
      have h1 := h.1.1
      split at h1
      · exact .inr ⟨_, _, rfl, rfl, h1⟩
      · exact .inl ⟨rfl, rfl⟩
      · cases h1
    · rw [if_neg e, if_neg e]
      by_cases e2 : n % 2 = 0
      · rw [if_pos e2, if_pos e2]; exact zg0 h.1.2
      · rw [if_neg e2, if_neg e2]; exact zg0 h.2
def zif (a b : FS) : Bool := triB (fun p q => avB (fp2 (zcZ a.last p.1) p.2) (fp2 (zcZ b.last q.1) q.2)) a.T b.T && triB (fun p q => voB (fpO (zcZ a.last p.1) p.2) (fpO (zcZ b.last q.1) q.2)) a.H b.H && Nat.beq a.nx b.nx && (a.mv == b.mv) && Nat.beq a.nt b.nt && Nat.beq a.lo b.lo
theorem zkU {a b : FS} (h : zif a b = true) {S : St} (hs : FOk a S) : FOk b S := by
  unfold zif at h
  simp only [Bool.and_eq_true] at h
  obtain ⟨⟨⟨⟨⟨h1, h2⟩, h3⟩, h4⟩, h5⟩, h6⟩ := h
  refine ⟨fun k => ?_, fun i => ?_, ?_, ?_, ?_, ?_⟩
  · rw [hs.t k]
    unfold FS.tg
    rcases zg0 (n := Nat.succ k) h1 with ⟨e1, e2⟩ | ⟨x, y, e1, e2, e3⟩
    · rw [e1, e2]
    · rw [e1, e2]; simp only; rw [znX e3]
  · rw [hs.h i]
    unfold FS.hg
    rcases zg0 (n := Nat.succ i) h2 with ⟨e1, e2⟩ | ⟨x, y, e1, e2, e3⟩
    · rw [e1, e2]
    · rw [e1, e2]; simp only; rw [ztu e3]
  · rw [hs.nx]; exact Nat.eq_of_beq_eq_true h3
  · rw [hs.mv]; exact eq_of_beq h4
  · rw [hs.nt]; exact Nat.eq_of_beq_eq_true h5
  · rw [hs.lo]; exact Nat.eq_of_beq_eq_true h6
def zvm (ops : Array Oper) (j : Nat) (l : List Oper) : Nat → Option (Nat × Nat) :=
  List.rec (motive := fun _ => Nat → Option (Nat × Nat)) (fun _ => none) (fun _ _ ih i => match Nat.beq i j || bef ops j i || bef ops i j with
    | true => ih (Nat.succ i)
    | false => some (j, i)) l
def zvj (ops : Array Oper) (l0 l : List Oper) : Nat → Option (Nat × Nat) :=
  List.rec (motive := fun _ => Nat → Option (Nat × Nat)) (fun _ => none) (fun o _ ih j => match zuE o with
    | true => match zvm ops j l0 0 with
      | some r => some r
      | none => ih (Nat.succ j)
    | false => ih (Nat.succ j)) l
def zuG (acc : List Nat) (l : List Nat) : Bool := List.rec (motive := fun _ => Bool) true (fun x _ ih => match memB x acc with | true => ih | false => false) l
def numb {α : Type} (l : List α) : Nat → List (Nat × α) := List.rec (motive := fun _ => Nat → List (Nat × α)) (fun _ => []) (fun x _ ih k => (k, x) :: ih (Nat.succ k)) l
def zvh (acc : List Nat) (l : List (Nat × List Nat)) : List (Nat × List Nat) → Option (Nat × List (Nat × List Nat)) :=
  List.rec (motive := fun _ => List (Nat × List Nat) → Option (Nat × List (Nat × List Nat))) (fun _ => none) (fun x r ih pre => match zuG acc x.2 with
    | true => some (x.1, pre.reverse ++ r)
    | false => ih (x :: pre)) l
def zuF : Nat → List (Nat × List Nat) → List Nat → List Nat
  | 0, _, acc => acc.reverse
  | n + 1, l, acc => match zvh acc l [] with
    | some (k, r) => zuF n r (k :: acc)
    | none => acc.reverse
def zvb (ops : Array Oper) : List Nat := zuF ops.toList.length (numb (ops.toList.map zuP) 0) []
def ztC (l : List Oper) : Nat → List Nat → List Nat :=
  List.rec (motive := fun _ => Nat → List Nat → List Nat) (fun _ acc => acc.reverse) (fun o _ ih j acc => match ztv o with
    | true => match zuG acc (zuP o) with
      | true => ih (Nat.succ j) (j :: acc)
      | false => ih (Nat.succ j) acc
    | false => ih (Nat.succ j) acc) l
def zvg (fr : List Nat) (l : List Oper) : Nat → List Nat :=
  List.rec (motive := fun _ => Nat → List Nat) (fun _ => []) (fun _ _ ih j => match memB j fr with
    | true => ih (Nat.succ j)
    | false => j :: ih (Nat.succ j)) l
def ztx (l : List Oper) : List Nat := ztC l 0 [] ++ zvg (ztC l 0 []) l 0
def runS (P : Program) (call : zcN) : Nat → Array Oper → FS → Option FS
  | 0, _, _ => none
  | n + 1, ops, fs => match zjq P ops (zgY ops ops.toList ops.toList 0 []) with
    | true => match zvj (zcJ ops (zgY ops ops.toList ops.toList 0 [])) ops.toList ops.toList 0 with
      | none => match zf9 (zcJ ops (zgY ops ops.toList ops.toList 0 [])) with
        | true => zrS P call (zcJ ops (zgY ops ops.toList ops.toList 0 [])) (zcJ ops (zgY ops ops.toList ops.toList 0 [])).toList 0 fs
        | false => none
      | some (j, i) => match zkW (zcJ ops (zgY ops ops.toList ops.toList 0 [])) j i with
        | true => match runSP P (runS P call n) (za2 (zcJ ops (zgY ops ops.toList ops.toList 0 [])) j i) fs with
          | some a => match runSP P (runS P call n) (za2 (zcJ ops (zgY ops ops.toList ops.toList 0 [])) i j) fs with
            | some b => match zif b a with
              | true => some a
              | false => none
            | none => none
          | none => none
        | false => none
    | false => none
where
  runSP (P : Program) (run : Array Oper → FS → Option FS) (ops : Array Oper) (fs : FS) : Option FS := match zfl ops (zvb ops) with
    | true => run (zhK ops (zvb ops)) fs
    | false => none
def ztK (P : Program) (call : zcN) (ops : Array Oper) (fs : FS) : Option FS :=
  match runS P call 1 ops fs with
  | some g => some g
  | none => match zfl ops (ztx ops.toList) with
    | true => runS P call 6 (zhK ops (ztx ops.toList)) fs
    | false => none
section
variable {P : Program} {call : zcN} {l0 : Tri Nat} {n0 : Nat} {h0 : Tri (Nat × VObj)} {m0 : Nat}
def zbc (l0 : Tri Nat) (n0 : Nat) (h0 : Tri (Nat × VObj)) (m0 : Nat) (fs : FS) : Prop := FWf fs l0 n0 h0 m0 ∧ ∃ S, FOk fs S
theorem zj9 (hcall : zbQ P call) {ops : Array Oper} : ∀ {l : List Oper} {j : Nat} {fs fs' : FS}, zbc l0 n0 h0 m0 fs → zrS P call ops l j fs = some fs' → zbc l0 n0 h0 m0 fs'
  | [], j, fs, fs', hn, h => by obtain rfl := inj1 (show some fs = some fs' from h); exact hn
  | o :: r, j, fs, fs', hn, h => by
    have h' : (match opDF P call ops (total ops j) o fs with
      | some fs1 => zrS P call ops r (Nat.succ j) fs1
      | none => none) = some fs' := h
    split at h'
    case h_2 => cases h'
    rename_i fs1 h1
    refine zj9 hcall ?_ h'
    obtain ⟨hw, S, hs⟩ := hn
    have h2 := zrK hcall hw hs h1 (t := true = false ∨ total ops j = true) (fun e => .inr e)
    simp only [opWp] at h2
    obtain ⟨_, h2⟩ := h2
    split at h2
    · obtain ⟨S', h3, _⟩ := zi1 h2
      exact ⟨h3.1, S', h3.2⟩
    · exact ⟨h2.1, _, h2.2⟩
    · exact h2.elim
def zmy (P : Program) (ops : Array Oper) (l0 : Tri Nat) (n0 : Nat) (h0 : Tri (Nat × VObj)) (m0 : Nat) (fs fs' : FS) : Prop := zbc l0 n0 h0 m0 fs → zbc l0 n0 h0 m0 fs' ∧ ∀ S, FOk fs S → ∀ Q : St → Prop, (∀ S', FWf fs' l0 n0 h0 m0 → FOk fs' S' → Q S') → ziL P ops Q S
theorem zmy.perm {ops : Array Oper} {p : List Nat} {fs fs' : FS} (hp : zfl ops p = true) (h : zmy P (zhK ops p) l0 n0 h0 m0 fs fs') : zmy P ops l0 n0 h0 m0 fs fs' := fun hn => ⟨(h hn).1, fun S hs Q hQ => zfv p hp ((h hn).2 S hs Q hQ)⟩
theorem zll (hcall : zbQ P call) : ∀ (n : Nat) {ops : Array Oper} {fs fs' : FS}, runS P call n ops fs = some fs' → zmy P ops l0 n0 h0 m0 fs fs'
  | 0, ops, fs, fs', h => by cases (show (none : Option FS) = some fs' from h)
  | n + 1, ops, fs, fs', h => by
    simp only [runS] at h
    generalize hes : zgY ops ops.toList ops.toList 0 [] = es at h
    split at h
    case h_2 => cases h
    rename_i he
    split at h
    · split at h
      case h_2 => cases h
      rename_i hd
      exact fun hn => ⟨zj9 hcall hn h, fun S hs Q hQ => ze0 es he (zjA hd rfl (zks hcall hn.1 hs h hQ))⟩
    · rename_i j i _
      split at h
      case h_2 => cases h
      rename_i hsp
      split at h
      case h_2 => cases h
      rename_i a ha
      split at h
      case h_2 => cases h
      rename_i b hb
      split at h
      case h_2 => cases h
      rename_i hsm
      obtain rfl := inj1 h
      unfold runS.runSP at ha hb
      split at ha
      case h_2 => cases ha
      rename_i pa
      split at hb
      case h_2 => cases hb
      rename_i pb
      have ra := zmy.perm (l0 := l0) (n0 := n0) (h0 := h0) (m0 := m0) pa (zll hcall n ha)
      have rb := zmy.perm (l0 := l0) (n0 := n0) (h0 := h0) (m0 := m0) pb (zll hcall n hb)
      exact fun hn => ⟨(ra hn).1, fun S hs Q hQ => ze0 es he (zjW j i hsp ((ra hn).2 S hs Q hQ) ((rb hn).2 S hs Q (fun S' w' s' => hQ S' (ra hn).1.1 (zkU hsm s'))))⟩
theorem zoh (hcall : zbQ P call) {ops : Array Oper} {fs fs' : FS} (h : ztK P call ops fs = some fs') : zmy P ops l0 n0 h0 m0 fs fs' := by
  unfold ztK at h
  split at h
  · rename_i g hg
    obtain rfl := inj1 h
    exact zll hcall 1 hg
  · split at h
    case h_2 => cases h
    rename_i hp
    exact zmy.perm hp (zll hcall 6 h)
end
abbrev zfE := Array Bool × FS
def ztj (n : zfE) : List zfE → Option (List zfE)
  | [] => some [n]
  | x :: xs => match n.1.toList == x.1.toList with
    | true => match zif n.2 x.2 with
      | true => some (x :: xs)
      | false => none
    | false => (ztj n xs).map (x :: ·)
def zoC (P : Program) (call : zcN) (ops : Array Oper) (x : zfE) : List Nat → List zfE → Option (List zfE)
  | [], acc => some acc
  | m :: ms, acc => match ops[m]? with
    | some o => match opF P call ops o x.2 with
      | some S1 => match ztj (x.1.setIfInBounds m true, S1) acc with
        | some acc' => zoC P call ops x ms acc'
        | none => none
      | none => none
    | none => none
def zoj (P : Program) (call : zcN) (ops : Array Oper) : List zfE → List zfE → Option (List zfE)
  | [], acc => some acc
  | x :: xs, acc => match Region.ready .any ops x.1 with
    | [] => none
    | m :: ms => match zoC P call ops x (m :: ms) acc with
      | some acc' => zoj P call ops xs acc'
      | none => none
def zfu (P : Program) (call : zcN) (ops : Array Oper) : Nat → List zfE → Option FS
  | 0, [x] => match Region.ready .any ops x.1 with
    | [] => some x.2
    | _ => none
  | 0, _ => none
  | n + 1, l => match zoj P call ops l [] with
    | some l' => zfu P call ops n l'
    | none => none
section
variable {P : Program} {call : zcN} {fs fs' : FS} {S : St} {l0 : Tri Nat} {n0 : Nat} {h0 : Tri (Nat × VObj)} {m0 : Nat} {o : Oper} {ops : Array Oper}
theorem zor {n : zfE} : ∀ {l l' : List zfE}, ztj n l = some l' → (∀ y ∈ l, zbc l0 n0 h0 m0 y.2) → zbc l0 n0 h0 m0 n.2 → (∃ y ∈ l', y.1 = n.1 ∧ ∀ S, FOk n.2 S → FOk y.2 S) ∧ (∀ y ∈ l, y ∈ l') ∧ ∀ y ∈ l', zbc l0 n0 h0 m0 y.2
  | [], l', h, hl, hn => by obtain rfl := inj1 h; exact ⟨⟨n, by simp, rfl, fun S hs => hs⟩, fun y hy => (by cases hy), fun y hy => by rw [List.mem_singleton.1 hy]; exact hn⟩
  | x :: xs, l', h, hl, hn => by
    simp only [ztj] at h
    split at h
    · rename_i he
      split at h
      case h_2 => cases h
      rename_i hsm
      obtain rfl := inj1 h
      refine ⟨⟨x, by simp, ?_, fun S hs => zkU hsm hs⟩, fun y hy => hy, hl⟩
      exact (Array.toList_inj.1 (by simpa using he)).symm
    · simp only [Option.map_eq_some_iff] at h
      obtain ⟨l1, h1, rfl⟩ := h
      obtain ⟨⟨y, h2, h3⟩, h4, h5⟩ := zor h1 (fun y hy => hl y (List.mem_cons_of_mem _ hy)) hn
      refine ⟨⟨y, List.mem_cons_of_mem _ h2, h3⟩, fun z hz => ?_, fun z hz => ?_⟩
      · rcases List.mem_cons.1 hz with rfl | hz
        · simp
        · exact List.mem_cons_of_mem _ (h4 z hz)
      · rcases List.mem_cons.1 hz with rfl | hz
        · exact hl _ (by simp)
        · exact h5 z hz
theorem znF (hcall : zbQ P call) (hn : zbc l0 n0 h0 m0 fs) (h : opF P call ops o fs = some fs') : zbc l0 n0 h0 m0 fs' := by
  obtain ⟨hw, S, hs⟩ := hn
  have h2 := zol hcall hw hs h 0
  simp only [zY, opWp] at h2
  obtain ⟨_, h2⟩ := h2
  split at h2
  · obtain ⟨S', h3, _⟩ := zi1 h2
    exact ⟨h3.1, S', h3.2⟩
  · exact ⟨h2.1, _, h2.2⟩
  · exact h2.elim
theorem zmq (hcall : zbQ P call) {x : zfE} (hx : zbc l0 n0 h0 m0 x.2) : ∀ {ms : List Nat} {acc l' : List zfE}, zoC P call ops x ms acc = some l' → (∀ y ∈ acc, zbc l0 n0 h0 m0 y.2) → (∀ m ∈ ms, ∃ o S1 y, ops[m]? = some o ∧ opF P call ops o x.2 = some S1 ∧ y ∈ l' ∧ y.1 = x.1.setIfInBounds m true ∧ ∀ S, FOk S1 S → FOk y.2 S) ∧ (∀ y ∈ acc, y ∈ l') ∧ ∀ y ∈ l', zbc l0 n0 h0 m0 y.2
  | [], acc, l', h, ha => by obtain rfl := inj1 h; exact ⟨fun m hm => absurd hm (by simp), fun y hy => hy, ha⟩
  | m :: ms, acc, l', h, ha => by
    simp only [zoC] at h
    split at h
    case h_2 => cases h
    rename_i o ho
    split at h
    case h_2 => cases h
    rename_i S1 hS
    split at h
    case h_2 => cases h
    rename_i acc' hp
    obtain ⟨⟨y, h1, h2, h3⟩, h4, h7⟩ := zor hp ha (znF hcall hx hS)
    obtain ⟨h5, h6, h8⟩ := zmq hcall hx h h7
    refine ⟨fun k hk => ?_, fun y hy => h6 y (h4 y hy), h8⟩
    rcases List.mem_cons.1 hk with rfl | hk
    · exact ⟨o, S1, y, ho, hS, h6 y h1, h2, h3⟩
    · exact h5 k hk
theorem ziG (hcall : zbQ P call) : ∀ {l acc l' : List zfE}, zoj P call ops l acc = some l' → (∀ y ∈ l, zbc l0 n0 h0 m0 y.2) → (∀ y ∈ acc, zbc l0 n0 h0 m0 y.2) → (∀ x ∈ l, Region.ready .any ops x.1 ≠ [] ∧ ∀ m ∈ Region.ready .any ops x.1, ∃ o S1 y, ops[m]? = some o ∧ opF P call ops o x.2 = some S1 ∧ y ∈ l' ∧ y.1 = x.1.setIfInBounds m true ∧ ∀ S, FOk S1 S → FOk y.2 S) ∧ (∀ y ∈ acc, y ∈ l') ∧ ∀ y ∈ l', zbc l0 n0 h0 m0 y.2
  | [], acc, l', h, hl, ha => by obtain rfl := inj1 h; exact ⟨fun m hm => absurd hm (by simp), fun y hy => hy, ha⟩
  | x :: xs, acc, l', h, hl, ha => by
    simp only [zoj] at h
    split at h
    case h_1 => cases h
    rename_i m ms hr
    split at h
    case h_2 => cases h
    rename_i acc' hn
    obtain ⟨h1, h2, h5⟩ := zmq hcall (hl x (by simp)) hn ha
    obtain ⟨h3, h4, h6⟩ := ziG hcall h (fun y hy => hl y (List.mem_cons_of_mem _ hy)) h5
    refine ⟨fun z hz => ?_, fun y hy => h4 y (h2 y hy), h6⟩
    rcases List.mem_cons.1 hz with rfl | hz
    · rw [hr]
      refine ⟨by simp, fun k hk => ?_⟩
      obtain ⟨o, S1, y, e1, e2, e3, e4⟩ := h1 k hk
      exact ⟨o, S1, y, e1, e2, h4 y e3, e4⟩
    · exact h3 z hz
theorem zkf (hcall : zbQ P call) {Q : St → Prop} (hQ : ∀ S', FWf fs' l0 n0 h0 m0 → FOk fs' S' → Q S') : ∀ {n : Nat} {l : List zfE}, zfu P call ops n l = some fs' → (∀ y ∈ l, zbc l0 n0 h0 m0 y.2) → ∀ x ∈ l, ∀ S, FOk x.2 S → zca P ops Q n x.1 S
  | 0, l, h, hl, x, hx, S, hs => by
    unfold zfu at h
    split at h
    · rename_i n0 y
      split at h
      · rename_i hr
        obtain rfl := inj1 h
        obtain rfl := List.mem_singleton.1 hx
        exact zfA hr (hQ S (hl _ hx).1 hs)
      · cases h
    · cases h
    · contradiction
  | n + 1, l, h, hl, x, hx, S, hs => by
    simp only [zfu] at h
    split at h
    case h_2 => cases h
    rename_i l' hl'
    obtain ⟨h0, _, h9⟩ := ziG hcall hl' hl (fun y hy => by cases hy)
    obtain ⟨h1, h2⟩ := h0 x hx
    refine zil rfl h1 (fun m hm => ?_)
    obtain ⟨o, S1, y, e1, e2, e3, e4, e5⟩ := h2 m hm
    refine ⟨o, e1, ?_⟩
    have h3 := zol hcall (hl x hx).1 hs e2 0
    refine zjj (fun S2 hS => ?_) h3
    rw [← e4]
    exact zkf hcall hQ h h9 y e3 S2 (e5 S2 hS.2)
def zfa (P : Program) (call : zcN) (ops : Array Oper) (fs : FS) : Option FS :=
  match decide (P.follows .mixedOrders = true) with
  | true => match ztK P call ops fs with
    | some g => some g
    | none => zfu P call ops.toList.toArray ops.toList.length [(Array.replicate ops.toList.length false, fs)]
  | false => none
theorem zmV (hcall : zbQ P call) {k : Nat} {Q : Exit → St → Prop} (hw : FWf fs l0 n0 h0 m0) (hs : FOk fs S) (h : zfa P call ops fs = some fs') (hQ : ∀ S', FWf fs' l0 n0 h0 m0 → FOk fs' S' → Q .normal S') : zaG P (.region k ops true) Q S := by
  unfold zfa at h
  split at h
  case h_2 => cases h
  rename_i hm
  refine zgP (of_decide_eq_true hm) ?_
  split at h
  · rename_i g hg
    obtain rfl := inj1 h
    exact ((zoh hcall hg) ⟨hw, S, hs⟩).2 S hs _ hQ
  · exact ziY rfl (zkf hcall hQ h (fun y hy => by rw [List.mem_singleton.1 hy]; exact ⟨hw, S, hs⟩) _ (List.mem_singleton.2 rfl) S hs)
end
end
end Go.Proofs.YtppnccjeggnllaaGreatVm

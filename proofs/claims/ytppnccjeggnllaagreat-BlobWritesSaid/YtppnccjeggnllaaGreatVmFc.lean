import Derived.Test.YtppnccjeggnllaaGreatVmFp
namespace Go.Proofs.YtppnccjeggnllaaGreatVm
open Go Go.RowKit
set_option linter.all false
noncomputable section
abbrev zcN := FuncId → List AV → FS → Option (AV × FS)
def zkP (ev : Operand → Option AV) (op : Op) : Option (FuncId × List AV) :=
 match op with
 | .call c => match c.callee with
  | .value fo => match ev fo, evs ev c.args.toList with
   | some (.fnc f caps), some A => some (f, A ++ caps)
   | some (.bnd f q cs), some A => some (f, cs.take q ++ (A ++ cs.drop q))
   | some (.pv (.fn f)), some A => some (f, A)
   | _, _ => none
  | _ => none
 | _ => none
def zqf (ops : Array Oper) (tg : Nat → Option AV) (o : Oper) : Option Bool :=
 match o.guard with
 | none => some true
 | some (j, want) => match (ops[j]?).bind (·.dst) with
  | some t => match tg t with
   | some (.pv (.bool b)) => some (b == want)
   | some (.tup []) => some false
   | _ => none
  | none => none
def lowB (m : Nat) : List Nat → List Nat
 | [] => []
 | x :: xs => bif Nat.blt x m then x :: lowB m xs else lowB m xs
theorem zdW {m x : Nat} : ∀ {l : List Nat}, x ∈ lowB m l ↔ x ∈ l ∧ x < m
 | [] => by simp [lowB]
 | y :: ys => by
  simp only [lowB, zeC]
  by_cases h : y < m
  ·simp only [h, decide_true, cond_true, List.mem_cons, zdW (l := ys)]
   constructor
   ·rintro (rfl | ⟨h1, h2⟩)
    ·exact ⟨.inl rfl, h⟩
    ·exact ⟨.inr h1, h2⟩
   ·rintro ⟨rfl | h1, h2⟩
    ·exact .inl rfl
    ·exact .inr ⟨h1, h2⟩
  ·simp only [h, decide_false, cond_false, List.mem_cons, zdW (l := ys)]
   constructor
   ·rintro ⟨h1, h2⟩; exact ⟨.inr h1, h2⟩
   ·rintro ⟨rfl | h1, h2⟩
    ·exact absurd h2 h
    ·exact ⟨h1, h2⟩
def dstF (fs : FS) (o : Oper) : Bool := match o.dst with
 | some d => Nat.blt d fs.nt
 | none => true
def zt2 (P : Program) (call : zcN) (fs : FS) (f : FuncId) (A : List AV) (dst : Option Tmp) : Option FS :=
 match zdJ P f && zqY fs.nx A with
 | true => match call f A fs with
  | some (out, g) => putT { T := fs.T, H := g.H, nx := g.nx, last := g.last, now := g.now, mv := lowB fs.nx g.mv ++ fs.mv, c := fs.c, wr := minW g.wr fs.wr } dst out
  | none => none
 | false => none
def zmj (P : Program) (o : Oper) (fs : FS) : Option FS :=
 match zny P fs.ev fs.hg fs.nx o.op with
 | some (true, v, ob) => putR fs o.dst v (some ob)
 | _ => match gF P fs.ev fs.hg o.op with
  | some v => putT fs o.dst v
  | none => match wF P fs.ev fs.hg o.op with
   | some (false, v, id, o', k) => putW fs o.dst v id o' k
   | _ => none
def zpF (P : Program) (call : zcN) (o : Oper) (fs : FS) : Option FS :=
 match zcR P fs.ev fs.hg fs.nx o.op o.type with
 | some (_, v, new) => match zfj P fs.ev fs.hg o.op with
  | true => putR fs o.dst v new
  | false => zmj P o fs
 | none => match wF P fs.ev fs.hg o.op with
  | some (_, v, id, o', k) => putW fs o.dst v id o' k
  | none => match zez P fs.ev [] o.op with
   | some _ => none
   | none => match zkP fs.ev o.op with
    | some (f, A) => zt2 P call fs f A o.dst
    | none => zmj P o fs
def zr3 (P : Program) (call : zcN) (o : Oper) (fs : FS) : Option FS := match zs3 o.op P fs with
 | some v => putT fs o.dst v
 | none => match zu1 o.op P fs with
  | some (id, o') => putW fs o.dst none id o' none
  | none => zpF P call o fs
def zbF (fs : FS) : List VObj := (List.range fs.nx).map fun i => (fs.hg i).getD (.box [])
def zbQ (P : Program) (call : zcN) : Prop := ∀ f A fs out g, (∀ i, i < fs.nx ↔ ∃ p, fs.H.get (Nat.succ i) = some p) → (∀ i p, fs.H.get (Nat.succ i) = some p → zbC fs.nx p.2 = true ∧ p.1 ≤ fs.now) → (∀ i, zcQ fs.last i ≤ fs.now) → zau fs.nx A = true → call f A fs = some (out, g) →
 FWf g fs.last fs.now fs.H fs.nx ∧ zao g.nx out = true ∧ Ok P f A (zbF fs) out (zbF g) (lowB fs.nx g.mv)
section
variable {P : Program} {call : zcN} {fs fs' : FS} {S : St} {l0 : Tri Nat} {n0 : Nat} {h0 : Tri (Nat × VObj)} {m0 : Nat} {o : Oper}
theorem evF (hs : FOk fs S) : fs.ev = S.ev := by
 funext x
 cases x <;> first | rfl | exact (hs.t _).symm
theorem hgF (hs : FOk fs S) : fs.hg = hget S.H := by funext i; exact (hs.h i).symm
theorem zcb (hd : ∀ i, i < fs.nx ↔ ∃ p, fs.H.get (Nat.succ i) = some p) (i : Nat) : (zbF fs)[i]? = fs.hg i := by
 unfold zbF
 rw [List.getElem?_map]
 by_cases h : i < fs.nx
 ·rw [List.getElem?_range h]
  obtain ⟨p, hp⟩ := (hd i).1 h
  simp [FS.hg, hp]
 ·have hn : fs.H.get (Nat.succ i) = none := by
   cases hq : fs.H.get (Nat.succ i) with
   | none => rfl
   | some p => exact absurd ((hd i).2 ⟨p, hq⟩) h
  have h2 : (List.range fs.nx)[i]? = none := List.getElem?_eq_none (by simpa using h)
  rw [h2]
  simp [FS.hg, hn]
theorem zaR : (zbF fs).length = fs.nx := by simp [zbF]
theorem zdQ (n : Nat) : rho (List.range n) n = fun i => i := by
 funext i
 unfold rho
 split
 ·rename_i h
  rw [List.length_range] at h
  simp [List.getD_eq_getElem?_getD, List.getElem?_range h]
 ·rename_i h
  rw [List.length_range] at h ⊢
  omega
theorem znf (o : VObj) : renO (fun i => i) o = o := by cases o <;> simp [renO, zdT]
theorem zgv (l : List VObj) : l.map (renO fun i => i) = l := by
 have : (renO fun i => i) = fun o => o := funext znf
 rw [this]; simp
theorem ziF : ∀ {is : List Nat} {os : List VObj} {H : Heap} {i : Nat}, i ∉ is → hget (zgD H is os) i = hget H i
 | [], _, _, _, _ => by simp [zgD]
 | _ :: _, [], _, _, _ => by simp [zgD]
 | k :: is, o :: os, H, i, h => by
  simp only [List.mem_cons, not_or] at h
  simp only [zgD]
  rw [ziF h.2, zbB, if_neg h.1]
theorem zof : ∀ {is : List Nat} {os : List VObj} {H : Heap} {i j : Nat} {o : VObj}, is.Nodup → is[j]? = some i → os[j]? = some o → (∃ y, hget H i = some y) → hget (zgD H is os) i = some o
 | [], _, _, _, _, _, _, h, _, _ => by simp at h
 | _ :: _, [], _, _, _, _, _, _, h, _ => by simp at h
 | k :: is, x :: os, H, i, 0, o, hn, h1, h2, h3 => by
  simp at h1 h2; subst h1; subst h2
  simp only [zgD]
  rw [ziF (List.nodup_cons.1 hn).1, zbB, if_pos rfl]
  obtain ⟨y, hy⟩ := h3
  rw [hy]; rfl
 | k :: is, x :: os, H, i, j + 1, o, hn, h1, h2, h3 => by
  simp only [zgD]
  refine zof (j := j) (List.nodup_cons.1 hn).2 (by simpa using h1) (by simpa using h2) ?_
  obtain ⟨y, hy⟩ := h3
  rw [zbB]
  split
  ·rename_i e; subst e; exact ⟨_, by rw [hy]; rfl⟩
  ·exact ⟨y, hy⟩
theorem zm4 {ks : List Nat} {T : Tm} {t : Nat} : tget (zeh ks T) t = (tget T t).map (purge ks) := by
 cases ks with
 | nil => simp only [zeh]; cases tget T t <;> simp [ziV]
 | cons k ks => exact zdu
theorem zs6 (hcall : zbQ P call) (hw : FWf fs l0 n0 h0 m0) (hs : FOk fs S) {f : FuncId} {A : List AV} {dst : Option Tmp} (h : zt2 P call fs f A dst = some fs') : zdJ P f = true ∧ zt0 P S f A dst fun S' => FWf fs' l0 n0 h0 m0 ∧ FOk fs' S' := by
 unfold zt2 at h
 split at h
 case h_2 => cases h
 rename_i hb
 simp only [Bool.and_eq_true] at hb
 rw [zit] at hb
 split at h
 case h_2 => cases h
 rename_i out g hc
 obtain ⟨g1, g3, g4⟩ := hcall f A fs out g hw.dense hw.bh hw.la hb.2 hc
 have g2 : g.lo = fs.nx := g1.lq
 refine ⟨hb.1, List.range fs.nx, A, zbF fs, out, zbF g, lowB fs.nx g.mv, ?_, ?_⟩
 ·refine ⟨g4, by rw [hs.nx, zdQ, zdT], by simpa using hb.2, List.nodup_range, fun x hx => by rw [hs.nx]; simpa using hx, by simp [zaR], by rw [zaR, zaR, ← g2]; exact g1.lo, fun i ob hi => ?_⟩
  rw [zcb hw.dense] at hi
  have hlt : i < fs.nx := by
   refine (hw.dense i).2 ?_
   unfold FS.hg at hi
   split at hi
   ·exact ⟨_, by assumption⟩
   ·cases hi
  refine ⟨?_, ?_⟩
  ·rw [hs.nx, zdQ, znf, List.getD_eq_getElem?_getD, List.getElem?_range hlt, Option.getD_some, hs.h, hi]
  ·unfold FS.hg at hi
   split at hi
   ·rename_i p hp
    obtain rfl := inj1 hi
    rw [zgQ, List.length_range]
    exact zgz _ (hw.bh i p hp).1
   ·cases hi
 ·have hnx : fs.nx ≤ g.nx := by rw [← g2]; exact g1.lo
  have hlast : ∀ {τ i : Nat}, τ ≤ fs.now → i < fs.nx → (memB i (lowB fs.nx g.mv) || zcZ fs.last τ i) = zcZ g.last τ i := fun {τ i} hτ hi => by
   rcases g1.mvr i (by rw [g2]; exact hi) with ⟨h1, h2⟩ | ⟨h1, h2⟩
   ·have h3 : memB i (lowB fs.nx g.mv) = true := zdi.2 (zdW.2 ⟨h1, hi⟩)
    rw [h3]
    unfold zcZ
    rw [zeC]
    simp; omega
   ·have h3 : memB i (lowB fs.nx g.mv) = false := by
     cases hm : memB i (lowB fs.nx g.mv)
     ·rfl
     ·exact absurd (zdW.1 (zdi.1 hm)).1 h1
    rw [h3]
    unfold zcZ
    rw [h2]; rfl
  have w1 : FWf { T := fs.T, H := g.H, nx := g.nx, last := g.last, now := g.now, mv := lowB fs.nx g.mv ++ fs.mv, c := fs.c, wr := minW g.wr fs.wr } l0 n0 h0 m0 := by
   refine ⟨g1.dense, fun k p hk => ⟨zfR hnx (hw.bt k p hk).1, Nat.le_trans (hw.bt k p hk).2 g1.ge⟩, g1.bh, g1.la, Nat.le_trans hw.ge g1.ge, fun i hi => ?_, Nat.le_trans hw.lo hnx, fun i h1 h2 => ?_, hw.lq⟩
   have hi' : i < fs.nx := Nat.lt_of_lt_of_le hi hw.lo
   rcases g1.mvr i (by rw [g2]; exact hi') with ⟨h1, h2⟩ | ⟨h1, h2⟩
   ·exact .inl ⟨List.mem_append_left _ (zdW.2 ⟨h1, hi'⟩), by have := hw.ge; show n0 < zcQ g.last i; omega⟩
   ·rcases hw.mvr i hi with ⟨h3, h4⟩ | ⟨h3, h4⟩
    ·exact .inl ⟨List.mem_append_right _ h3, by rw [h2]; exact h4⟩
    ·exact .inr ⟨fun hm => by rcases List.mem_append.1 hm with hm | hm; exact h1 (zdW.1 hm).1; exact h3 hm, by rw [h2]; exact h4⟩
   ·have h1' : i < fs.lo := h1
    have h2' : i < minW g.wr fs.wr := h2
    have m1 := zn6 g.wr fs.wr
    have m2 := zox g.wr fs.wr
    have := hw.lo
    show g.H.get (Nat.succ i) = _
    rw [g1.un i (by rw [g2]; omega) (by omega)]
    exact hw.un i h1' (by omega)
  have w2 : FOk { T := fs.T, H := g.H, nx := g.nx, last := g.last, now := g.now, mv := lowB fs.nx g.mv ++ fs.mv, c := fs.c, wr := minW g.wr fs.wr }
    { S with T := zeh (lowB fs.nx g.mv) S.T, H := (S.afterCall (List.range fs.nx) (zbF fs).length out (zbF g) (lowB fs.nx g.mv) dst).H, nx := g.nx, mv := lowB fs.nx g.mv ++ S.mv } := by
   refine ⟨fun k => ?_, fun i => ?_, rfl, by rw [hs.mv], hs.nt, hs.lo⟩
   ·show tget (zeh _ S.T) k = _
    rw [zm4, hs.t k]
    unfold FS.tg
    simp only
    cases hk : fs.T.get (Nat.succ k) with
    | none => rfl
    | some p =>
     simp only [Option.map_some]
     rw [zib, zib, zhz]
     exact congrArg some (zlm (fun i hi => hlast (hw.bt k p hk).2 hi) (hw.bt k p hk).1)
   ·show hget (idx S.nx (((zbF g).drop (zbF fs).length).map (renO (rho (List.range fs.nx) S.nx))) ++ zgD (zho ((lowB fs.nx g.mv).map (rho (List.range fs.nx) S.nx)) S.H) (List.range fs.nx) (((zbF g).take (zbF fs).length).map (renO (rho (List.range fs.nx) S.nx)))) i = g.hg i
    rw [hs.nx, zdQ, zgv, zgv, zaR, zb8, zbG, ← zcb g1.dense i]
    by_cases hi : fs.nx ≤ i
    ·rw [if_pos hi, List.getElem?_drop, show fs.nx + (i - fs.nx) = i by omega]
     cases hq : (zbF g)[i]? with
     | some x => rfl
     | none =>
      simp only
      rw [ziF (by simpa using hi), zgs, hs.h i, ← zcb hw.dense i, List.getElem?_eq_none (by rw [zaR]; exact hi)]
      rfl
    ·rw [if_neg hi]
     simp only
     have hlt : i < fs.nx := by omega
     have hx : i < (zbF g).length := by rw [zaR]; omega
     obtain ⟨y, hy⟩ : ∃ y, hget S.H i = some y := by
      rw [hs.h i, ← zcb hw.dense i]
      exact ⟨_, List.getElem?_eq_getElem (by rw [zaR]; exact hlt)⟩
     rw [zof (j := i) (o := (zbF g)[i]) List.nodup_range (by rw [List.getElem?_range hlt]) (by rw [List.getElem?_take, if_pos hlt, List.getElem?_eq_getElem hx]) ⟨zdN _ y, by rw [zgs, hy]; rfl⟩, List.getElem?_eq_getElem hx]
  obtain ⟨q1, q2⟩ := zdc w1 w2 h
  refine ⟨q1, ?_⟩
  have e : S.afterCall (List.range fs.nx) (zbF fs).length out (zbF g) (lowB fs.nx g.mv) dst = { S with T := tput (zeh (lowB fs.nx g.mv) S.T) dst out, H := (S.afterCall (List.range fs.nx) (zbF fs).length out (zbF g) (lowB fs.nx g.mv) dst).H, nx := g.nx, mv := lowB fs.nx g.mv ++ S.mv } := by
   unfold St.afterCall
   simp only [hs.nx, zdQ, zlI, List.map_id', zaR]
   congr 1
   omega
  rw [e]
  exact q2
theorem zpX (hw : FWf fs l0 n0 h0 m0) (hs : FOk fs S) (h : zmj P o fs = some fs') : runG P True S o fun S' => FWf fs' l0 n0 h0 m0 ∧ FOk fs' S' := by
 unfold zmj at h
 rw [evF hs, hgF hs, ← hs.nx, ← zoM] at h
 split at h
 ·rename_i v ob he
  exact .inl ⟨_, v, ob, he, trivial, rfl, zli hw hs h⟩
 ·split at h
  ·rename_i v hg
   have h1 := zve hg
   refine .inr ⟨_, _, _, _, h1, trivial, rfl, ?_⟩
   exact zdc hw hs h
  ·split at h
   ·rename_i v id o' k hwf
    exact .inr ⟨_, _, _, _, zt4 hwf, trivial, rfl, zhD hw hs h⟩
   ·cases h
theorem zj0 {ev : Operand → Option AV} {H : Heap} {op : Op} (h : zez P ev [] op = none) (hc : zkP ev op ≠ none) : zez P ev H op = none := by
 unfold zkP at hc
 split at hc
 case h_2 => exact absurd rfl hc
 rename_i c
 split at hc
 case h_2 => exact absurd rfl hc
 rename_i fo hf
 simp only [zez, hf]
theorem zq2 (hcall : zbQ P call) (hw : FWf fs l0 n0 h0 m0) (hs : FOk fs S) (h : zpF P call o fs = some fs') : zg8 P True S o fun S' => FWf fs' l0 n0 h0 m0 ∧ FOk fs' S' := by
 have hG : zmj P o fs = some fs' → zg8 P True S o fun S' => FWf fs' l0 n0 h0 m0 ∧ FOk fs' S' := fun h => .inr (.inr (.inr (zpX hw hs h)))
 unfold zpF at h
 rw [evF hs, hgF hs, ← hs.nx, ← zg4, ← zjr] at h
 split at h
 ·rename_i c v new he
  split at h
  ·rename_i hb
   refine .inl ?_
   unfold zcj
   rw [he]
   exact ⟨zkR he hb, zli hw hs h⟩
  ·exact hG h
 ·rename_i he
  split at h
  ·rename_i b v id o' k hwf
   have hk := zt4 hwf
   cases b with
   | true =>
    obtain ⟨c, h1, h2⟩ := hk
    refine .inl ?_
    unfold zcj
    rw [he, h1]
    exact ⟨trivial, h2, zhD hw hs h⟩
   | false => exact .inr (.inr (.inr (.inr ⟨_, _, _, _, hk, trivial, rfl, zhD hw hs h⟩)))
  ·split at h
   case h_1 => cases h
   rename_i hwn
   split at h
   ·rename_i f A hc
    obtain ⟨h1, h2⟩ := zs6 hcall hw hs h
    refine .inl ?_
    unfold zcj
    rw [he, zj0 hwn (by rw [hc]; simp), show callee S o.op = some (f, A) from hc]
    exact ⟨h1, .inr ⟨trivial, h2⟩⟩
   ·exact hG h
theorem zkq (hw : FWf fs l0 n0 h0 m0) (hs : FOk fs S) {v : AV} (h : zs3 o.op P fs = some v) (hp : putT fs o.dst v = some fs') {tot : Prop} : zg8 P tot S o fun S' => FWf fs' l0 n0 h0 m0 ∧ FOk fs' S' := by
 obtain ⟨c, h1, h2⟩ := zsf h o.type
 rw [evF hs, hgF hs] at h2
 rw [evF hs, hgF hs, ← hs.nx, ← zg4] at h1
 rw [← zjr] at h2
 refine .inl ?_
 unfold zcj
 rw [h1]
 exact ⟨zkR h1 h2, zli (new := none) hw hs hp⟩
theorem zn5 (hcall : zbQ P call) (hw : FWf fs l0 n0 h0 m0) (hs : FOk fs S) (h : zr3 P call o fs = some fs') : zg8 P True S o fun S' => FWf fs' l0 n0 h0 m0 ∧ FOk fs' S' := by
 unfold zr3 at h
 split at h
 ·rename_i v hv
  exact zkq hw hs hv h
 ·split at h
  ·rename_i id o' hv
   obtain ⟨h1, h2⟩ := zte hv
   have h1' := h1 o.type
   rw [evF hs, hgF hs] at h2
   rw [evF hs, hgF hs, ← hs.nx, ← zg4] at h1'
   obtain ⟨c, e1, e2⟩ := zt4 h2
   refine .inl ?_
   unfold zcj
   rw [h1', e1]
   exact ⟨trivial, e2, zhD hw hs h⟩
  ·exact zq2 hcall hw hs h
end
def opF (P : Program) (call : zcN) (ops : Array Oper) (o : Oper) (fs : FS) : Option FS :=
 match dstF fs o with
 | true => match zqf ops fs.tg o with
  | some true => zr3 P call o fs
  | some false => putT fs o.dst (.tup [])
  | none => none
 | false => none
def zpr (P : Program) (o : Oper) (fs : FS) : Option FS :=
 match o.op with
 | .convert s s' x => match o.dst, o.guard with
  | some d, none => match Nat.beq s s' && Nat.blt d fs.nt with
   | true => match P.underlying s, fs.ev x with
    | some (.slice e), some (.ref id 1 0 n) => match P.underlying e, fs.hg id with
     | some (.int .u8), some (.row _ 1 cs) => match Nat.beq cs.length n && Nat.blt 0 n && Nat.ble fs.lo id with
      | true => putW fs (some d) (some (.pv (.slc n false cs))) id (.box []) (some id)
      | false => none
     | _, _ => none
    | _, _ => none
   | false => none
  | _, _ => none
 | _ => none
def zpt (P : Program) (o : Oper) (fs : FS) : Option FS := match zuC o.op with
 | true => zpr P o fs
 | false => none
def opsF (P : Program) (call : zcN) (ops : Array Oper) (l : List Oper) : FS → Option FS :=
 List.rec (motive := fun _ => FS → Option FS) (fun fs => some fs) (fun o _ ih fs => match zpt P o fs with
  | some fs1 => ih fs1
  | none => match opF P call ops o fs with
   | some fs1 => ih fs1
   | none => none) l
section
variable {P : Program} {call : zcN} {fs fs' : FS} {S : St} {l0 : Tri Nat} {n0 : Nat} {h0 : Tri (Nat × VObj)} {m0 : Nat} {o : Oper} {ops : Array Oper}
theorem zmp (hs : FOk fs S) : zqf ops fs.tg o = zbP ops S o := by
 have : fs.tg = tget S.T := by funext t; exact (hs.t t).symm
 rw [this]; rfl
theorem zpN (hs : FOk fs S) : dstF fs o = zdq S o := by
 unfold dstF zdq
 cases o.dst with
 | none => rfl
 | some d => simp only [zeC, hs.nt]
theorem zol (hcall : zbQ P call) (hw : FWf fs l0 n0 h0 m0) (hs : FOk fs S) (h : opF P call ops o fs = some fs') (j : Nat) : zY P ops false j [o] S fun S' => FWf fs' l0 n0 h0 m0 ∧ FOk fs' S' := by
 unfold opF at h
 rw [zpN hs, zmp hs] at h
 split at h
 case h_2 => cases h
 rename_i hd
 refine ⟨hd, ?_⟩
 split at h
 ·rename_i hg
  rw [hg]
  simp only [zY]
  exact zeV (fun S hS => hS) (by simpa using zn5 hcall hw hs h)
 ·rename_i hg
  rw [hg]
  exact zdc hw hs h
 ·cases h
theorem zD.forget {S : St} {d : Option Tmp} {v : AV} {id : Nat} {T1 : Tm} {H1 : Heap} (hid : S.lo ≤ id) (hlt : id < S.nx) (hv : purge [id] v = v) (hT : T1 = tput S.T d v) (hH : H1 = hdel S.H id) : zD { S with T := T1, H := H1 } (S.applyW d (some v) (hset S.H id (.box [])) (some id)) := by
 subst hT; subst hH
 intro B c w a hs
 let c' : Ctx := { φ := fun i => if i = id then none else c.φ i, I := c.I }
 have hho : zaT c c' w w := fun b hb => ⟨hb, rfl⟩
 have hgo : zcU [id] c c' := fun i loc hi h => by show (if i = id then none else c.φ i) = some loc; rw [if_neg (by simpa using hi)]; exact h
 have hφ : ∀ {i loc}, c'.φ i = some loc → i ≠ id ∧ c.φ i = some loc := fun {i loc} h => by
  have h' : (if i = id then none else c.φ i) = some loc := h
  split at h'
  ·cases h'
  ·exact ⟨by assumption, h'⟩
 have hg : ∀ {i o}, hget (zc1 [id] (hset S.H id (.box []))) i = some o → i ≠ id → ∃ u, hget (hdel S.H id) i = some u ∧ o = zdN [id] u := fun {i o} h hne => by
  rw [zdr, zbB, if_neg hne] at h
  simp only [Option.map_eq_some_iff] at h
  obtain ⟨u, h1, h2⟩ := h
  refine ⟨u, ?_, h2.symm⟩
  have key : ∀ (H : Heap), hget H i = some u → hget (hdel H id) i = some u := by
   intro H
   induction H with
   | nil => intro h; simp [hget] at h
   | cons x r ih =>
    obtain ⟨k, q⟩ := x
    intro h
    simp only [hget] at h
    simp only [hdel]
    split
    ·rename_i e
     rw [if_neg (fun e' => hne (e'.symm.trans e))] at h
     exact ih h
    ·simp only [hget]
     split at h
     ·rename_i e; rw [if_pos e]; exact h
     ·rename_i e; rw [if_neg e]; exact ih h
  exact key _ h1
 refine ⟨c', ⟨⟨fun i o loc h1 h2 => ?_, fun i o b cap h1 h2 => ?_, fun i j o o' b cap cap' hne h1 h2 h3 h4 => ?_, hs.h.imm, hs.h.size, hs.h.os, hs.h.tape, hs.h.output, hs.h.blk, hs.h.I, fun i loc hm h1 => ?_, fun i hi h1 => ?_⟩, fun t u h => ?_, hs.nt, hs.df, fun i hi => ?_, hs.lo, fun i o h => ?_, hs.mlo, hs.nlo⟩⟩
 ·obtain ⟨hne, h3⟩ := hφ h2
  obtain ⟨u, h4, rfl⟩ := hg h1 hne
  exact (hs.h.heap i u loc h4 h3).purge hho hgo (fun _ _ _ => rfl)
 ·obtain ⟨hne, h3⟩ := hφ h2
  obtain ⟨u, h4, rfl⟩ := hg h1 hne
  exact hs.h.own i u b cap h4 h3
 ·obtain ⟨n1, h5⟩ := hφ h3
  obtain ⟨n2, h6⟩ := hφ h4
  obtain ⟨u, h7, _⟩ := hg h1 n1
  obtain ⟨u', h8, _⟩ := hg h2 n2
  exact hs.h.apart i j u u' b cap cap' hne h7 h8 h5 h6
 ·have hm' : i ∉ id :: S.mv := hm
  simp only [List.mem_cons, not_or] at hm'
  show (if i = id then none else c.φ i) = some loc
  rw [if_neg hm'.1]
  exact hs.h.φ i loc hm'.2 h1
 ·show (if i = id then none else c.φ i) = none
  split
  ·rfl
  ·exact hs.h.und i hi h1
 ·have h' : tget (tput (zfm [id] S.T) d v) t = some u := h
  rw [zfG] at h'
  have h3 : ∀ x, tget (tput S.T d v) t = some x → Rep c' w (purge [id] x) (a.tmps.getD t undef) := fun x hx => Rep.purge hho hgo _ _ (hs.t t x hx)
  rw [zfG] at h3
  split at h'
  ·rename_i e
   obtain rfl := inj1 h'
   have := h3 v (by rw [if_pos e])
   rwa [hv] at this
  ·rename_i e
   rw [zdu] at h'
   simp only [Option.map_eq_some_iff] at h'
   obtain ⟨x, h4, rfl⟩ := h'
   exact h3 x (by rw [if_neg e]; exact h4)
 ·show (if i = id then none else c.φ i) = none
  split
  ·rfl
  ·exact hs.fresh i hi
 ·have h' : hget (zc1 [id] (hset S.H id (.box []))) i = some o := h
  by_cases e : i = id
  ·rw [e]; exact hlt
  ·obtain ⟨u, h4, _⟩ := hg h' e
   exact hs.wf i u h4
theorem znV (hw : FWf fs l0 n0 h0 m0) (hs : FOk fs S) (h : zpr P o fs = some fs') {r : List Oper} {Q : St → Prop} (hQ : ∀ S', FWf fs' l0 n0 h0 m0 → FOk fs' S' → OpsS P ops r S' Q) : OpsS P ops (o :: r) S Q := by
 obtain ⟨dst, op, type, pos, after, guard⟩ := o
 unfold zpr at h
 simp only at h
 split at h
 case h_2 => cases h
 rename_i s s' x
 split at h
 case h_2 => cases h
 rename_i d
 split at h
 case h_2 => cases h
 rename_i hb
 simp only [Bool.and_eq_true] at hb
 obtain rfl := Nat.eq_of_beq_eq_true hb.1
 split at h
 case h_2 => cases h
 rename_i e id n hu hx
 split at h
 case h_2 => cases h
 rename_i e' cs he ho
 split at h
 case h_2 => cases h
 rename_i hb2
 simp only [Bool.and_eq_true] at hb2
 obtain ⟨q1, q2⟩ := zhD hw hs h
 rw [evF hs] at hx
 rw [← hs.h] at ho
 have hlo : S.lo ≤ id := by rw [hs.lo]; exact Nat.le_of_ble_eq_true hb2.2
 have hlt : id < S.nx := by
  rw [hs.nx]
  refine (hw.dense id).2 ?_
  rw [hs.h] at ho
  unfold FS.hg at ho
  split at ho
  ·exact ⟨_, by assumption⟩
  ·cases ho
 refine zlN (T := S.T) (H := S.H) (nx := S.nx) (mv := S.mv) (nt := S.nt) (lo := S.lo) hx hu he ho (Nat.eq_of_beq_eq_true hb2.1.1) hb2.1.2 (by rw [hs.lo]; exact hb2.2) (by rw [hs.nt]; exact hb.2) rfl ?_
 exact zfL (zD.forget (S := S) (d := some d) (v := .pv (.slc n false cs)) hlo hlt rfl rfl rfl) (hQ _ q1 q2)
theorem zkE (h : zpt P o fs = some fs') : zpr P o fs = some fs' := by
 unfold zpt at h
 split at h
 ·exact h
 ·cases h
theorem zlc (hcall : zbQ P call) {Q : St → Prop} : ∀ {l : List Oper} {fs fs' : FS} {S : St}, FWf fs l0 n0 h0 m0 → FOk fs S → opsF P call ops l fs = some fs' → (∀ S', FWf fs' l0 n0 h0 m0 → FOk fs' S' → Q S') → OpsS P ops l S Q
 | [], fs, fs', S, hw, hs, h, hQ => by obtain rfl := inj1 (show some fs = some fs' from h); exact zoG (hQ S hw hs)
 | o :: r, fs, fs', S, hw, hs, h, hQ => by
  have h' : (match zpt P o fs with
   | some fs1 => opsF P call ops r fs1
   | none => match opF P call ops o fs with
    | some fs1 => opsF P call ops r fs1
    | none => none) = some fs' := h
  split at h'
  ·rename_i fs1 h1
   exact znV hw hs (zkE h1) (fun S' w' s' => zlc hcall w' s' h' hQ)
  ·split at h'
   case h_2 => cases h'
   rename_i fs1 h1
   have h2 := zol hcall hw hs h1 0
   refine ziO (j := 0) ?_
   simp only [zY, opWp] at h2 ⊢
   refine ⟨h2.1, ?_⟩
   have h3 := h2.2
   split at h3
   ·exact zeV (fun S1 hS => zlc hcall hS.1 hS.2 h' hQ) h3
   ·exact zlc hcall h3.1 h3.2 h' hQ
   ·exact h3.elim
end
end
end Go.Proofs.YtppnccjeggnllaaGreatVm

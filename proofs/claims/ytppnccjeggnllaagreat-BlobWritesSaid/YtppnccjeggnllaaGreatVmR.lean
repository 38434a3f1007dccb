import Derived.Test.YtppnccjeggnllaaGreatVmO
import Derived.Scope
namespace Go.Proofs.YtppnccjeggnllaaGreatVm
open Go Go.RowKit
set_option linter.all false
def zD (S S' : St) : Prop := ∀ B c w a, SRel B S c w a → ∃ c', SRel B S' c' w a
theorem zD.of_less {S S' : St} (h : Less S S') : zD S S' := fun _ _ _ _ hs => hs.less h
theorem zD.trans {S S' S'' : St} (h : zD S S') (h' : zD S' S'') : zD S S'' := fun B c w a hs => by
 obtain ⟨c', hs'⟩ := h B c w a hs
 exact h' B c' w a hs'
def zaG (P : Program) (x : Code) (Q : Exit → St → Prop) (S : St) : Prop := ∀ B c w a, SRel B S c w a → x.wp P (AreE B Q) a w
def seqK (P : Program) (y : Code) (Q : Exit → St → Prop) (e : Exit) (S : St) : Prop := match e with | .normal => zaG P y Q S | e => Q e S
def blkK (id : Nat) (Q : Exit → St → Prop) (e : Exit) (S : St) : Prop := match e with | .exit id' => if id' = id then Q .normal S else Q (.exit id') S | e => Q e S
def lupK (R : Nat → St → Prop) (d : Nat) (Q : Exit → St → Prop) (e : Exit) (S : St) : Prop := match e with | .normal => ∃ d' S', d' < d ∧ zD S S' ∧ R d' S' | e => Q e S
def scpK (Q : Exit → St → Prop) (e : Exit) (S : St) : Prop := match e with | .goto _ => False | e => Q e S
section
variable {P : Program} {x y : Code} {Q Q' : Exit → St → Prop} {S S' : St}
theorem zjT (h : zc3 P x Q S) : zaG P x Q S := fun _ c w a hs => zcx x Q S c w a h hs
theorem zt (h : Q .normal S) : zaG P .skip Q S := zjT h
theorem zg1 {n} (h : Q .normal S) : zaG P (.label n) Q S := zjT h
theorem zl (h : Q .ret S) : zaG P .ret Q S := zjT h
theorem zS {id} (h : Q (.exit id) S) : zaG P (.exit id) Q S := zjT h
theorem zy {k ops l} (hl : ops.toList = l) (h : zY P ops false 0 l S (Q .normal)) : zaG P (.region k ops false) Q S := zjT (by
 simp only [zc3, hl]; exact h)
theorem zav {k ops l} (hm : P.follows .mixedOrders = true) (hd : zf9 ops = true) (hl : ops.toList = l) (h : zY P ops true 0 l S (Q .normal)) : zaG P (.region k ops true) Q S := zjT (by
 simp only [zc3, hl]; exact ⟨hm, hd, h⟩)
theorem zm (h : zaG P x (seqK P y Q) S) : zaG P (.seq x y) Q S := fun B c w a hs =>
 wp_seq (Code.wp_mono (fun e a w ⟨S1, c1, h1, h2⟩ => by
  cases e with
  | normal => exact h1 B c1 w a h2
  | _ => exact ⟨S1, c1, h1, h2⟩) (h B c w a hs))
theorem zr {cd : Operand} {b : Bool} (hb : S.ev cd = some (.pv (.bool b))) (h1 : b = true → zaG P x Q S) (h2 : b = false → zaG P y Q S) : zaG P (.cond cd x y) Q S := fun B c w a hs => by
 have hr := zcD hs hb
 simp only [Rep, RepP] at hr
 cases b with
 | true => exact wp_cond hr (h1 rfl B c w a hs)
 | false => exact wp_cond hr (h2 rfl B c w a hs)
theorem zK {cd : Operand} (hb : S.ev cd = some (.pv (.bool true))) (h1 : zaG P x Q S) : zaG P (.cond cd x y) Q S := zr hb (fun _ => h1) (fun h => by cases h)
theorem zda {cd : Operand} (hb : S.ev cd = some (.pv (.bool false))) (h1 : zaG P y Q S) : zaG P (.cond cd x y) Q S := zr hb (fun h => by cases h) (fun _ => h1)
theorem zw {id} (h : zaG P x (blkK id Q) S) : zaG P (.block id x) Q S := fun B c w a hs => by
 refine wp_block (Code.wp_mono (fun e a w h => ?_) (h B c w a hs))
 obtain ⟨S', c', h1, h2⟩ := h
 cases e with
 | exit id' =>
  simp only [Exit.inBlock]
  simp only [blkK] at h1
  split
  ·rename_i e; rw [if_pos e] at h1; exact ⟨S', c', h1, h2⟩
  ·rename_i e; rw [if_neg e] at h1; exact ⟨S', c', h1, h2⟩
 | _ => exact ⟨S', c', h1, h2⟩
theorem zgN (h : zaG P x (scpK Q) S) : zaG P (.scope x) Q S := fun B c w a hs =>
 wp_scope_straight (Code.wp_mono (fun e a w ⟨S1, c1, h1, h2⟩ => by
  cases e with
  | goto l => exact h1.elim
  | _ => exact ⟨S1, c1, h1, h2⟩) (h B c w a hs))
theorem zsV (R : Nat → St → Prop) {d S'} (hl : Less S S') (hR : R d S') (round : ∀ d S, R d S → zaG P x (lupK R d Q) S) : zaG P (.loop x) Q S := fun B c w a hs => by
 obtain ⟨c', hs'⟩ := hs.less hl
 refine zgu (fun d a w => ∃ S c, R d S ∧ SRel B S c w a) ⟨S', c', hR, hs'⟩ (fun d a w hI => ?_)
 obtain ⟨S1, c1, hR1, hs1⟩ := hI
 refine Code.wp_mono (fun e a w h => ?_) (round d S1 hR1 B c1 w a hs1)
 obtain ⟨S2, c2, h1, h2⟩ := h
 cases e with
 | normal =>
  obtain ⟨d', S3, hlt, hl3, hR3⟩ := h1
  obtain ⟨c3, hs3⟩ := hl3 _ _ _ _ h2
  exact ⟨d', hlt, S3, c3, hR3, hs3⟩
 | _ => exact ⟨S2, c2, h1, h2⟩
theorem zcu {α : Type} (st : α → St) (I : α → Prop) (μ : α → Nat) (a0 : α) (h0 : I a0) (hl : Less S (st a0)) (round : ∀ a, I a → zaG P x (lupK (fun d S => ∃ a, I a ∧ μ a = d ∧ S = st a) (μ a) Q) (st a)) : zaG P (.loop x) Q S :=
 zsV (fun d S => ∃ a, I a ∧ μ a = d ∧ S = st a) hl ⟨a0, h0, rfl, rfl⟩ (fun d S ⟨a, h1, h2, h3⟩ => by subst h2; subst h3; exact round a h1)
theorem zQ {α : Type} {st : α → St} {I : α → Prop} {μ : α → Nat} {d : Nat} (a : α) (h : I a) (hd : μ a < d) (hl : zD S (st a)) : lupK (fun d S => ∃ a, I a ∧ μ a = d ∧ S = st a) d Q .normal S := ⟨_, _, hd, hl, a, h, rfl, rfl⟩
theorem zdL {α : Type} {st : α → St} {I : α → Prop} {μ : α → Nat} {d : Nat} (a : α) (h : I a) (hd : μ a < d) (hl : Less S (st a)) : lupK (fun d S => ∃ a, I a ∧ μ a = d ∧ S = st a) d Q .normal S := ⟨_, _, hd, .of_less hl, a, h, rfl, rfl⟩
theorem zu (h : zaG P y Q S) : seqK P y Q .normal S := h
theorem z5 {id} (h : Q (.exit id) S) : seqK P y Q (.exit id) S := h
theorem zE (h : Q .ret S) : seqK P y Q .ret S := h
theorem zal {id} (h : Q .normal S) : blkK id Q .normal S := h
theorem z8 {id} (h : Q .ret S) : blkK id Q .ret S := h
theorem zaf {id id'} (e : id' = id) (h : Q .normal S) : blkK id Q (.exit id') S := by simp only [blkK, if_pos e]; exact h
theorem zgV {id id'} (e : (id' == id) = false) (h : Q (.exit id') S) : blkK id Q (.exit id') S := by simp only [blkK, if_neg (ne_of_beq_false e)]; exact h
theorem zrk (h : Q .ret S) : scpK Q .ret S := h
theorem zag {R d id} (h : Q (.exit id) S) : lupK R d Q (.exit id) S := h
theorem zbm {R d} (h : Q .ret S) : lupK R d Q .ret S := h
end
def HasT (m : Nat) (T : Tm) : Tm → Prop
 | [] => True
 | (k, v) :: r => (tget T k = some v ∧ zao m v = true) ∧ HasT m T r
def HasH (m : Nat) (H : Heap) : Heap → Prop
 | [] => True
 | (k, o) :: r => (hget H k = some o ∧ zbC m o = true ∧ Nat.blt k m = true) ∧ HasH m H r
theorem zqA {m : Nat} {T : Tm} : ∀ {T' : Tm}, HasT m T T' → ∀ x ∈ T', tget T x.1 = some x.2 ∧ zao m x.2 = true
 | (k, v) :: r, h, x, hx => by
  simp only [HasT] at h
  rcases List.mem_cons.1 hx with rfl | hx
  ·exact h.1
  ·exact zqA h.2 x hx
theorem zqs {m : Nat} {H : Heap} : ∀ {H' : Heap}, HasH m H H' → ∀ x ∈ H', hget H x.1 = some x.2 ∧ zbC m x.2 = true ∧ x.1 < m
 | (k, v) :: r, h, x, hx => by
  simp only [HasH] at h
  rcases List.mem_cons.1 hx with rfl | hx
  ·exact ⟨h.1.1, h.1.2.1, by have := h.1.2.2; simp only [Nat.blt_eq] at this; exact this⟩
  ·exact zqs h.2 x hx
theorem zaj {T T' : Tm} {H H' : Heap} {nx nx' : Nat} {mv mv' : List Nat} {nt lo : Nat} (hn : Nat.ble lo nx' = true) (ht : HasT nx' T T') (hh : HasH nx' H H') (hm : ∀ x ∈ mv, x ∈ mv' ∨ lo ≤ x) : Less ⟨T, H, nx, mv, nt, lo⟩ ⟨T', H', nx', mv', nt, lo⟩ :=
 ⟨zqA ht, zqs hh, hm, rfl, rfl, by simpa [Nat.ble_eq] using hn⟩
mutual
theorem zfr {ρ : Nat → Nat} : ∀ {a : AV}, zao 0 a = true → ren ρ a = a
 | .undef, _ => rfl
 | .pv _, _ => rfl
 | .pptr _ _, _ => rfl
 | .ptr _ _, h => by simp [zao] at h
 | .ref _ _ _ _, h => by simp [zao] at h
 | .view _ _ _, h => by simp [zao] at h
 | .agg cs, h => by simp only [zao] at h; simp only [ren, zd3 h]
 | .tup cs, h => by simp only [zao] at h; simp only [ren, zd3 h]
 | .fnc _ cs, h => by simp only [zao] at h; simp only [ren, zd3 h]
 | .bnd _ _ cs, h => by simp only [zao] at h; simp only [ren, zd3 h]
 | .mapr _, h => by simp [zao] at h
theorem zd3 {ρ : Nat → Nat} : ∀ {as : List AV}, zau 0 as = true → renL ρ as = as
 | [], _ => rfl
 | a :: as, h => by simp only [zau, Bool.and_eq_true] at h; simp only [renL, zfr h.1, zd3 h.2]
end
section
variable {P : Program} {ops : Array Oper} {dr : Bool} {j : Nat} {d : Nat} {op : Op} {type : TypeId} {pos : String} {after : Array Edge} {r : List Oper} {T : Tm} {H : Heap} {nx : Nat} {mv : List Nat} {nt lo : Nat} {Q : St → Prop} {c : Prop} {v : AV}
theorem zq {S : St} (h : Q S) : zY P ops dr j [] S Q := h
theorem zd {S : St} {y : Code} {Q : Exit → St → Prop} (h : zaG P y Q S) : zY P ops dr j [] S (seqK P y Q .normal) := zu h
theorem zg {k ops l} {y : Code} {Q : Exit → St → Prop} {S : St} (hl : ops.toList = l) (h : zY P ops false 0 l S (seqK P y Q .normal)) : zaG P (.seq (.region k ops false) y) Q S := zm (zy hl h)
theorem zh (he : zcv P (St.ev ⟨T, H, nx, mv, nt, lo⟩) H nx op type = some (c, v, none)) (hd : Nat.blt d nt = true) (hc : c) (h : zY P ops dr (j + 1) r ⟨(d, v) :: T, H, nx, mv, nt, lo⟩ Q) :
  zY P ops dr j ({ dst := some d, op := op, type := type, pos := pos, after := after, guard := none } :: r) ⟨T, H, nx, mv, nt, lo⟩ Q := by
 refine zc6 ?_
 simp only [zjB, zbP, zdq, zcj, he]
 exact ⟨by simpa [Nat.blt_eq] using hd, hc, h⟩
theorem za (he : (bif Nat.blt d nt then zcv P (St.ev ⟨T, H, nx, mv, nt, lo⟩) H nx op type else none) = some (True, v, none)) (h : zY P ops dr (j + 1) r ⟨(d, v) :: T, H, nx, mv, nt, lo⟩ Q) :
  zY P ops dr j ({ dst := some d, op := op, type := type, pos := pos, after := after, guard := none } :: r) ⟨T, H, nx, mv, nt, lo⟩ Q := by
 cases hb : Nat.blt d nt with
 | false => rw [hb] at he; cases he
 | true => rw [hb] at he; exact zh he hb trivial h
theorem zz {o : VObj} {nx' : Nat} (he : zcv P (St.ev ⟨T, H, nx, mv, nt, lo⟩) H nx op type = some (c, v, some o)) (hn : nx + 1 = nx') (hd : Nat.blt d nt = true) (hc : c) (h : zY P ops dr (j + 1) r ⟨(d, v) :: T, (nx, o) :: H, nx', mv, nt, lo⟩ Q) :
  zY P ops dr j ({ dst := some d, op := op, type := type, pos := pos, after := after, guard := none } :: r) ⟨T, H, nx, mv, nt, lo⟩ Q := by
 subst hn
 refine zc6 ?_
 simp only [zjB, zbP, zdq, zcj, he]
 exact ⟨by simpa [Nat.blt_eq] using hd, hc, h⟩
theorem zo {cd a b : Operand} {t : Bool} (hc : St.ev ⟨T, H, nx, mv, nt, lo⟩ cd = some (.pv (.bool t))) (ht : t = true) (ha : St.ev ⟨T, H, nx, mv, nt, lo⟩ a = some v) (hd : Nat.blt d nt = true) (h : zY P ops dr (j + 1) r ⟨(d, v) :: T, H, nx, mv, nt, lo⟩ Q) :
  zY P ops dr j ({ dst := some d, op := .pick cd a b, type := type, pos := pos, after := after, guard := none } :: r) ⟨T, H, nx, mv, nt, lo⟩ Q := by
 subst ht
 refine zh (c := True) ?_ hd trivial h
 simp only [zcv, hc, ha, if_true, Option.map_some]
theorem zn {cd a b : Operand} {t : Bool} (hc : St.ev ⟨T, H, nx, mv, nt, lo⟩ cd = some (.pv (.bool t))) (ht : t = false) (ha : St.ev ⟨T, H, nx, mv, nt, lo⟩ b = some v) (hd : Nat.blt d nt = true) (h : zY P ops dr (j + 1) r ⟨(d, v) :: T, H, nx, mv, nt, lo⟩ Q) :
  zY P ops dr j ({ dst := some d, op := .pick cd a b, type := type, pos := pos, after := after, guard := none } :: r) ⟨T, H, nx, mv, nt, lo⟩ Q := by
 subst ht
 refine zh (c := True) ?_ hd trivial h
 simp [zcv, hc, ha]
theorem ze {S : St} {o : Option Tmp} {g : Nat × Bool} {b w : Bool} (hg : zbP ops S { dst := o, op := op, type := type, pos := pos, after := after, guard := some g } = some (b == w)) (hb : b = w) (h : zY P ops dr j ({ dst := o, op := op, type := type, pos := pos, after := after, guard := none } :: r) S Q) :
  zY P ops dr j ({ dst := o, op := op, type := type, pos := pos, after := after, guard := some g } :: r) S Q := by
 subst hb
 simp only [beq_self_eq_true] at hg
 simp only [zY, opWp, hg] at h ⊢
 exact h
theorem zf {g : Nat × Bool} {b w : Bool} (hg : zbP ops ⟨T, H, nx, mv, nt, lo⟩ { dst := some d, op := op, type := type, pos := pos, after := after, guard := some g } = some (b == w)) (hb : b = !w) (hd : Nat.blt d nt = true) (h : zY P ops dr (j + 1) r ⟨(d, .tup []) :: T, H, nx, mv, nt, lo⟩ Q) :
  zY P ops dr j ({ dst := some d, op := op, type := type, pos := pos, after := after, guard := some g } :: r) ⟨T, H, nx, mv, nt, lo⟩ Q := by
 subst hb
 have hg' : ((!w) == w) = false := by cases w <;> rfl
 rw [hg'] at hg
 simp only [zY, opWp, hg, zdq]
 exact ⟨by simpa [Nat.blt_eq] using hd, h⟩
theorem zeA {S : St} {g : Nat × Bool} (hg : zbP ops S { dst := some d, op := op, type := type, pos := pos, after := after, guard := some g } = some true) (h : zY P ops dr j ({ dst := some d, op := op, type := type, pos := pos, after := after, guard := none } :: r) S Q) :
  zY P ops dr j ({ dst := some d, op := op, type := type, pos := pos, after := after, guard := some g } :: r) S Q := by
 simp only [zY, opWp, hg] at h ⊢
 exact h
theorem zuc {g : Nat × Bool} (hg : zbP ops ⟨T, H, nx, mv, nt, lo⟩ { dst := some d, op := op, type := type, pos := pos, after := after, guard := some g } = some false) (hd : Nat.blt d nt = true) (h : zY P ops dr (j + 1) r ⟨(d, .tup []) :: T, H, nx, mv, nt, lo⟩ Q) :
  zY P ops dr j ({ dst := some d, op := op, type := type, pos := pos, after := after, guard := some g } :: r) ⟨T, H, nx, mv, nt, lo⟩ Q := by
 simp only [zY, opWp, hg, zdq]
 exact ⟨by simpa [Nat.blt_eq] using hd, h⟩
theorem zc {g : Nat × Bool} (hg : (bif Nat.blt d nt then zbP ops ⟨T, H, nx, mv, nt, lo⟩ { dst := some d, op := op, type := type, pos := pos, after := after, guard := some g } else none) = some false) (h : zY P ops dr (j + 1) r ⟨(d, .tup []) :: T, H, nx, mv, nt, lo⟩ Q) :
  zY P ops dr j ({ dst := some d, op := op, type := type, pos := pos, after := after, guard := some g } :: r) ⟨T, H, nx, mv, nt, lo⟩ Q := by
 cases hb : Nat.blt d nt with
 | false => rw [hb] at hg; cases hg
 | true => rw [hb] at hg; exact zuc hg hb h
inductive PurT (k : List Nat) : Tm → Tm → Prop
 | nil : PurT k [] []
 | keep {t v T T'} (e : purge k v = v) (h : PurT k T T') : PurT k ((t, v) :: T) ((t, v) :: T')
 | lose {t v v' T T'} (e : purge k v = v') (h : PurT k T T') : PurT k ((t, v) :: T) ((t, v') :: T')
theorem PurT.eq {k : List Nat} {T T' : Tm} (h : PurT k T T') : zfm k T = T' := by
 induction h with
 | nil => rfl
 | keep e _ ih => simp only [zfm, List.map_cons, e] at ih ⊢; rw [ih]
 | lose e _ ih => simp only [zfm, List.map_cons, e] at ih ⊢; rw [ih]
inductive PurH (k : List Nat) : Heap → Heap → Prop
 | nil : PurH k [] []
 | keep {t v T T'} (e : zdN k v = v) (h : PurH k T T') : PurH k ((t, v) :: T) ((t, v) :: T')
 | lose {t v v' T T'} (e : zdN k v = v') (h : PurH k T T') : PurH k ((t, v) :: T) ((t, v') :: T')
theorem PurH.eq {k : List Nat} {T T' : Heap} (h : PurH k T T') : zc1 k T = T' := by
 induction h with
 | nil => rfl
 | keep e _ ih => simp only [zc1, List.map_cons, e] at ih ⊢; rw [ih]
 | lose e _ ih => simp only [zc1, List.map_cons, e] at ih ⊢; rw [ih]
theorem znB {x y : Operand} {ts : Array TypeId} {k : IntKind} {p q : Int} (hx : St.ev ⟨T, H, nx, mv, nt, lo⟩ x = some (.pv (.int k p))) (hy : St.ev ⟨T, H, nx, mv, nt, lo⟩ y = some (.pv (.int k q))) (hd : Nat.blt d nt = true) (h : zY P ops dr (j + 1) r ⟨(d, .pv (.int k (max p q))) :: T, H, nx, mv, nt, lo⟩ Q) :
  zY P ops dr j ({ dst := some d, op := .call { callee := .builtin .max, args := #[x, y], argTypes := ts }, type := type, pos := pos, after := after, guard := none } :: r) ⟨T, H, nx, mv, nt, lo⟩ Q := by
 refine zh (c := True) ?_ hd trivial h
 have e : (if p < q then q else p) = max p q := by omega
 simp only [zcv, evs, hx, hy, zcT, ziQ, mm, if_true, decide_eq_true_eq, e, Option.map_some]
theorem zG {S : St} {o : Oper} {b w : Bool} (hg : zbP ops S o = some (b == w)) (h1 : b = true → zY P ops dr j (o :: r) S Q) (h2 : b = false → zY P ops dr j (o :: r) S Q) : zY P ops dr j (o :: r) S Q := by
 cases b
 ·exact h2 rfl
 ·exact h1 rfl
theorem zj7 {t : TypeId} {ad x : Operand} {id off s : Nat} {o o' : VObj} {H' : Heap} (ha : St.ev ⟨T, H, nx, mv, nt, lo⟩ ad = some (.ptr id off)) (hx : St.ev ⟨T, H, nx, mv, nt, lo⟩ x = some v) (hs : tsz P t = some s)
  (hv : (told v && (zam v).all one && Nat.beq (zam v).length s) = true) (hg : hget H id = some o) (ho : zem o off (zam v) = some (c, o')) (hc : c) (htot : dr = false ∨ total ops j = true) (hH : hset H id o' = H') (h : zY P ops dr (j + 1) r ⟨T, H', nx, mv, nt, lo⟩ Q) :
  zY P ops dr j ({ dst := none, op := .store t ad x, type := type, pos := pos, after := after, guard := none } :: r) ⟨T, H, nx, mv, nt, lo⟩ Q := by
 subst hH
 simp only [Bool.and_eq_true] at hv
 have hv' := Nat.eq_of_beq_eq_true hv.2
 refine zc6 ?_
 simp only [zjB, zbP, zdq, zcj, zcv, zez, ha, hx, hs, hg, ho]
 simp only [hv.1.1, hv.1.2, hv', if_true, and_self]
 exact ⟨trivial, htot, hc, h⟩
theorem zmW {a1 a2 : Operand} {t u e : TypeId} {id sz n m n' by' : Nat} {cs new zs : List PV} {x : AV} {T' : Tm} {H' H'' : Heap}
  (ha : St.ev ⟨T, H, nx, mv, nt, lo⟩ a1 = some (.ref id sz 0 n)) (hx : St.ev ⟨T, H, nx, mv, nt, lo⟩ a2 = some x) (hg : hget H id = some (.row e sz cs)) (hn : zaU H x = some (m, new)) (hte : za1 P t = some e) (hsz : tsz P e = some sz) (hby : zcy P e = some by') (hz : zbZ P e = some zs)
  (hsub : tsub P u e = true) (hk : (Nat.blt 0 sz && Nat.beq zs.length sz && Nat.ble by' 1024) = true) (hl : cs.length = n * sz) (hl' : new.length = m * sz) (hmx : n + m ≤ zaW) (hnm : n + m = n') (htot : dr = false ∨ total ops j = true) (hd : Nat.blt d nt = true)
  (hH : hset H id (.row e sz (cs ++ new)) = H') (hp : PurH [id] H' H'') (hT : PurT [id] T T') (h : zY P ops dr (j + 1) r ⟨(d, .ref id sz 0 n') :: T', H'', nx, id :: mv, nt, lo⟩ Q) :
  zY P ops dr j ({ dst := some d, op := .call { callee := .builtin .append, args := #[a1, a2], argTypes := #[t, u] }, type := type, pos := pos, after := after, guard := none } :: r) ⟨T, H, nx, mv, nt, lo⟩ Q := by
 subst hH
 subst hnm
 simp only [Bool.and_eq_true, Nat.blt_eq, Nat.ble_eq] at hk
 have hr : zcv P (St.ev ⟨T, H, nx, mv, nt, lo⟩) H nx (.call { callee := .builtin .append, args := #[a1, a2], argTypes := #[t, u] }) type = none := by
  simp only [zcv, evs, ha, hx, zcT]
 have hw : zez P (St.ev ⟨T, H, nx, mv, nt, lo⟩) H (.call { callee := .builtin .append, args := #[a1, a2], argTypes := #[t, u] }) = some (0 < sz ∧ zs.length = sz ∧ cs.length = n * sz ∧ new.length = m * sz ∧ n + m ≤ zaW ∧ by' ≤ 1024, some (.ref id sz 0 (n + m)), hset H id (.row e sz (cs ++ new)), some id) := by
  simp only [zez, evs, ha, hx, hg, hn, hte, hsz, hby, hz, hsub, and_self, if_true]
 refine zc6 ?_
 simp only [zjB, zbP, zdq, zcj, hr, hw]
 refine ⟨by simpa [Nat.blt_eq] using hd, htot, ⟨hk.1.1, Nat.eq_of_beq_eq_true hk.1.2, hl, hl', hmx, hk.2⟩, ?_⟩
 simp only [St.applyW, tput, Option.getD_some, hT.eq, hp.eq]
 exact h
theorem zF {t : TypeId} {ad : Operand} {cs ps : List PV} {off s : Nat} (ha : St.ev ⟨T, H, nx, mv, nt, lo⟩ ad = some (.pptr cs off)) (hg : tagg P t = some true) (hs : tsz P t = some s) (hl : off + s ≤ cs.length) (hp : (cs.drop off).take s = ps)
  (hd : Nat.blt d nt = true) (h : zY P ops dr (j + 1) r ⟨(d, .agg (ps.map .pv)) :: T, H, nx, mv, nt, lo⟩ Q) :
  zY P ops dr j ({ dst := some d, op := .load t ad, type := type, pos := pos, after := after, guard := none } :: r) ⟨T, H, nx, mv, nt, lo⟩ Q := by
 refine zh (c := off + s ≤ cs.length) ?_ hd hl h
 simp only [zcv, ha, zgt, hg, hs, hp, Option.map_some]
theorem zO {t : TypeId} {ad : Operand} {cs : List PV} {p : PV} {off s : Nat} (ha : St.ev ⟨T, H, nx, mv, nt, lo⟩ ad = some (.pptr cs off)) (hg : tagg P t = some false) (hs : tsz P t = some s) (hp : cs[off]? = some p)
  (hd : Nat.blt d nt = true) (h : zY P ops dr (j + 1) r ⟨(d, .pv p) :: T, H, nx, mv, nt, lo⟩ Q) :
  zY P ops dr j ({ dst := some d, op := .load t ad, type := type, pos := pos, after := after, guard := none } :: r) ⟨T, H, nx, mv, nt, lo⟩ Q := by
 refine zh (c := True) ?_ hd trivial h
 simp only [zcv, ha, zgt, hg, hs, hp, Option.map_some]
theorem zB {f : FuncId} {A : List AV} {out : AV} (hr : zcv P (St.ev ⟨T, H, nx, mv, nt, lo⟩) H nx op type = none) (hw : zez P (St.ev ⟨T, H, nx, mv, nt, lo⟩) H op = none) (hcal : callee ⟨T, H, nx, mv, nt, lo⟩ op = some (f, A)) (hent : zdJ P f = true)
  (hok : Ok P f A [] out [] []) (hA : zau 0 A = true) (ho : zao 0 out = true) (hd : Nat.blt d nt = true) (h : zY P ops dr (j + 1) r ⟨(d, out) :: T, H, nx, mv, nt, lo⟩ Q) :
  zY P ops dr j ({ dst := some d, op := op, type := type, pos := pos, after := after, guard := none } :: r) ⟨T, H, nx, mv, nt, lo⟩ Q := by
 refine zc6 ?_
 simp only [zjB, zbP, zdq, zcj, hr, hw, hcal]
 refine ⟨by simpa [Nat.blt_eq] using hd, hent, .inl ⟨[], A, [], out, [], ⟨by simpa using hok, zd3 hA, hA, .nil, by simp, rfl, by simp, by simp⟩, ?_⟩⟩
 simpa [St.afterCallQ, tput, idx, zfr ho] using h
end
mutual
theorem znz (H : Heap) : ∀ a : AV, ∃ c, frz H [] a = some (c, a) ∧ c
 | .undef => ⟨True, rfl, trivial⟩
 | .pv _ => ⟨True, rfl, trivial⟩
 | .pptr _ _ => ⟨True, rfl, trivial⟩
 | .ptr _ _ => ⟨True, rfl, trivial⟩
 | .ref _ _ _ _ => ⟨True, by simp [frz], trivial⟩
 | .view _ _ _ => ⟨True, rfl, trivial⟩
 | .agg cs => by obtain ⟨c, h1, h2⟩ := zk9 H cs; exact ⟨c, by simp only [frz, h1], h2⟩
 | .tup cs => by obtain ⟨c, h1, h2⟩ := zk9 H cs; exact ⟨c, by simp only [frz, h1], h2⟩
 | .fnc _ _ => ⟨True, rfl, trivial⟩
 | .bnd _ _ _ => ⟨True, rfl, trivial⟩
 | .mapr _ => ⟨True, rfl, trivial⟩
theorem zk9 (H : Heap) : ∀ as : List AV, ∃ c, frzL H [] as = some (c, as) ∧ c
 | [] => ⟨True, rfl, trivial⟩
 | a :: as => by
  obtain ⟨c1, h1, h2⟩ := znz H a
  obtain ⟨c2, h3, h4⟩ := zk9 H as
  exact ⟨c1 ∧ c2, by simp only [frzL, h1, h3], h2, h4⟩
end
section
variable {P : Program} {fn : Func} {m : Nat} {out : AV} {Hout : List VObj} {mv : List Nat} {S : St}
theorem zln {cs : Prop} {vs : List AV} (hr : resL P S fn.results.toList = some (cs, vs)) (hc : cs) (ho : zig vs = out) (hb : zao 0 out = true) : ∃ fz new cs vs cf v, zgn P fn 0 S out [] [] fz new cs vs cf v := by
 obtain ⟨cf, h1, h2⟩ := znz S.H (zig vs)
 exact ⟨[], [], cs, vs, cf, zig vs, hr, hc, h1, h2, by simp, by rw [zfr hb, ho], hb, fun _ _ => .inr (Nat.zero_le _), .nil, by simp, rfl, by simp⟩
theorem zk {cs : Prop} {vs : List AV} (hr : resL P S fn.results.toList = some (cs, vs)) (hc : cs) (ho : zig vs = out) (hb : zao 0 out = true) : zas P fn 0 out [] [] .ret S := zln hr hc ho hb
def HasO (H : Heap) (f : Nat → Nat) (n : Nat) : Nat → List VObj → Prop
 | _, [] => True
 | k, o :: r => (hget H (f k) = some (renO f o) ∧ zbC n o = true) ∧ HasO H f n (k + 1) r
theorem zqJ {H : Heap} {f : Nat → Nat} {n : Nat} : ∀ {l : List VObj} {k : Nat}, HasO H f n k l → ∀ i o, l[i]? = some o → hget H (f (k + i)) = some (renO f o) ∧ zbC n o = true
 | [], _, _, i, o, h => by simp at h
 | x :: l, k, h, 0, o, ho => by simp at ho; subst ho; exact h.1
 | x :: l, k, h, i + 1, o, ho => by
  have := zqJ h.2 i o (by simpa using ho)
  rwa [show k + 1 + i = k + (i + 1) by omega] at this
theorem zx {f : FuncId} {code : Code} {args : List AV} {Hin : List VObj} (hf : P.funcs[f]? = some fn) (hb : fn.body = some code)
  (h : zaG P code (zas P fn Hin.length out Hout mv) (zqM args Hin fn.ntmps)) : Ok P f args Hin out Hout mv := ztm hf hb h
end
attribute [irreducible] zaG seqK blkK lupK scpK
end Go.Proofs.YtppnccjeggnllaaGreatVm
namespace Go.Proofs.YtppnccjeggnllaaGreatVm
open Go Go.RowKit
set_option linter.all false
def ziZ : PV → Bool
 | .slc _ _ _ => false
 | .nnl _ _ => false
 | _ => true
mutual
def solid : AV → Bool
 | .pv p => ziZ p
 | .pptr _ _ => false
 | .agg cs => zfI cs
 | .tup cs => zfI cs
 | .fnc _ cs => zfI cs
 | .bnd _ _ cs => zfI cs
 | _ => true
def zfI : List AV → Bool
 | [] => true
 | a :: as => solid a && zfI as
end
def znU : VObj → Prop
 | .row _ _ cs => ∀ p ∈ cs, ziZ p = true
 | .box cs => zfI cs = true
 | .mp _ => False
 | .arow _ _ cs => zfI cs = true
mutual
theorem Rep.solid {c c' : Ctx} {w w' : World} {ρ : Nat → Nat} (hφ : ∀ i loc, c.φ i = some loc → c'.φ (ρ i) = some loc) : ∀ (a : AV) (v : Value), solid a = true → Rep c w a v → Rep c' w' (ren ρ a) v
 | .undef, _, _, _ => by simp [ren, Rep]
 | .pv p, v, hs, h => by
  simp only [ren, Rep] at h ⊢
  cases p <;> simp_all [RepP, ziZ, YtppnccjeggnllaaGreatVm.solid]
 | .pptr cs off, v, hs, h => by simp [YtppnccjeggnllaaGreatVm.solid] at hs
 | .ptr id off, v, _, h => by simp only [ren, Rep] at h ⊢; obtain ⟨b, cap, h1, h2⟩ := h; exact ⟨b, cap, hφ _ _ h1, h2⟩
 | .ref id sz off n, v, _, h => by
  simp only [ren, Rep] at h ⊢
  rcases h with ⟨h1, h2⟩ | ⟨b, cap, a, h1, h2⟩
  ·exact .inl ⟨hφ _ _ h1, h2⟩
  ·exact .inr ⟨b, cap, a, hφ _ _ h1, h2⟩
 | .view id off n, v, _, h => by simp only [ren, Rep] at h ⊢; obtain ⟨b, cap, cp, a, h1, h2⟩ := h; exact ⟨b, cap, cp, a, hφ _ _ h1, h2⟩
 | .agg cs, v, hs, h => by simp only [ren, Rep, YtppnccjeggnllaaGreatVm.solid] at h hs ⊢; obtain ⟨vs, h1, h2⟩ := h; exact ⟨vs, h1, RepL.solid hφ cs _ hs h2⟩
 | .tup cs, v, hs, h => by simp only [ren, Rep, YtppnccjeggnllaaGreatVm.solid] at h hs ⊢; obtain ⟨vs, h1, h2⟩ := h; exact ⟨vs, h1, RepL.solid hφ cs _ hs h2⟩
 | .fnc f cs, v, hs, h => by simp only [ren, Rep, YtppnccjeggnllaaGreatVm.solid] at h hs ⊢; obtain ⟨vs, h1, h2⟩ := h; exact ⟨vs, h1, RepL.solid hφ cs _ hs h2⟩
 | .bnd f q cs, v, hs, h => by simp only [ren, Rep, YtppnccjeggnllaaGreatVm.solid] at h hs ⊢; obtain ⟨us, vs, h1, h0, h2⟩ := h; exact ⟨us, vs, h1, h0, RepL.solid hφ cs _ hs h2⟩
 | .mapr id, v, _, h => by simp only [ren, Rep] at h ⊢; obtain ⟨b, cap, h1, h2⟩ := h; exact ⟨b, cap, hφ _ _ h1, h2⟩
theorem RepL.solid {c c' : Ctx} {w w' : World} {ρ : Nat → Nat} (hφ : ∀ i loc, c.φ i = some loc → c'.φ (ρ i) = some loc) : ∀ (as : List AV) (vs : List Value), zfI as = true → RepL c w as vs → RepL c' w' (renL ρ as) vs
 | [], [], _, _ => by simp [renL, RepL]
 | a :: as, v :: vs, hs, h => by simp only [renL, RepL, zfI, Bool.and_eq_true] at h hs ⊢; exact ⟨Rep.solid hφ a v hs.1 h.1, RepL.solid hφ as vs hs.2 h.2⟩
 | [], _ :: _, _, h => by simp [RepL] at h
 | _ :: _, [], _, h => by simp [RepL] at h
end
theorem zpW (ρ : Nat → Nat) : ∀ l : List PV, renL ρ (l.map .pv) = l.map .pv
 | [] => rfl
 | x :: l => by simp [renL, ren, zpW ρ l]
theorem zlY : ∀ {l : List PV}, (∀ p ∈ l, ziZ p = true) → zfI (l.map .pv) = true
 | [], _ => rfl
 | x :: l, h => by simp only [List.map_cons, zfI, solid, Bool.and_eq_true]; exact ⟨h x (by simp), zlY (fun p hp => h p (List.mem_cons_of_mem _ hp))⟩
theorem zby.solid {c c' : Ctx} {w : World} {ρ : Nat → Nat} (hφ : ∀ i loc, c.φ i = some loc → c'.φ (ρ i) = some loc) {o : VObj} {loc : Loc} (hs : znU o) (h : zby c w o loc) : zby c' w (renO ρ o) loc := by
 cases o with
 | mp es => exact hs.elim
 | arow e sz cs =>
  cases loc with
  | virt => have h' : cs = [] := h; subst h'; rfl
  | blk b cap =>
   obtain ⟨arr, h1, h2, h3, h4, h5⟩ := h
   exact ⟨arr, h1, h2, h3, by rw [ze5]; exact h4, by rw [ze5]; exact RepL.solid hφ _ _ hs h5⟩
 | row e sz cs =>
  cases loc with
  | virt => exact h
  | blk b cap =>
   obtain ⟨arr, h1, h2, h3, h4, h5⟩ := h
   refine ⟨arr, h1, h2, h3, h4, ?_⟩
   have := RepL.solid (w' := w) hφ _ _ (zlY hs) h5
   rwa [zpW] at this
 | box cs =>
  cases loc with
  | virt => exact h
  | blk b cap =>
   obtain ⟨arr, t, h1, h5⟩ := h
   exact ⟨arr, t, h1, RepL.solid hφ _ _ hs h5⟩
mutual
theorem zpL (ρ σ : Nat → Nat) : ∀ a : AV, ren ρ (ren σ a) = ren (fun i => ρ (σ i)) a
 | .undef => rfl
 | .pv _ => rfl
 | .pptr _ _ => rfl
 | .ptr _ _ => rfl
 | .ref _ _ _ _ => rfl
 | .view _ _ _ => rfl
 | .agg cs => by simp only [ren, zef ρ σ cs]
 | .tup cs => by simp only [ren, zef ρ σ cs]
 | .fnc _ cs => by simp only [ren, zef ρ σ cs]
 | .bnd _ _ cs => by simp only [ren, zef ρ σ cs]
 | .mapr _ => rfl
theorem zef (ρ σ : Nat → Nat) : ∀ as : List AV, renL ρ (renL σ as) = renL (fun i => ρ (σ i)) as
 | [] => rfl
 | a :: as => by simp only [renL, zpL ρ σ a, zef ρ σ as]
end
def zqu : List VObj → Prop
 | [] => True
 | o :: r => znU o ∧ zqu r
theorem zl2 : ∀ {l : List VObj}, zqu l → ∀ o ∈ l, znU o
 | x :: l, h, o, ho => by
  rcases List.mem_cons.1 ho with rfl | ho
  ·exact h.1
  ·exact zl2 h.2 o ho
end Go.Proofs.YtppnccjeggnllaaGreatVm
namespace Go.Proofs.YtppnccjeggnllaaGreatVm
open Go Go.RowKit
set_option linter.all false
def InR (n : Int) : Prop := -9223372036854775808 ≤ n ∧ n ≤ 9223372036854775807
theorem zuf {n : Int} (h : InR n) : IntKind.i64.wrap n = n := by
 unfold InR at h
 rw [IntKind.wrap_i64]; omega
theorem znb {n : Int} (h1 : -9223372036854775808 ≤ n) (h2 : n ≤ 9223372036854775807) : IntKind.i64.wrap n = n := zuf ⟨h1, h2⟩
abbrev I (n : Int) : AV := .pv (.int .i64 n)
abbrev B (b : Bool) : AV := .pv (.bool b)
abbrev i64 (n : Int) : PV := .int .i64 n
def encI (l : List Int) : List PV := l.map fun n => .int .i64 n
section
variable {α : Type} {enc : α → List PV} {s : Nat} {l : List α}
theorem zaZ (hs : ∀ x, (enc x).length = s) : ∀ l : List α, (l.flatMap enc).length = l.length * s
 | [] => by simp
 | x :: l => by rw [List.flatMap_cons, List.length_append, hs, zaZ hs l, List.length_cons, Nat.succ_mul, Nat.add_comm]
theorem zmr (hs : ∀ x, (enc x).length = s) : ∀ (l : List α) (i : Nat), (l.flatMap enc).drop (i * s) = (l.drop i).flatMap enc
 | l, 0 => by simp
 | [], i + 1 => by simp
 | x :: l, i + 1 => by
  rw [List.flatMap_cons, Nat.succ_mul, Nat.add_comm, ← List.drop_drop]
  rw [show (enc x ++ l.flatMap enc).drop s = l.flatMap enc by rw [← hs x]; simp]
  rw [zmr hs l i, List.drop_succ_cons]
theorem zZ (hs : ∀ x, (enc x).length = s) {i : Nat} {x : α} (hx : l[i]? = some x) : ((l.flatMap enc).drop (i * s)).take s = enc x := by
 rw [zmr hs]
 obtain ⟨hi, rfl⟩ := List.getElem?_eq_some_iff.1 hx
 rw [List.drop_eq_getElem_cons hi, List.flatMap_cons, ← hs l[i]]
 simp
theorem zb7 (hs : ∀ x, (enc x).length = s) {i o : Nat} {x : α} {p : PV} (hx : l[i]? = some x) (hp : (enc x)[o]? = some p) (ho : o < s) : (l.flatMap enc)[i * s + o]? = some p := by
 have h1 := zZ hs hx
 rw [← h1, List.getElem?_take, if_pos ho, List.getElem?_drop] at hp
 exact hp
theorem zai (hs : ∀ x, (enc x).length = s) {i : Nat} (hi : i < l.length) : i * s + s ≤ (l.flatMap enc).length := by
 rw [zaZ hs, ← Nat.succ_mul]
 exact Nat.mul_le_mul_right s hi
theorem z3 (hs : ∀ x, (enc x).length = s) (h0 : 0 < s) {i : Nat} (hi : i < l.length) : l.flatMap enc ≠ [] := by
 intro e
 have := zai (l := l) hs hi
 rw [e] at this
 simp at this
 omega
theorem zlt (x : α) : (l ++ [x]).flatMap enc = l.flatMap enc ++ enc x := by simp
end
theorem zab (l : List Int) : (encI l).length = l.length * 1 := by simp [encI]
theorem zep {l : List Int} {i : Nat} {x : Int} (h : l[i]? = some x) : (encI l)[i * 1]? = some (.int .i64 x) := by simp [encI, h]
theorem zfF {l : List Int} {i : Nat} (h : i < l.length) : encI l ≠ [] := by
 intro e
 have := congrArg List.length e
 simp [encI] at this
 subst this
 simp at h
theorem zbJ (l : List Int) (x : Int) : encI (l ++ [x]) = encI l ++ [.int .i64 x] := by simp [encI]
theorem Ok.slc1 {P : Program} {f : FuncId} {n : Nat} {full : Bool} {cs : List PV} {out : AV} {Hout : List VObj} {mv : List Nat} (h1 : n = 0 → cs = [] → Ok P f [.pv .nils] [] out Hout mv) (h2 : Ok P f [.pv (.nnl n cs)] [] out Hout mv) : Ok P f [.pv (.slc n full cs)] [] out Hout mv := by
 intro c w vals hargs hrel hnone
 match vals, hargs with
 | [v], hargs =>
  simp only [RepL, Rep, RepP, and_true] at hargs
  obtain ⟨a, cap, hv, hn, hm, hf, hc⟩ := hargs
  cases a with
  | none =>
   rcases hc with ⟨h3, h4⟩ | ⟨b, off, h3, _⟩
   ·exact h1 h3 h4 c w [v] (by simp only [RepL, Rep, RepP, and_true]; exact ⟨cap, by rw [hv, h3]⟩) hrel hnone
   ·cases h3
  | some b =>
   refine h2 c w [v] ?_ hrel hnone
   simp only [RepL, Rep, RepP, and_true]
   refine ⟨b, cap, hv, hn, hm, hc.imp id ?_⟩
   rintro ⟨k, off, h3, h4⟩
   exact ⟨k, off, by cases h3; rfl, h4⟩
 | [], h => simp [RepL] at h
 | _ :: _ :: _, h => simp [RepL] at h
section
variable {P : Program} {ops : Array Oper} {dr : Bool} {j : Nat} {d : Nat} {op : Op} {type : TypeId} {pos : String} {after : Array Edge} {r : List Oper} {T : Tm} {H : Heap} {nx : Nat} {mv : List Nat} {nt lo : Nat} {Q : St → Prop} {c : Prop} {v : AV}
theorem zi {o : BinOp} {t u : TypeId} {x y : Operand} {a b : AV} (hn : zff y = false) (hx : St.ev ⟨T, H, nx, mv, nt, lo⟩ x = some a) (hy : St.ev ⟨T, H, nx, mv, nt, lo⟩ y = some b) (hb : bin P o t a b = some (c, v)) (hd : Nat.blt d nt = true) (hc : c)
  (h : zY P ops dr (j + 1) r ⟨(d, v) :: T, H, nx, mv, nt, lo⟩ Q) : zY P ops dr j ({ dst := some d, op := .binOp o t x y u, type := type, pos := pos, after := after, guard := none } :: r) ⟨T, H, nx, mv, nt, lo⟩ Q := by
 refine zh (c := c) ?_ hd hc h
 simp only [zcv, hn, hx, hy, hb, Option.map_some]
theorem zdF {t u : TypeId} {x y : Operand} {xs ys : List AV} {ks : List SK} {b : Bool} (hn : zff y = false) (hx : St.ev ⟨T, H, nx, mv, nt, lo⟩ x = some (.agg xs)) (hy : St.ev ⟨T, H, nx, mv, nt, lo⟩ y = some (.agg ys)) (hk : eqOk P t = some ks) (ha : tagg P t = some true) (hkx : zeB xs = some ks) (hky : zeB ys = some ks) (hr : ze1 xs ys = some b)
  (hd : Nat.blt d nt = true) (h : zY P ops dr (j + 1) r ⟨(d, .pv (.bool !b)) :: T, H, nx, mv, nt, lo⟩ Q) : zY P ops dr j ({ dst := some d, op := .binOp .neq t x y u, type := type, pos := pos, after := after, guard := none } :: r) ⟨T, H, nx, mv, nt, lo⟩ Q := by
 refine zi (v := .pv (.bool !b)) (c := True) hn hx hy ?_ hd trivial h
 simp only [bin, eqA, hk, hkx, hky, hr, ha, and_self, if_true, Option.map_some]
theorem zqV {t u : TypeId} {x y : Operand} {xs ys : List AV} {ks : List SK} {b : Bool} (hn : zff y = false) (hx : St.ev ⟨T, H, nx, mv, nt, lo⟩ x = some (.agg xs)) (hy : St.ev ⟨T, H, nx, mv, nt, lo⟩ y = some (.agg ys)) (hk : eqOk P t = some ks) (ha : tagg P t = some true) (hkx : zeB xs = some ks) (hky : zeB ys = some ks) (hr : ze1 xs ys = some b)
  (hd : Nat.blt d nt = true) (h : zY P ops dr (j + 1) r ⟨(d, .pv (.bool b)) :: T, H, nx, mv, nt, lo⟩ Q) : zY P ops dr j ({ dst := some d, op := .binOp .eql t x y u, type := type, pos := pos, after := after, guard := none } :: r) ⟨T, H, nx, mv, nt, lo⟩ Q := by
 refine zi (v := .pv (.bool b)) (c := True) hn hx hy ?_ hd trivial h
 simp only [bin, eqA, hk, hkx, hky, hr, ha, and_self, if_true, Option.map_some]
theorem znv {t : TypeId} {ad x : Operand} {id off sz : Nat} {e : TypeId} {cs cs' : List PV} {q : PV} {H' : Heap} (ha : St.ev ⟨T, H, nx, mv, nt, lo⟩ ad = some (.ptr id off)) (hx : St.ev ⟨T, H, nx, mv, nt, lo⟩ x = some (.pv q)) (hs : tsz P t = some 1)
  (hg : hget H id = some (.row e sz cs)) (hl : off < cs.length) (hcs : cs.set off q = cs') (htot : dr = false ∨ total ops j = true) (hH : hset H id (.row e sz cs') = H') (h : zY P ops dr (j + 1) r ⟨T, H', nx, mv, nt, lo⟩ Q) :
  zY P ops dr j ({ dst := none, op := .store t ad x, type := type, pos := pos, after := after, guard := none } :: r) ⟨T, H, nx, mv, nt, lo⟩ Q := by
 subst hcs
 exact zj7 ha hx hs rfl hg rfl (by show off + 1 ≤ cs.length; omega) htot hH h
theorem zJ {t e : TypeId} {x i : Operand} {s n k : Nat} {full : Bool} {cs : List PV} {kk : IntKind} (hx : St.ev ⟨T, H, nx, mv, nt, lo⟩ x = some (.pv (.slc n full cs))) (hi : St.ev ⟨T, H, nx, mv, nt, lo⟩ i = some (.pv (.int kk (k : Int)))) (ht : za1 P t = some e) (hs : tsz P e = some s)
  (hk : k < n) (hne : cs ≠ []) (hd : Nat.blt d nt = true) (h : zY P ops dr (j + 1) r ⟨(d, .pptr cs (k * s)) :: T, H, nx, mv, nt, lo⟩ Q) :
  zY P ops dr j ({ dst := some d, op := .indexAddr t x i, type := type, pos := pos, after := after, guard := none } :: r) ⟨T, H, nx, mv, nt, lo⟩ Q := by
 refine zh (c := 0 ≤ (k : Int) ∧ (k : Int) < n ∧ cs ≠ []) ?_ hd ⟨by omega, by omega, hne⟩ h
 simp only [zcv, hx, hi, intA, zha, ht, hs, Option.map_some, Int.toNat_natCast]
theorem zp6 {t e : TypeId} {x i : Operand} {s n k id : Nat} {kk : IntKind} (hx : St.ev ⟨T, H, nx, mv, nt, lo⟩ x = some (.ref id s 0 n)) (hi : St.ev ⟨T, H, nx, mv, nt, lo⟩ i = some (.pv (.int kk (k : Int)))) (ht : za1 P t = some e) (hs : tsz P e = some s)
  (hk : k < n) (hd : Nat.blt d nt = true) (h : zY P ops dr (j + 1) r ⟨(d, .ptr id (k * s)) :: T, H, nx, mv, nt, lo⟩ Q) :
  zY P ops dr j ({ dst := some d, op := .indexAddr t x i, type := type, pos := pos, after := after, guard := none } :: r) ⟨T, H, nx, mv, nt, lo⟩ Q := by
 refine zh (c := 0 ≤ (k : Int) ∧ (k : Int) < n) ?_ hd ⟨by omega, by omega⟩ h
 simp only [zcv, hx, hi, intA, zha, ht, hs, Option.map_some, Int.toNat_natCast, if_true, Nat.zero_add]
end
end Go.Proofs.YtppnccjeggnllaaGreatVm

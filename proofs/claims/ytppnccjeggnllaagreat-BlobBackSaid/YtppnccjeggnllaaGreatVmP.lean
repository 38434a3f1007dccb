import Derived.Test.YtppnccjeggnllaaGreatVmO
import Derived.Scope
namespace Go.Proofs.YtppnccjeggnllaaGreatVm
open Go Go.RowKit
set_option linter.all false
def zH (S S' : St) : Prop := ∀ B c w a, SRel B S c w a → ∃ c', SRel B S' c' w a
theorem zH.of_less {S S' : St} (h : Less S S') : zH S S' := fun _ _ _ _ hs => hs.less h
theorem zH.trans {S S' S'' : St} (h : zH S S') (h' : zH S' S'') : zH S S'' := fun B c w a hs => by
 obtain ⟨c', hs'⟩ := h B c w a hs
 exact h' B c' w a hs'
def zO (P : Program) (x : Code) (Q : Exit → St → Prop) (S : St) : Prop := ∀ B c w a, SRel B S c w a → x.wp P (AreE B Q) a w
def seqK (P : Program) (y : Code) (Q : Exit → St → Prop) (e : Exit) (S : St) : Prop := match e with | .normal => zO P y Q S | e => Q e S
def blkK (id : Nat) (Q : Exit → St → Prop) (e : Exit) (S : St) : Prop := match e with | .exit id' => if id' = id then Q .normal S else Q (.exit id') S | e => Q e S
def lupK (R : Nat → St → Prop) (d : Nat) (Q : Exit → St → Prop) (e : Exit) (S : St) : Prop := match e with | .normal => ∃ d' S', d' < d ∧ zH S S' ∧ R d' S' | e => Q e S
def scpK (Q : Exit → St → Prop) (e : Exit) (S : St) : Prop := match e with | .goto _ => False | e => Q e S
section
variable {P : Program} {x y : Code} {Q Q' : Exit → St → Prop} {S S' : St}
theorem zic (h : zcI P x Q S) : zO P x Q S := fun _ c w a hs => zce x Q S c w a h hs
theorem zA (h : Q .normal S) : zO P .skip Q S := zic h
theorem zhg {n} (h : Q .normal S) : zO P (.label n) Q S := zic h
theorem zo (h : Q .ret S) : zO P .ret Q S := zic h
theorem zV {id} (h : Q (.exit id) S) : zO P (.exit id) Q S := zic h
theorem zb {k ops l} (hl : ops.toList = l) (h : zY P ops false 0 l S (Q .normal)) : zO P (.region k ops false) Q S := zic (by
 simp only [zcI, hl]; exact h)
theorem zaW {k ops l} (hm : P.follows .mixedOrders = true) (hd : zf0 ops = true) (hl : ops.toList = l) (h : zY P ops true 0 l S (Q .normal)) : zO P (.region k ops true) Q S := zic (by
 simp only [zcI, hl]; exact ⟨hm, hd, h⟩)
theorem zd (h : zO P x (seqK P y Q) S) : zO P (.seq x y) Q S := fun B c w a hs =>
 wp_seq (Code.wp_mono (fun e a w ⟨S1, c1, h1, h2⟩ => by
  cases e with
  | normal => exact h1 B c1 w a h2
  | _ => exact ⟨S1, c1, h1, h2⟩) (h B c w a hs))
theorem zy {cd : Operand} {b : Bool} (hb : S.ev cd = some (.pv (.bool b))) (h1 : b = true → zO P x Q S) (h2 : b = false → zO P y Q S) : zO P (.cond cd x y) Q S := fun B c w a hs => by
 have hr := zb7 hs hb
 simp only [Rep, RepP] at hr
 cases b with
 | true => exact wp_cond hr (h1 rfl B c w a hs)
 | false => exact wp_cond hr (h2 rfl B c w a hs)
theorem zP {cd : Operand} (hb : S.ev cd = some (.pv (.bool true))) (h1 : zO P x Q S) : zO P (.cond cd x y) Q S := zy hb (fun _ => h1) (fun h => by cases h)
theorem zd5 {cd : Operand} (hb : S.ev cd = some (.pv (.bool false))) (h1 : zO P y Q S) : zO P (.cond cd x y) Q S := zy hb (fun h => by cases h) (fun _ => h1)
theorem zC {id} (h : zO P x (blkK id Q) S) : zO P (.block id x) Q S := fun B c w a hs => by
 refine wp_block (Code.wp_mono (fun e a w h => ?_) (h B c w a hs))
 obtain ⟨S', c', h1, h2⟩ := h
 cases e with
 | exit id' =>
  simp only [Exit.inBlock]
  simp only [blkK] at h1
  split
  ·rename_i e; rw [if_pos e] at h1; exact ⟨S', c', h1, h2⟩
  ·rename_i e; rw [if_neg e] at h1; exact ⟨S', c', h1, h2⟩
 | _ => exact ⟨S', c', h1, h2⟩
theorem zhr (h : zO P x (scpK Q) S) : zO P (.scope x) Q S := fun B c w a hs =>
 wp_scope_straight (Code.wp_mono (fun e a w ⟨S1, c1, h1, h2⟩ => by
  cases e with
  | goto l => exact h1.elim
  | _ => exact ⟨S1, c1, h1, h2⟩) (h B c w a hs))
theorem zpB (R : Nat → St → Prop) {d S'} (hl : Less S S') (hR : R d S') (round : ∀ d S, R d S → zO P x (lupK R d Q) S) : zO P (.loop x) Q S := fun B c w a hs => by
 obtain ⟨c', hs'⟩ := hs.less hl
 refine zfe (fun d a w => ∃ S c, R d S ∧ SRel B S c w a) ⟨S', c', hR, hs'⟩ (fun d a w hI => ?_)
 obtain ⟨S1, c1, hR1, hs1⟩ := hI
 refine Code.wp_mono (fun e a w h => ?_) (round d S1 hR1 B c1 w a hs1)
 obtain ⟨S2, c2, h1, h2⟩ := h
 cases e with
 | normal =>
  obtain ⟨d', S3, hlt, hl3, hR3⟩ := h1
  obtain ⟨c3, hs3⟩ := hl3 _ _ _ _ h2
  exact ⟨d', hlt, S3, c3, hR3, hs3⟩
 | _ => exact ⟨S2, c2, h1, h2⟩
theorem zbk {α : Type} (st : α → St) (I : α → Prop) (μ : α → Nat) (a0 : α) (h0 : I a0) (hl : Less S (st a0)) (round : ∀ a, I a → zO P x (lupK (fun d S => ∃ a, I a ∧ μ a = d ∧ S = st a) (μ a) Q) (st a)) : zO P (.loop x) Q S :=
 zpB (fun d S => ∃ a, I a ∧ μ a = d ∧ S = st a) hl ⟨a0, h0, rfl, rfl⟩ (fun d S ⟨a, h1, h2, h3⟩ => by subst h2; subst h3; exact round a h1)
theorem z5 {α : Type} {st : α → St} {I : α → Prop} {μ : α → Nat} {d : Nat} (a : α) (h : I a) (hd : μ a < d) (hl : zH S (st a)) : lupK (fun d S => ∃ a, I a ∧ μ a = d ∧ S = st a) d Q .normal S := ⟨_, _, hd, hl, a, h, rfl, rfl⟩
theorem zca {α : Type} {st : α → St} {I : α → Prop} {μ : α → Nat} {d : Nat} (a : α) (h : I a) (hd : μ a < d) (hl : Less S (st a)) : lupK (fun d S => ∃ a, I a ∧ μ a = d ∧ S = st a) d Q .normal S := ⟨_, _, hd, .of_less hl, a, h, rfl, rfl⟩
theorem ze (h : zO P y Q S) : seqK P y Q .normal S := h
theorem zac {id} (h : Q (.exit id) S) : seqK P y Q (.exit id) S := h
theorem zI (h : Q .ret S) : seqK P y Q .ret S := h
theorem zar {id} (h : Q .normal S) : blkK id Q .normal S := h
theorem zad {id} (h : Q .ret S) : blkK id Q .ret S := h
theorem zak {id id'} (e : id' = id) (h : Q .normal S) : blkK id Q (.exit id') S := by simp only [blkK, if_pos e]; exact h
theorem zfa {id id'} (e : (id' == id) = false) (h : Q (.exit id') S) : blkK id Q (.exit id') S := by simp only [blkK, if_neg (ne_of_beq_false e)]; exact h
theorem znh (h : Q .ret S) : scpK Q .ret S := h
theorem zal {R d id} (h : Q (.exit id) S) : lupK R d Q (.exit id) S := h
theorem zbH {R d} (h : Q .ret S) : lupK R d Q .ret S := h
end
def HasT (m : Nat) (T : Tm) : Tm → Prop
 | [] => True
 | (k, v) :: r => (tget T k = some v ∧ za8 m v = true) ∧ HasT m T r
def HasH (m : Nat) (H : Heap) : Heap → Prop
 | [] => True
 | (k, o) :: r => (hget H k = some o ∧ zdc m o = true ∧ Nat.blt k m = true) ∧ HasH m H r
theorem zmS {m : Nat} {T : Tm} : ∀ {T' : Tm}, HasT m T T' → ∀ x ∈ T', tget T x.1 = some x.2 ∧ za8 m x.2 = true
 | (k, v) :: r, h, x, hx => by
  simp only [HasT] at h
  rcases List.mem_cons.1 hx with rfl | hx
  ·exact h.1
  ·exact zmS h.2 x hx
theorem znD {m : Nat} {H : Heap} : ∀ {H' : Heap}, HasH m H H' → ∀ x ∈ H', hget H x.1 = some x.2 ∧ zdc m x.2 = true ∧ x.1 < m
 | (k, v) :: r, h, x, hx => by
  simp only [HasH] at h
  rcases List.mem_cons.1 hx with rfl | hx
  ·exact ⟨h.1.1, h.1.2.1, by have := h.1.2.2; simp only [Nat.blt_eq] at this; exact this⟩
  ·exact znD h.2 x hx
theorem zaa {T T' : Tm} {H H' : Heap} {nx nx' : Nat} {mv mv' : List Nat} {nt lo : Nat} (hn : Nat.ble lo nx' = true) (ht : HasT nx' T T') (hh : HasH nx' H H') (hm : ∀ x ∈ mv, x ∈ mv' ∨ lo ≤ x) : Less ⟨T, H, nx, mv, nt, lo⟩ ⟨T', H', nx', mv', nt, lo⟩ :=
 ⟨zmS ht, znD hh, hm, rfl, rfl, by simpa [Nat.ble_eq] using hn⟩
mutual
theorem zew {ρ : Nat → Nat} : ∀ {a : AV}, za8 0 a = true → ren ρ a = a
 | .undef, _ => rfl
 | .pv _, _ => rfl
 | .pptr _ _, _ => rfl
 | .ptr _ _, h => by simp [za8] at h
 | .ref _ _ _ _, h => by simp [za8] at h
 | .view _ _ _, h => by simp [za8] at h
 | .agg cs, h => by simp only [za8] at h; simp only [ren, zdr h]
 | .tup cs, h => by simp only [za8] at h; simp only [ren, zdr h]
 | .fnc _ cs, h => by simp only [za8] at h; simp only [ren, zdr h]
 | .bnd _ _ cs, h => by simp only [za8] at h; simp only [ren, zdr h]
 | .mapr _, h => by simp [za8] at h
theorem zdr {ρ : Nat → Nat} : ∀ {as : List AV}, za4 0 as = true → renL ρ as = as
 | [], _ => rfl
 | a :: as, h => by simp only [za4, Bool.and_eq_true] at h; simp only [renL, zew h.1, zdr h.2]
end
section
variable {P : Program} {ops : Array Oper} {dr : Bool} {j : Nat} {d : Nat} {op : Op} {type : TypeId} {pos : String} {after : Array Edge} {r : List Oper} {T : Tm} {H : Heap} {nx : Nat} {mv : List Nat} {nt lo : Nat} {Q : St → Prop} {c : Prop} {v : AV}
theorem zc {S : St} (h : Q S) : zY P ops dr j [] S Q := h
theorem za (he : zcp P (St.ev ⟨T, H, nx, mv, nt, lo⟩) H nx op type = some (c, v, none)) (hd : Nat.blt d nt = true) (hc : c) (h : zY P ops dr (j + 1) r ⟨(d, v) :: T, H, nx, mv, nt, lo⟩ Q) :
  zY P ops dr j ({ dst := some d, op := op, type := type, pos := pos, after := after, guard := none } :: r) ⟨T, H, nx, mv, nt, lo⟩ Q := by
 refine zcM ?_
 simp only [zh8, zbV, zdn, zdk, he]
 exact ⟨by simpa [Nat.blt_eq] using hd, hc, h⟩
theorem zB {o : VObj} {nx' : Nat} (he : zcp P (St.ev ⟨T, H, nx, mv, nt, lo⟩) H nx op type = some (c, v, some o)) (hn : nx + 1 = nx') (hd : Nat.blt d nt = true) (hc : c) (h : zY P ops dr (j + 1) r ⟨(d, v) :: T, (nx, o) :: H, nx', mv, nt, lo⟩ Q) :
  zY P ops dr j ({ dst := some d, op := op, type := type, pos := pos, after := after, guard := none } :: r) ⟨T, H, nx, mv, nt, lo⟩ Q := by
 subst hn
 refine zcM ?_
 simp only [zh8, zbV, zdn, zdk, he]
 exact ⟨by simpa [Nat.blt_eq] using hd, hc, h⟩
theorem zr {cd a b : Operand} {t : Bool} (hc : St.ev ⟨T, H, nx, mv, nt, lo⟩ cd = some (.pv (.bool t))) (ht : t = true) (ha : St.ev ⟨T, H, nx, mv, nt, lo⟩ a = some v) (hd : Nat.blt d nt = true) (h : zY P ops dr (j + 1) r ⟨(d, v) :: T, H, nx, mv, nt, lo⟩ Q) :
  zY P ops dr j ({ dst := some d, op := .pick cd a b, type := type, pos := pos, after := after, guard := none } :: r) ⟨T, H, nx, mv, nt, lo⟩ Q := by
 subst ht
 refine za (c := True) ?_ hd trivial h
 simp only [zcp, hc, ha, if_true, Option.map_some]
theorem zt {cd a b : Operand} {t : Bool} (hc : St.ev ⟨T, H, nx, mv, nt, lo⟩ cd = some (.pv (.bool t))) (ht : t = false) (ha : St.ev ⟨T, H, nx, mv, nt, lo⟩ b = some v) (hd : Nat.blt d nt = true) (h : zY P ops dr (j + 1) r ⟨(d, v) :: T, H, nx, mv, nt, lo⟩ Q) :
  zY P ops dr j ({ dst := some d, op := .pick cd a b, type := type, pos := pos, after := after, guard := none } :: r) ⟨T, H, nx, mv, nt, lo⟩ Q := by
 subst ht
 refine za (c := True) ?_ hd trivial h
 simp [zcp, hc, ha]
theorem zg {S : St} {o : Option Tmp} {g : Nat × Bool} {b w : Bool} (hg : zbV ops S { dst := o, op := op, type := type, pos := pos, after := after, guard := some g } = some (b == w)) (hb : b = w) (h : zY P ops dr j ({ dst := o, op := op, type := type, pos := pos, after := after, guard := none } :: r) S Q) :
  zY P ops dr j ({ dst := o, op := op, type := type, pos := pos, after := after, guard := some g } :: r) S Q := by
 subst hb
 simp only [beq_self_eq_true] at hg
 simp only [zY, opWp, hg] at h ⊢
 exact h
theorem zh {g : Nat × Bool} {b w : Bool} (hg : zbV ops ⟨T, H, nx, mv, nt, lo⟩ { dst := some d, op := op, type := type, pos := pos, after := after, guard := some g } = some (b == w)) (hb : b = !w) (hd : Nat.blt d nt = true) (h : zY P ops dr (j + 1) r ⟨(d, .tup []) :: T, H, nx, mv, nt, lo⟩ Q) :
  zY P ops dr j ({ dst := some d, op := op, type := type, pos := pos, after := after, guard := some g } :: r) ⟨T, H, nx, mv, nt, lo⟩ Q := by
 subst hb
 have hg' : ((!w) == w) = false := by cases w <;> rfl
 rw [hg'] at hg
 simp only [zY, opWp, hg, zdn]
 exact ⟨by simpa [Nat.blt_eq] using hd, h⟩
theorem zf {g : Nat × Bool} (hg : zbV ops ⟨T, H, nx, mv, nt, lo⟩ { dst := some d, op := op, type := type, pos := pos, after := after, guard := some g } = some false) (hd : Nat.blt d nt = true) (h : zY P ops dr (j + 1) r ⟨(d, .tup []) :: T, H, nx, mv, nt, lo⟩ Q) :
  zY P ops dr j ({ dst := some d, op := op, type := type, pos := pos, after := after, guard := some g } :: r) ⟨T, H, nx, mv, nt, lo⟩ Q := by
 simp only [zY, opWp, hg, zdn]
 exact ⟨by simpa [Nat.blt_eq] using hd, h⟩
inductive PurT (k : List Nat) : Tm → Tm → Prop
 | nil : PurT k [] []
 | keep {t v T T'} (e : purge k v = v) (h : PurT k T T') : PurT k ((t, v) :: T) ((t, v) :: T')
 | lose {t v v' T T'} (e : purge k v = v') (h : PurT k T T') : PurT k ((t, v) :: T) ((t, v') :: T')
theorem PurT.eq {k : List Nat} {T T' : Tm} (h : PurT k T T') : zgL k T = T' := by
 induction h with
 | nil => rfl
 | keep e _ ih => simp only [zgL, List.map_cons, e] at ih ⊢; rw [ih]
 | lose e _ ih => simp only [zgL, List.map_cons, e] at ih ⊢; rw [ih]
inductive PurH (k : List Nat) : Heap → Heap → Prop
 | nil : PurH k [] []
 | keep {t v T T'} (e : zev k v = v) (h : PurH k T T') : PurH k ((t, v) :: T) ((t, v) :: T')
 | lose {t v v' T T'} (e : zev k v = v') (h : PurH k T T') : PurH k ((t, v) :: T) ((t, v') :: T')
theorem PurH.eq {k : List Nat} {T T' : Heap} (h : PurH k T T') : zdW k T = T' := by
 induction h with
 | nil => rfl
 | keep e _ ih => simp only [zdW, List.map_cons, e] at ih ⊢; rw [ih]
 | lose e _ ih => simp only [zdW, List.map_cons, e] at ih ⊢; rw [ih]
theorem zoW {x y : Operand} {ts : Array TypeId} {k : IntKind} {p q : Int} (hx : St.ev ⟨T, H, nx, mv, nt, lo⟩ x = some (.pv (.int k p))) (hy : St.ev ⟨T, H, nx, mv, nt, lo⟩ y = some (.pv (.int k q))) (hd : Nat.blt d nt = true) (h : zY P ops dr (j + 1) r ⟨(d, .pv (.int k (max p q))) :: T, H, nx, mv, nt, lo⟩ Q) :
  zY P ops dr j ({ dst := some d, op := .call { callee := .builtin .max, args := #[x, y], argTypes := ts }, type := type, pos := pos, after := after, guard := none } :: r) ⟨T, H, nx, mv, nt, lo⟩ Q := by
 refine za (c := True) ?_ hd trivial h
 have e : (if p < q then q else p) = max p q := by omega
 simp only [zcp, evs, hx, hy, zeN, zhW, mm, if_true, decide_eq_true_eq, e, Option.map_some]
theorem zpP {x y : Operand} {ts : Array TypeId} {k : IntKind} {p q : Int} (hx : St.ev ⟨T, H, nx, mv, nt, lo⟩ x = some (.pv (.int k p))) (hy : St.ev ⟨T, H, nx, mv, nt, lo⟩ y = some (.pv (.int k q))) (hd : Nat.blt d nt = true) (h : zY P ops dr (j + 1) r ⟨(d, .pv (.int k (min p q))) :: T, H, nx, mv, nt, lo⟩ Q) :
  zY P ops dr j ({ dst := some d, op := .call { callee := .builtin .min, args := #[x, y], argTypes := ts }, type := type, pos := pos, after := after, guard := none } :: r) ⟨T, H, nx, mv, nt, lo⟩ Q := by
 refine za (c := True) ?_ hd trivial h
 have e : (if q < p then q else p) = min p q := by omega
 simp only [zcp, evs, hx, hy, zeN, zhW, mm, if_true, decide_eq_true_eq, e, Option.map_some]
theorem zK {S : St} {o : Oper} {b w : Bool} (hg : zbV ops S o = some (b == w)) (h1 : b = true → zY P ops dr j (o :: r) S Q) (h2 : b = false → zY P ops dr j (o :: r) S Q) : zY P ops dr j (o :: r) S Q := by
 cases b
 ·exact h2 rfl
 ·exact h1 rfl
theorem zit {t : TypeId} {ad x : Operand} {id off s : Nat} {o o' : VObj} {H' : Heap} (ha : St.ev ⟨T, H, nx, mv, nt, lo⟩ ad = some (.ptr id off)) (hx : St.ev ⟨T, H, nx, mv, nt, lo⟩ x = some v) (hs : tsz P t = some s)
  (hv : (told v && (za0 v).all one && Nat.beq (za0 v).length s) = true) (hg : hget H id = some o) (ho : zeM o off (za0 v) = some (c, o')) (hc : c) (htot : dr = false ∨ total ops j = true) (hH : hset H id o' = H') (h : zY P ops dr (j + 1) r ⟨T, H', nx, mv, nt, lo⟩ Q) :
  zY P ops dr j ({ dst := none, op := .store t ad x, type := type, pos := pos, after := after, guard := none } :: r) ⟨T, H, nx, mv, nt, lo⟩ Q := by
 subst hH
 simp only [Bool.and_eq_true] at hv
 have hv' := Nat.eq_of_beq_eq_true hv.2
 refine zcM ?_
 simp only [zh8, zbV, zdn, zdk, zcp, zgW, ha, hx, hs, hg, ho]
 simp only [hv.1.1, hv.1.2, hv', if_true, and_self]
 exact ⟨trivial, htot, hc, h⟩
theorem zkD {a1 a2 : Operand} {t u e : TypeId} {id sz n m n' by' : Nat} {cs new zs : List PV} {x : AV} {T' : Tm} {H' H'' : Heap}
  (ha : St.ev ⟨T, H, nx, mv, nt, lo⟩ a1 = some (.ref id sz 0 n)) (hx : St.ev ⟨T, H, nx, mv, nt, lo⟩ a2 = some x) (hg : hget H id = some (.row e sz cs)) (hn : zch H x = some (m, new)) (hte : zcE P t = some e) (hsz : tsz P e = some sz) (hby : ze9 P e = some by') (hz : zdM P e = some zs)
  (hsub : tsub P u e = true) (hk : (Nat.blt 0 sz && Nat.beq zs.length sz && Nat.ble by' 1024) = true) (hl : cs.length = n * sz) (hl' : new.length = m * sz) (hmx : n + m ≤ zM) (hnm : n + m = n') (htot : dr = false ∨ total ops j = true) (hd : Nat.blt d nt = true)
  (hH : hset H id (.row e sz (cs ++ new)) = H') (hp : PurH [id] H' H'') (hT : PurT [id] T T') (h : zY P ops dr (j + 1) r ⟨(d, .ref id sz 0 n') :: T', H'', nx, id :: mv, nt, lo⟩ Q) :
  zY P ops dr j ({ dst := some d, op := .call { callee := .builtin .append, args := #[a1, a2], argTypes := #[t, u] }, type := type, pos := pos, after := after, guard := none } :: r) ⟨T, H, nx, mv, nt, lo⟩ Q := by
 subst hH
 subst hnm
 simp only [Bool.and_eq_true, Nat.blt_eq, Nat.ble_eq] at hk
 have hr : zcp P (St.ev ⟨T, H, nx, mv, nt, lo⟩) H nx (.call { callee := .builtin .append, args := #[a1, a2], argTypes := #[t, u] }) type = none := by
  simp only [zcp, evs, ha, hx, zeN]
 have hw : zgW P (St.ev ⟨T, H, nx, mv, nt, lo⟩) H (.call { callee := .builtin .append, args := #[a1, a2], argTypes := #[t, u] }) = some (0 < sz ∧ zs.length = sz ∧ cs.length = n * sz ∧ new.length = m * sz ∧ n + m ≤ zM ∧ by' ≤ 1024, some (.ref id sz 0 (n + m)), hset H id (.row e sz (cs ++ new)), some id) := by
  simp only [zgW, evs, ha, hx, hg, hn, hte, hsz, hby, hz, hsub, and_self, if_true]
 refine zcM ?_
 simp only [zh8, zbV, zdn, zdk, hr, hw]
 refine ⟨by simpa [Nat.blt_eq] using hd, htot, ⟨hk.1.1, Nat.eq_of_beq_eq_true hk.1.2, hl, hl', hmx, hk.2⟩, ?_⟩
 simp only [St.applyW, tput, Option.getD_some, hT.eq, hp.eq]
 exact h
theorem zJ {t : TypeId} {ad : Operand} {cs ps : List PV} {off s : Nat} (ha : St.ev ⟨T, H, nx, mv, nt, lo⟩ ad = some (.pptr cs off)) (hg : tagg P t = some true) (hs : tsz P t = some s) (hl : off + s ≤ cs.length) (hp : (cs.drop off).take s = ps)
  (hd : Nat.blt d nt = true) (h : zY P ops dr (j + 1) r ⟨(d, .agg (ps.map .pv)) :: T, H, nx, mv, nt, lo⟩ Q) :
  zY P ops dr j ({ dst := some d, op := .load t ad, type := type, pos := pos, after := after, guard := none } :: r) ⟨T, H, nx, mv, nt, lo⟩ Q := by
 refine za (c := off + s ≤ cs.length) ?_ hd hl h
 simp only [zcp, ha, zi5, hg, hs, hp, Option.map_some]
theorem zaf {t : TypeId} {ad : Operand} {cs : List PV} {p : PV} {off s : Nat} (ha : St.ev ⟨T, H, nx, mv, nt, lo⟩ ad = some (.pptr cs off)) (hg : tagg P t = some false) (hs : tsz P t = some s) (hp : cs[off]? = some p)
  (hd : Nat.blt d nt = true) (h : zY P ops dr (j + 1) r ⟨(d, .pv p) :: T, H, nx, mv, nt, lo⟩ Q) :
  zY P ops dr j ({ dst := some d, op := .load t ad, type := type, pos := pos, after := after, guard := none } :: r) ⟨T, H, nx, mv, nt, lo⟩ Q := by
 refine za (c := True) ?_ hd trivial h
 simp only [zcp, ha, zi5, hg, hs, hp, Option.map_some]
theorem zhZ {t : TypeId} {ad : Operand} {id sz : Nat} {e : TypeId} {cs : List PV} {p : PV} {off s : Nat} (ha : St.ev ⟨T, H, nx, mv, nt, lo⟩ ad = some (.ptr id off)) (ho : hget H id = some (.row e sz cs)) (hg : tagg P t = some false) (hs : tsz P t = some s) (hp : cs[off]? = some p)
  (hd : Nat.blt d nt = true) (h : zY P ops dr (j + 1) r ⟨(d, .pv p) :: T, H, nx, mv, nt, lo⟩ Q) :
  zY P ops dr j ({ dst := some d, op := .load t ad, type := type, pos := pos, after := after, guard := none } :: r) ⟨T, H, nx, mv, nt, lo⟩ Q := by
 refine za (c := True) ?_ hd trivial h
 simp only [zcp, ha, ho, zi5, hg, hs, hp, Option.map_some]
theorem zF {f : FuncId} {A : List AV} {out : AV} (hr : zcp P (St.ev ⟨T, H, nx, mv, nt, lo⟩) H nx op type = none) (hw : zgW P (St.ev ⟨T, H, nx, mv, nt, lo⟩) H op = none) (hcal : callee ⟨T, H, nx, mv, nt, lo⟩ op = some (f, A)) (hent : zd4 P f = true)
  (hok : Ok P f A [] out [] []) (hA : za4 0 A = true) (ho : za8 0 out = true) (hd : Nat.blt d nt = true) (h : zY P ops dr (j + 1) r ⟨(d, out) :: T, H, nx, mv, nt, lo⟩ Q) :
  zY P ops dr j ({ dst := some d, op := op, type := type, pos := pos, after := after, guard := none } :: r) ⟨T, H, nx, mv, nt, lo⟩ Q := by
 refine zcM ?_
 simp only [zh8, zbV, zdn, zdk, hr, hw, hcal]
 refine ⟨by simpa [Nat.blt_eq] using hd, hent, .inl ⟨[], A, [], out, [], ⟨by simpa using hok, zdr hA, hA, .nil, by simp, rfl, by simp, by simp⟩, ?_⟩⟩
 simpa [St.afterCallQ, tput, idx, zew ho] using h
end
mutual
theorem znL (H : Heap) : ∀ a : AV, ∃ c, frz H [] a = some (c, a) ∧ c
 | .undef => ⟨True, rfl, trivial⟩
 | .pv _ => ⟨True, rfl, trivial⟩
 | .pptr _ _ => ⟨True, rfl, trivial⟩
 | .ptr _ _ => ⟨True, rfl, trivial⟩
 | .ref _ _ _ _ => ⟨True, by simp [frz], trivial⟩
 | .view _ _ _ => ⟨True, rfl, trivial⟩
 | .agg cs => by obtain ⟨c, h1, h2⟩ := zjb H cs; exact ⟨c, by simp only [frz, h1], h2⟩
 | .tup cs => by obtain ⟨c, h1, h2⟩ := zjb H cs; exact ⟨c, by simp only [frz, h1], h2⟩
 | .fnc _ _ => ⟨True, rfl, trivial⟩
 | .bnd _ _ _ => ⟨True, rfl, trivial⟩
 | .mapr _ => ⟨True, rfl, trivial⟩
theorem zjb (H : Heap) : ∀ as : List AV, ∃ c, frzL H [] as = some (c, as) ∧ c
 | [] => ⟨True, rfl, trivial⟩
 | a :: as => by
  obtain ⟨c1, h1, h2⟩ := znL H a
  obtain ⟨c2, h3, h4⟩ := zjb H as
  exact ⟨c1 ∧ c2, by simp only [frzL, h1, h3], h2, h4⟩
end
section
variable {P : Program} {fn : Func} {m : Nat} {out : AV} {Hout : List VObj} {mv : List Nat} {S : St}
theorem ziP {cs : Prop} {vs : List AV} (hr : resL P S fn.results.toList = some (cs, vs)) (hc : cs) (ho : zjl vs = out) (hb : za8 0 out = true) : ∃ fz new cs vs cf v, zgj P fn 0 S out [] [] fz new cs vs cf v := by
 obtain ⟨cf, h1, h2⟩ := znL S.H (zjl vs)
 exact ⟨[], [], cs, vs, cf, zjl vs, hr, hc, h1, h2, by simp, by rw [zew hb, ho], hb, fun _ _ => .inr (Nat.zero_le _), .nil, by simp, rfl, by simp⟩
theorem zp {cs : Prop} {vs : List AV} (hr : resL P S fn.results.toList = some (cs, vs)) (hc : cs) (ho : zjl vs = out) (hb : za8 0 out = true) : zaM P fn 0 out [] [] .ret S := ziP hr hc ho hb
def HasO (H : Heap) (f : Nat → Nat) (n : Nat) : Nat → List VObj → Prop
 | _, [] => True
 | k, o :: r => (hget H (f k) = some (renO f o) ∧ zdc n o = true) ∧ HasO H f n (k + 1) r
theorem znn {H : Heap} {f : Nat → Nat} {n : Nat} : ∀ {l : List VObj} {k : Nat}, HasO H f n k l → ∀ i o, l[i]? = some o → hget H (f (k + i)) = some (renO f o) ∧ zdc n o = true
 | [], _, _, i, o, h => by simp at h
 | x :: l, k, h, 0, o, ho => by simp at ho; subst ho; exact h.1
 | x :: l, k, h, i + 1, o, ho => by
  have := znn h.2 i o (by simpa using ho)
  rwa [show k + 1 + i = k + (i + 1) by omega] at this
theorem zz {f : FuncId} {code : Code} {args : List AV} {Hin : List VObj} (hf : P.funcs[f]? = some fn) (hb : fn.body = some code)
  (h : zO P code (zaM P fn Hin.length out Hout mv) (zpq args Hin fn.ntmps)) : Ok P f args Hin out Hout mv := zp8 hf hb h
end
attribute [irreducible] zO seqK blkK lupK scpK
end Go.Proofs.YtppnccjeggnllaaGreatVm

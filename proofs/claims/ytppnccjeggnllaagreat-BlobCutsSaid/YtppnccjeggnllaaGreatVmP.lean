import Derived.Test.YtppnccjeggnllaaGreatVmO
import Derived.Scope
namespace Go.Proofs.YtppnccjeggnllaaGreatVm
open Go Go.RowKit
set_option linter.all false
def Trans (S S' : St) : Prop := ∀ B c w a, SRel B S c w a → ∃ c', SRel B S' c' w a
theorem Trans.of_less {S S' : St} (h : Less S S') : Trans S S' := fun _ _ _ _ hs => hs.less h
theorem Trans.trans {S S' S'' : St} (h : Trans S S') (h' : Trans S' S'') : Trans S S'' := fun B c w a hs => by
  obtain ⟨c', hs'⟩ := h B c w a hs
  exact h' B c' w a hs'
def Walks (P : Program) (x : Code) (Q : Exit → St → Prop) (S : St) : Prop := ∀ B c w a, SRel B S c w a → x.wp P (AreE B Q) a w
def seqK (P : Program) (y : Code) (Q : Exit → St → Prop) (e : Exit) (S : St) : Prop := match e with | .normal => Walks P y Q S | e => Q e S
def blkK (id : Nat) (Q : Exit → St → Prop) (e : Exit) (S : St) : Prop := match e with | .exit id' => if id' = id then Q .normal S else Q (.exit id') S | e => Q e S
def lupK (R : Nat → St → Prop) (d : Nat) (Q : Exit → St → Prop) (e : Exit) (S : St) : Prop := match e with | .normal => ∃ d' S', d' < d ∧ Trans S S' ∧ R d' S' | e => Q e S
def scpK (Q : Exit → St → Prop) (e : Exit) (S : St) : Prop := match e with | .goto _ => False | e => Q e S
section
variable {P : Program} {x y : Code} {Q Q' : Exit → St → Prop} {S S' : St}
theorem sem_of (h : codeWp P x Q S) : Walks P x Q S := fun _ c w a hs => codeWp_sound x Q S c w a h hs
theorem sem_skip (h : Q .normal S) : Walks P .skip Q S := sem_of h
theorem sem_label {n} (h : Q .normal S) : Walks P (.label n) Q S := sem_of h
theorem sem_ret (h : Q .ret S) : Walks P .ret Q S := sem_of h
theorem sem_exit {id} (h : Q (.exit id) S) : Walks P (.exit id) Q S := sem_of h
theorem sem_region {k ops l} (hl : ops.toList = l) (h : opsWp P ops false 0 l S (Q .normal)) : Walks P (.region k ops false) Q S := sem_of (by
  simp only [codeWp, hl]; exact h)
theorem sem_drawn {k ops l} (hm : P.follows .mixedOrders = true) (hd : drawOk ops = true) (hl : ops.toList = l) (h : opsWp P ops true 0 l S (Q .normal)) : Walks P (.region k ops true) Q S := sem_of (by
  simp only [codeWp, hl]; exact ⟨hm, hd, h⟩)
theorem sem_seq (h : Walks P x (seqK P y Q) S) : Walks P (.seq x y) Q S := fun B c w a hs =>
  wp_seq (Code.wp_mono (fun e a w ⟨S1, c1, h1, h2⟩ => by
    cases e with
    | normal => exact h1 B c1 w a h2
    | _ => exact ⟨S1, c1, h1, h2⟩) (h B c w a hs))
theorem sem_cond {cd : Operand} {b : Bool} (hb : S.ev cd = some (.pv (.bool b))) (h1 : b = true → Walks P x Q S) (h2 : b = false → Walks P y Q S) : Walks P (.cond cd x y) Q S := fun B c w a hs => by
  have hr := ev_rep hs hb
  simp only [Rep, RepP] at hr
  cases b with
  | true => exact wp_cond hr (h1 rfl B c w a hs)
  | false => exact wp_cond hr (h2 rfl B c w a hs)
theorem sem_condT {cd : Operand} (hb : S.ev cd = some (.pv (.bool true))) (h1 : Walks P x Q S) : Walks P (.cond cd x y) Q S := sem_cond hb (fun _ => h1) (fun h => by cases h)
theorem sem_condF {cd : Operand} (hb : S.ev cd = some (.pv (.bool false))) (h1 : Walks P y Q S) : Walks P (.cond cd x y) Q S := sem_cond hb (fun h => by cases h) (fun _ => h1)
theorem sem_block {id} (h : Walks P x (blkK id Q) S) : Walks P (.block id x) Q S := fun B c w a hs => by
  refine wp_block (Code.wp_mono (fun e a w h => ?_) (h B c w a hs))
  obtain ⟨S', c', h1, h2⟩ := h
  cases e with
  | exit id' =>
    simp only [Exit.inBlock]
    simp only [blkK] at h1
    split
    · rename_i e; rw [if_pos e] at h1; exact ⟨S', c', h1, h2⟩
    · rename_i e; rw [if_neg e] at h1; exact ⟨S', c', h1, h2⟩
  | _ => exact ⟨S', c', h1, h2⟩
theorem sem_scope (h : Walks P x (scpK Q) S) : Walks P (.scope x) Q S := fun B c w a hs =>
  wp_scope_straight (Code.wp_mono (fun e a w ⟨S1, c1, h1, h2⟩ => by
    cases e with
    | goto l => exact h1.elim
    | _ => exact ⟨S1, c1, h1, h2⟩) (h B c w a hs))
theorem sem_loop (R : Nat → St → Prop) {d S'} (hl : Less S S') (hR : R d S') (round : ∀ d S, R d S → Walks P x (lupK R d Q) S) : Walks P (.loop x) Q S := fun B c w a hs => by
  obtain ⟨c', hs'⟩ := hs.less hl
  refine wp_loop_ind (fun d a w => ∃ S c, R d S ∧ SRel B S c w a) ⟨S', c', hR, hs'⟩ (fun d a w hI => ?_)
  obtain ⟨S1, c1, hR1, hs1⟩ := hI
  refine Code.wp_mono (fun e a w h => ?_) (round d S1 hR1 B c1 w a hs1)
  obtain ⟨S2, c2, h1, h2⟩ := h
  cases e with
  | normal =>
    obtain ⟨d', S3, hlt, hl3, hR3⟩ := h1
    obtain ⟨c3, hs3⟩ := hl3 _ _ _ _ h2
    exact ⟨d', hlt, S3, c3, hR3, hs3⟩
  | _ => exact ⟨S2, c2, h1, h2⟩
theorem sem_loop_of {α : Type} (st : α → St) (I : α → Prop) (μ : α → Nat) (a0 : α) (h0 : I a0) (hl : Less S (st a0)) (round : ∀ a, I a → Walks P x (lupK (fun d S => ∃ a, I a ∧ μ a = d ∧ S = st a) (μ a) Q) (st a)) : Walks P (.loop x) Q S :=
  sem_loop (fun d S => ∃ a, I a ∧ μ a = d ∧ S = st a) hl ⟨a0, h0, rfl, rfl⟩ (fun d S ⟨a, h1, h2, h3⟩ => by subst h2; subst h3; exact round a h1)
theorem lup_againT {α : Type} {st : α → St} {I : α → Prop} {μ : α → Nat} {d : Nat} (a : α) (h : I a) (hd : μ a < d) (hl : Trans S (st a)) : lupK (fun d S => ∃ a, I a ∧ μ a = d ∧ S = st a) d Q .normal S := ⟨_, _, hd, hl, a, h, rfl, rfl⟩
theorem lup_again {α : Type} {st : α → St} {I : α → Prop} {μ : α → Nat} {d : Nat} (a : α) (h : I a) (hd : μ a < d) (hl : Less S (st a)) : lupK (fun d S => ∃ a, I a ∧ μ a = d ∧ S = st a) d Q .normal S := ⟨_, _, hd, .of_less hl, a, h, rfl, rfl⟩
theorem seqK_n (h : Walks P y Q S) : seqK P y Q .normal S := h
theorem seqK_e {id} (h : Q (.exit id) S) : seqK P y Q (.exit id) S := h
theorem seqK_r (h : Q .ret S) : seqK P y Q .ret S := h
theorem blkK_n {id} (h : Q .normal S) : blkK id Q .normal S := h
theorem blkK_r {id} (h : Q .ret S) : blkK id Q .ret S := h
theorem blkK_t {id id'} (e : id' = id) (h : Q .normal S) : blkK id Q (.exit id') S := by simp only [blkK, if_pos e]; exact h
theorem blkK_f {id id'} (e : (id' == id) = false) (h : Q (.exit id') S) : blkK id Q (.exit id') S := by simp only [blkK, if_neg (ne_of_beq_false e)]; exact h
theorem scpK_r (h : Q .ret S) : scpK Q .ret S := h
theorem lupK_e {R d id} (h : Q (.exit id) S) : lupK R d Q (.exit id) S := h
theorem lupK_r {R d} (h : Q .ret S) : lupK R d Q .ret S := h
end
def HasT (m : Nat) (T : Tm) : Tm → Prop
  | [] => True
  | (k, v) :: r => (tget T k = some v ∧ below m v = true) ∧ HasT m T r
def HasH (m : Nat) (H : Heap) : Heap → Prop
  | [] => True
  | (k, o) :: r => (hget H k = some o ∧ belowO m o = true ∧ Nat.blt k m = true) ∧ HasH m H r
theorem hasT_of {m : Nat} {T : Tm} : ∀ {T' : Tm}, HasT m T T' → ∀ x ∈ T', tget T x.1 = some x.2 ∧ below m x.2 = true
  | (k, v) :: r, h, x, hx => by
    simp only [HasT] at h
    rcases List.mem_cons.1 hx with rfl | hx
    · exact h.1
    · exact hasT_of h.2 x hx
theorem hasH_of {m : Nat} {H : Heap} : ∀ {H' : Heap}, HasH m H H' → ∀ x ∈ H', hget H x.1 = some x.2 ∧ belowO m x.2 = true ∧ x.1 < m
  | (k, v) :: r, h, x, hx => by
    simp only [HasH] at h
    rcases List.mem_cons.1 hx with rfl | hx
    · exact ⟨h.1.1, h.1.2.1, by have := h.1.2.2; simp only [Nat.blt_eq] at this; exact this⟩
    · exact hasH_of h.2 x hx
theorem less_of {T T' : Tm} {H H' : Heap} {nx nx' : Nat} {mv mv' : List Nat} {nt lo : Nat} (hn : Nat.ble lo nx' = true) (ht : HasT nx' T T') (hh : HasH nx' H H') (hm : ∀ x ∈ mv, x ∈ mv' ∨ lo ≤ x) : Less ⟨T, H, nx, mv, nt, lo⟩ ⟨T', H', nx', mv', nt, lo⟩ :=
  ⟨hasT_of ht, hasH_of hh, hm, rfl, rfl, by simpa [Nat.ble_eq] using hn⟩
mutual
theorem ren_below {ρ : Nat → Nat} : ∀ {a : AV}, below 0 a = true → ren ρ a = a
  | .undef, _ => rfl
  | .pv _, _ => rfl
  | .pptr _ _, _ => rfl
  | .ptr _ _, h => by simp [below] at h
  | .ref _ _ _ _, h => by simp [below] at h
  | .view _ _ _, h => by simp [below] at h
  | .agg cs, h => by simp only [below] at h; simp only [ren, renL_below h]
  | .tup cs, h => by simp only [below] at h; simp only [ren, renL_below h]
  | .fnc _ cs, h => by simp only [below] at h; simp only [ren, renL_below h]
  | .bnd _ _ cs, h => by simp only [below] at h; simp only [ren, renL_below h]
  | .mapr _, h => by simp [below] at h
theorem renL_below {ρ : Nat → Nat} : ∀ {as : List AV}, belowL 0 as = true → renL ρ as = as
  | [], _ => rfl
  | a :: as, h => by simp only [belowL, Bool.and_eq_true] at h; simp only [renL, ren_below h.1, renL_below h.2]
end
section
variable {P : Program} {ops : Array Oper} {dr : Bool} {j : Nat} {d : Nat} {op : Op} {type : TypeId} {pos : String} {after : Array Edge} {r : List Oper} {T : Tm} {H : Heap} {nx : Nat} {mv : List Nat} {nt lo : Nat} {Q : St → Prop} {c : Prop} {v : AV}
theorem step_nil {S : St} (h : Q S) : opsWp P ops dr j [] S Q := h
theorem step_r (he : evalR P (St.ev ⟨T, H, nx, mv, nt, lo⟩) H nx op type = some (c, v, none)) (hd : Nat.blt d nt = true) (hc : c) (h : opsWp P ops dr (j + 1) r ⟨(d, v) :: T, H, nx, mv, nt, lo⟩ Q) :
    opsWp P ops dr j ({ dst := some d, op := op, type := type, pos := pos, after := after, guard := none } :: r) ⟨T, H, nx, mv, nt, lo⟩ Q := by
  refine opsWp_of0 ?_
  simp only [opWp0, guardA, dstOk, runWp0, he]
  exact ⟨by simpa [Nat.blt_eq] using hd, hc, h⟩
theorem step_n {o : VObj} {nx' : Nat} (he : evalR P (St.ev ⟨T, H, nx, mv, nt, lo⟩) H nx op type = some (c, v, some o)) (hn : nx + 1 = nx') (hd : Nat.blt d nt = true) (hc : c) (h : opsWp P ops dr (j + 1) r ⟨(d, v) :: T, (nx, o) :: H, nx', mv, nt, lo⟩ Q) :
    opsWp P ops dr j ({ dst := some d, op := op, type := type, pos := pos, after := after, guard := none } :: r) ⟨T, H, nx, mv, nt, lo⟩ Q := by
  subst hn
  refine opsWp_of0 ?_
  simp only [opWp0, guardA, dstOk, runWp0, he]
  exact ⟨by simpa [Nat.blt_eq] using hd, hc, h⟩
theorem step_pickT {cd a b : Operand} {t : Bool} (hc : St.ev ⟨T, H, nx, mv, nt, lo⟩ cd = some (.pv (.bool t))) (ht : t = true) (ha : St.ev ⟨T, H, nx, mv, nt, lo⟩ a = some v) (hd : Nat.blt d nt = true) (h : opsWp P ops dr (j + 1) r ⟨(d, v) :: T, H, nx, mv, nt, lo⟩ Q) :
    opsWp P ops dr j ({ dst := some d, op := .pick cd a b, type := type, pos := pos, after := after, guard := none } :: r) ⟨T, H, nx, mv, nt, lo⟩ Q := by
  subst ht
  refine step_r (c := True) ?_ hd trivial h
  simp only [evalR, hc, ha, if_true, Option.map_some]
theorem step_pickF {cd a b : Operand} {t : Bool} (hc : St.ev ⟨T, H, nx, mv, nt, lo⟩ cd = some (.pv (.bool t))) (ht : t = false) (ha : St.ev ⟨T, H, nx, mv, nt, lo⟩ b = some v) (hd : Nat.blt d nt = true) (h : opsWp P ops dr (j + 1) r ⟨(d, v) :: T, H, nx, mv, nt, lo⟩ Q) :
    opsWp P ops dr j ({ dst := some d, op := .pick cd a b, type := type, pos := pos, after := after, guard := none } :: r) ⟨T, H, nx, mv, nt, lo⟩ Q := by
  subst ht
  refine step_r (c := True) ?_ hd trivial h
  simp [evalR, hc, ha]
theorem step_g1 {S : St} {o : Option Tmp} {g : Nat × Bool} {b w : Bool} (hg : guardA ops S { dst := o, op := op, type := type, pos := pos, after := after, guard := some g } = some (b == w)) (hb : b = w) (h : opsWp P ops dr j ({ dst := o, op := op, type := type, pos := pos, after := after, guard := none } :: r) S Q) :
    opsWp P ops dr j ({ dst := o, op := op, type := type, pos := pos, after := after, guard := some g } :: r) S Q := by
  subst hb
  simp only [beq_self_eq_true] at hg
  simp only [opsWp, opWp, hg] at h ⊢
  exact h
theorem step_g0 {g : Nat × Bool} {b w : Bool} (hg : guardA ops ⟨T, H, nx, mv, nt, lo⟩ { dst := some d, op := op, type := type, pos := pos, after := after, guard := some g } = some (b == w)) (hb : b = !w) (hd : Nat.blt d nt = true) (h : opsWp P ops dr (j + 1) r ⟨(d, .tup []) :: T, H, nx, mv, nt, lo⟩ Q) :
    opsWp P ops dr j ({ dst := some d, op := op, type := type, pos := pos, after := after, guard := some g } :: r) ⟨T, H, nx, mv, nt, lo⟩ Q := by
  subst hb
  have hg' : ((!w) == w) = false := by cases w <;> rfl
  rw [hg'] at hg
  simp only [opsWp, opWp, hg, dstOk]
  exact ⟨by simpa [Nat.blt_eq] using hd, h⟩
theorem step_gf {g : Nat × Bool} (hg : guardA ops ⟨T, H, nx, mv, nt, lo⟩ { dst := some d, op := op, type := type, pos := pos, after := after, guard := some g } = some false) (hd : Nat.blt d nt = true) (h : opsWp P ops dr (j + 1) r ⟨(d, .tup []) :: T, H, nx, mv, nt, lo⟩ Q) :
    opsWp P ops dr j ({ dst := some d, op := op, type := type, pos := pos, after := after, guard := some g } :: r) ⟨T, H, nx, mv, nt, lo⟩ Q := by
  simp only [opsWp, opWp, hg, dstOk]
  exact ⟨by simpa [Nat.blt_eq] using hd, h⟩
inductive PurT (k : List Nat) : Tm → Tm → Prop
  | nil : PurT k [] []
  | keep {t v T T'} (e : purge k v = v) (h : PurT k T T') : PurT k ((t, v) :: T) ((t, v) :: T')
  | lose {t v v' T T'} (e : purge k v = v') (h : PurT k T T') : PurT k ((t, v) :: T) ((t, v') :: T')
theorem PurT.eq {k : List Nat} {T T' : Tm} (h : PurT k T T') : purgeT k T = T' := by
  induction h with
  | nil => rfl
  | keep e _ ih => simp only [purgeT, List.map_cons, e] at ih ⊢; rw [ih]
  | lose e _ ih => simp only [purgeT, List.map_cons, e] at ih ⊢; rw [ih]
inductive PurH (k : List Nat) : Heap → Heap → Prop
  | nil : PurH k [] []
  | keep {t v T T'} (e : purgeO k v = v) (h : PurH k T T') : PurH k ((t, v) :: T) ((t, v) :: T')
  | lose {t v v' T T'} (e : purgeO k v = v') (h : PurH k T T') : PurH k ((t, v) :: T) ((t, v') :: T')
theorem PurH.eq {k : List Nat} {T T' : Heap} (h : PurH k T T') : purgeH k T = T' := by
  induction h with
  | nil => rfl
  | keep e _ ih => simp only [purgeH, List.map_cons, e] at ih ⊢; rw [ih]
  | lose e _ ih => simp only [purgeH, List.map_cons, e] at ih ⊢; rw [ih]
theorem step_max {x y : Operand} {ts : Array TypeId} {k : IntKind} {p q : Int} (hx : St.ev ⟨T, H, nx, mv, nt, lo⟩ x = some (.pv (.int k p))) (hy : St.ev ⟨T, H, nx, mv, nt, lo⟩ y = some (.pv (.int k q))) (hd : Nat.blt d nt = true) (h : opsWp P ops dr (j + 1) r ⟨(d, .pv (.int k (max p q))) :: T, H, nx, mv, nt, lo⟩ Q) :
    opsWp P ops dr j ({ dst := some d, op := .call { callee := .builtin .max, args := #[x, y], argTypes := ts }, type := type, pos := pos, after := after, guard := none } :: r) ⟨T, H, nx, mv, nt, lo⟩ Q := by
  refine step_r (c := True) ?_ hd trivial h
  have e : (if p < q then q else p) = max p q := by omega
  simp only [evalR, evs, hx, hy, builtinR, mmAll, mm, if_true, decide_eq_true_eq, e, Option.map_some]
theorem step_min {x y : Operand} {ts : Array TypeId} {k : IntKind} {p q : Int} (hx : St.ev ⟨T, H, nx, mv, nt, lo⟩ x = some (.pv (.int k p))) (hy : St.ev ⟨T, H, nx, mv, nt, lo⟩ y = some (.pv (.int k q))) (hd : Nat.blt d nt = true) (h : opsWp P ops dr (j + 1) r ⟨(d, .pv (.int k (min p q))) :: T, H, nx, mv, nt, lo⟩ Q) :
    opsWp P ops dr j ({ dst := some d, op := .call { callee := .builtin .min, args := #[x, y], argTypes := ts }, type := type, pos := pos, after := after, guard := none } :: r) ⟨T, H, nx, mv, nt, lo⟩ Q := by
  refine step_r (c := True) ?_ hd trivial h
  have e : (if q < p then q else p) = min p q := by omega
  simp only [evalR, evs, hx, hy, builtinR, mmAll, mm, if_true, decide_eq_true_eq, e, Option.map_some]
theorem step_gs {S : St} {o : Oper} {b w : Bool} (hg : guardA ops S o = some (b == w)) (h1 : b = true → opsWp P ops dr j (o :: r) S Q) (h2 : b = false → opsWp P ops dr j (o :: r) S Q) : opsWp P ops dr j (o :: r) S Q := by
  cases b
  · exact h2 rfl
  · exact h1 rfl
theorem step_store {t : TypeId} {ad x : Operand} {id off s : Nat} {o o' : VObj} {H' : Heap} (ha : St.ev ⟨T, H, nx, mv, nt, lo⟩ ad = some (.ptr id off)) (hx : St.ev ⟨T, H, nx, mv, nt, lo⟩ x = some v) (hs : tsz P t = some s)
    (hv : (told v && (avCells v).all one && Nat.beq (avCells v).length s) = true) (hg : hget H id = some o) (ho : storeObj o off (avCells v) = some (c, o')) (hc : c) (htot : dr = false ∨ total ops j = true) (hH : hset H id o' = H') (h : opsWp P ops dr (j + 1) r ⟨T, H', nx, mv, nt, lo⟩ Q) :
    opsWp P ops dr j ({ dst := none, op := .store t ad x, type := type, pos := pos, after := after, guard := none } :: r) ⟨T, H, nx, mv, nt, lo⟩ Q := by
  subst hH
  simp only [Bool.and_eq_true] at hv
  have hv' := Nat.eq_of_beq_eq_true hv.2
  refine opsWp_of0 ?_
  simp only [opWp0, guardA, dstOk, runWp0, evalR, evalW, ha, hx, hs, hg, ho]
  simp only [hv.1.1, hv.1.2, hv', if_true, and_self]
  exact ⟨trivial, htot, hc, h⟩
theorem step_append {a1 a2 : Operand} {t u e : TypeId} {id sz n m n' by' : Nat} {cs new zs : List PV} {x : AV} {T' : Tm} {H' H'' : Heap}
    (ha : St.ev ⟨T, H, nx, mv, nt, lo⟩ a1 = some (.ref id sz 0 n)) (hx : St.ev ⟨T, H, nx, mv, nt, lo⟩ a2 = some x) (hg : hget H id = some (.row e sz cs)) (hn : contents H x = some (m, new)) (hte : telem P t = some e) (hsz : tsz P e = some sz) (hby : tbytes P e = some by') (hz : tzero P e = some zs)
    (hsub : tsub P u e = true) (hk : (Nat.blt 0 sz && Nat.beq zs.length sz && Nat.ble by' 1024) = true) (hl : cs.length = n * sz) (hl' : new.length = m * sz) (hmx : n + m ≤ maxGrow) (hnm : n + m = n') (htot : dr = false ∨ total ops j = true) (hd : Nat.blt d nt = true)
    (hH : hset H id (.row e sz (cs ++ new)) = H') (hp : PurH [id] H' H'') (hT : PurT [id] T T') (h : opsWp P ops dr (j + 1) r ⟨(d, .ref id sz 0 n') :: T', H'', nx, id :: mv, nt, lo⟩ Q) :
    opsWp P ops dr j ({ dst := some d, op := .call { callee := .builtin .append, args := #[a1, a2], argTypes := #[t, u] }, type := type, pos := pos, after := after, guard := none } :: r) ⟨T, H, nx, mv, nt, lo⟩ Q := by
  subst hH
  subst hnm
  simp only [Bool.and_eq_true, Nat.blt_eq, Nat.ble_eq] at hk
  have hr : evalR P (St.ev ⟨T, H, nx, mv, nt, lo⟩) H nx (.call { callee := .builtin .append, args := #[a1, a2], argTypes := #[t, u] }) type = none := by
    simp only [evalR, evs, ha, hx, builtinR]
  have hw : evalW P (St.ev ⟨T, H, nx, mv, nt, lo⟩) H (.call { callee := .builtin .append, args := #[a1, a2], argTypes := #[t, u] }) = some (0 < sz ∧ zs.length = sz ∧ cs.length = n * sz ∧ new.length = m * sz ∧ n + m ≤ maxGrow ∧ by' ≤ 1024, some (.ref id sz 0 (n + m)), hset H id (.row e sz (cs ++ new)), some id) := by
    simp only [evalW, evs, ha, hx, hg, hn, hte, hsz, hby, hz, hsub, and_self, if_true]
  refine opsWp_of0 ?_
  simp only [opWp0, guardA, dstOk, runWp0, hr, hw]
  refine ⟨by simpa [Nat.blt_eq] using hd, htot, ⟨hk.1.1, Nat.eq_of_beq_eq_true hk.1.2, hl, hl', hmx, hk.2⟩, ?_⟩
  simp only [St.applyW, tput, Option.getD_some, hT.eq, hp.eq]
  exact h
theorem step_load_row {t : TypeId} {ad : Operand} {cs ps : List PV} {off s : Nat} (ha : St.ev ⟨T, H, nx, mv, nt, lo⟩ ad = some (.pptr cs off)) (hg : tagg P t = some true) (hs : tsz P t = some s) (hl : off + s ≤ cs.length) (hp : (cs.drop off).take s = ps)
    (hd : Nat.blt d nt = true) (h : opsWp P ops dr (j + 1) r ⟨(d, .agg (ps.map .pv)) :: T, H, nx, mv, nt, lo⟩ Q) :
    opsWp P ops dr j ({ dst := some d, op := .load t ad, type := type, pos := pos, after := after, guard := none } :: r) ⟨T, H, nx, mv, nt, lo⟩ Q := by
  refine step_r (c := off + s ≤ cs.length) ?_ hd hl h
  simp only [evalR, ha, partP, hg, hs, hp, Option.map_some]
theorem step_load_one {t : TypeId} {ad : Operand} {cs : List PV} {p : PV} {off s : Nat} (ha : St.ev ⟨T, H, nx, mv, nt, lo⟩ ad = some (.pptr cs off)) (hg : tagg P t = some false) (hs : tsz P t = some s) (hp : cs[off]? = some p)
    (hd : Nat.blt d nt = true) (h : opsWp P ops dr (j + 1) r ⟨(d, .pv p) :: T, H, nx, mv, nt, lo⟩ Q) :
    opsWp P ops dr j ({ dst := some d, op := .load t ad, type := type, pos := pos, after := after, guard := none } :: r) ⟨T, H, nx, mv, nt, lo⟩ Q := by
  refine step_r (c := True) ?_ hd trivial h
  simp only [evalR, ha, partP, hg, hs, hp, Option.map_some]
theorem step_load_oneR {t : TypeId} {ad : Operand} {id sz : Nat} {e : TypeId} {cs : List PV} {p : PV} {off s : Nat} (ha : St.ev ⟨T, H, nx, mv, nt, lo⟩ ad = some (.ptr id off)) (ho : hget H id = some (.row e sz cs)) (hg : tagg P t = some false) (hs : tsz P t = some s) (hp : cs[off]? = some p)
    (hd : Nat.blt d nt = true) (h : opsWp P ops dr (j + 1) r ⟨(d, .pv p) :: T, H, nx, mv, nt, lo⟩ Q) :
    opsWp P ops dr j ({ dst := some d, op := .load t ad, type := type, pos := pos, after := after, guard := none } :: r) ⟨T, H, nx, mv, nt, lo⟩ Q := by
  refine step_r (c := True) ?_ hd trivial h
  simp only [evalR, ha, ho, partP, hg, hs, hp, Option.map_some]
theorem step_call {f : FuncId} {A : List AV} {out : AV} (hr : evalR P (St.ev ⟨T, H, nx, mv, nt, lo⟩) H nx op type = none) (hw : evalW P (St.ev ⟨T, H, nx, mv, nt, lo⟩) H op = none) (hcal : callee ⟨T, H, nx, mv, nt, lo⟩ op = some (f, A)) (hent : enters P f = true)
    (hok : Ok P f A [] out [] []) (hA : belowL 0 A = true) (ho : below 0 out = true) (hd : Nat.blt d nt = true) (h : opsWp P ops dr (j + 1) r ⟨(d, out) :: T, H, nx, mv, nt, lo⟩ Q) :
    opsWp P ops dr j ({ dst := some d, op := op, type := type, pos := pos, after := after, guard := none } :: r) ⟨T, H, nx, mv, nt, lo⟩ Q := by
  refine opsWp_of0 ?_
  simp only [opWp0, guardA, dstOk, runWp0, hr, hw, hcal]
  refine ⟨by simpa [Nat.blt_eq] using hd, hent, .inl ⟨[], A, [], out, [], ⟨by simpa using hok, renL_below hA, hA, .nil, by simp, rfl, by simp, by simp⟩, ?_⟩⟩
  simpa [St.afterCallQ, tput, idx, ren_below ho] using h
end
mutual
theorem frz_nil (H : Heap) : ∀ a : AV, ∃ c, frz H [] a = some (c, a) ∧ c
  | .undef => ⟨True, rfl, trivial⟩
  | .pv _ => ⟨True, rfl, trivial⟩
  | .pptr _ _ => ⟨True, rfl, trivial⟩
  | .ptr _ _ => ⟨True, rfl, trivial⟩
  | .ref _ _ _ _ => ⟨True, by simp [frz], trivial⟩
  | .view _ _ _ => ⟨True, rfl, trivial⟩
  | .agg cs => by obtain ⟨c, h1, h2⟩ := frzL_nil H cs; exact ⟨c, by simp only [frz, h1], h2⟩
  | .tup cs => by obtain ⟨c, h1, h2⟩ := frzL_nil H cs; exact ⟨c, by simp only [frz, h1], h2⟩
  | .fnc _ _ => ⟨True, rfl, trivial⟩
  | .bnd _ _ _ => ⟨True, rfl, trivial⟩
  | .mapr _ => ⟨True, rfl, trivial⟩
theorem frzL_nil (H : Heap) : ∀ as : List AV, ∃ c, frzL H [] as = some (c, as) ∧ c
  | [] => ⟨True, rfl, trivial⟩
  | a :: as => by
    obtain ⟨c1, h1, h2⟩ := frz_nil H a
    obtain ⟨c2, h3, h4⟩ := frzL_nil H as
    exact ⟨c1 ∧ c2, by simp only [frzL, h1, h3], h2, h4⟩
end
section
variable {P : Program} {fn : Func} {m : Nat} {out : AV} {Hout : List VObj} {mv : List Nat} {S : St}
theorem answers_plain {cs : Prop} {vs : List AV} (hr : resL P S fn.results.toList = some (cs, vs)) (hc : cs) (ho : packA vs = out) (hb : below 0 out = true) : ∃ fz new cs vs cf v, Answers P fn 0 S out [] [] fz new cs vs cf v := by
  obtain ⟨cf, h1, h2⟩ := frz_nil S.H (packA vs)
  exact ⟨[], [], cs, vs, cf, packA vs, hr, hc, h1, h2, by simp, by rw [ren_below hb, ho], hb, fun _ _ => .inr (Nat.zero_le _), .nil, by simp, rfl, by simp⟩
theorem answersR {cs : Prop} {vs : List AV} (hr : resL P S fn.results.toList = some (cs, vs)) (hc : cs) (ho : packA vs = out) (hb : below 0 out = true) : AnswersE P fn 0 out [] [] .ret S := answers_plain hr hc ho hb
def HasO (H : Heap) (f : Nat → Nat) (n : Nat) : Nat → List VObj → Prop
  | _, [] => True
  | k, o :: r => (hget H (f k) = some (renO f o) ∧ belowO n o = true) ∧ HasO H f n (k + 1) r
theorem hasO_of {H : Heap} {f : Nat → Nat} {n : Nat} : ∀ {l : List VObj} {k : Nat}, HasO H f n k l → ∀ i o, l[i]? = some o → hget H (f (k + i)) = some (renO f o) ∧ belowO n o = true
  | [], _, _, i, o, h => by simp at h
  | x :: l, k, h, 0, o, ho => by simp at ho; subst ho; exact h.1
  | x :: l, k, h, i + 1, o, ho => by
    have := hasO_of h.2 i o (by simpa using ho)
    rwa [show k + 1 + i = k + (i + 1) by omega] at this
theorem ok_of_sem {f : FuncId} {code : Code} {args : List AV} {Hin : List VObj} (hf : P.funcs[f]? = some fn) (hb : fn.body = some code)
    (h : Walks P code (AnswersE P fn Hin.length out Hout mv) (start args Hin fn.ntmps)) : Ok P f args Hin out Hout mv := ok_of_wp hf hb h
end
attribute [irreducible] Walks seqK blkK lupK scpK
end Go.Proofs.YtppnccjeggnllaaGreatVm

import Derived.Test.YtbfmonajbfljmaaDoorVmZ
namespace Go.Proofs.YtbfmonajbfljmaaDoorVm
open Go Go.RowKit
set_option linter.all false
set_option maxRecDepth 100000
def WalksB (B : Base) (P : Program) (x : Code) (Q : Exit → St → Prop) (S : St) : Prop := ∀ c w a, SRel B S c w a → x.wp P (AreE B Q) a w
def seqKB (B : Base) (P : Program) (y : Code) (Q : Exit → St → Prop) (e : Exit) (S : St) : Prop := match e with | .normal => WalksB B P y Q S | e => Q e S
def OpsB (B : Base) (P : Program) (ops : Array Oper) (l : List Oper) (S : St) (Q : St → Prop) : Prop := ∀ (c : Ctx) (w : World) (a : Act) (R : Exit → Act → World → Prop), (∀ a w, Are B Q a w → R .normal a w) → SRel B S c w a → wpList P ops R l a w
def TransB (B : Base) (S S' : St) : Prop := ∀ c w a, SRel B S c w a → ∃ c', SRel B S' c' w a
section
variable {P : Program} {x y : Code} {Q : Exit → St → Prop} {S S' : St} {B : Base}
theorem semB_of (h : Walks P x Q S) : WalksB B P x Q S := fun c w a hs => by unfold Walks at h; exact h B c w a hs
theorem semB_seq (h : WalksB B P x (seqKB B P y Q) S) : WalksB B P (.seq x y) Q S := fun c w a hs =>
  wp_seq (Code.wp_mono (fun e a w ⟨S1, c1, h1, h2⟩ => by
    cases e with
    | normal => exact h1 c1 w a h2
    | _ => exact ⟨S1, c1, h1, h2⟩) (h c w a hs))
theorem semB_cond {cd : Operand} {b : Bool} (hb : S.ev cd = some (.pv (.bool b))) (h1 : b = true → WalksB B P x Q S) (h2 : b = false → WalksB B P y Q S) : WalksB B P (.cond cd x y) Q S := fun c w a hs => by
  have hr := ev_rep hs hb
  simp only [Rep, RepP] at hr
  cases b with
  | true => exact wp_cond hr (h1 rfl c w a hs)
  | false => exact wp_cond hr (h2 rfl c w a hs)
theorem semB_condT {cd : Operand} (hb : S.ev cd = some (.pv (.bool true))) (h1 : WalksB B P x Q S) : WalksB B P (.cond cd x y) Q S := semB_cond hb (fun _ => h1) (fun h => by cases h)
theorem semB_condF {cd : Operand} (hb : S.ev cd = some (.pv (.bool false))) (h1 : WalksB B P y Q S) : WalksB B P (.cond cd x y) Q S := semB_cond hb (fun h => by cases h) (fun _ => h1)
theorem semB_trans (hl : TransB B S S') (h : WalksB B P x Q S') : WalksB B P x Q S := fun c w a hs => by
  obtain ⟨c', hs'⟩ := hl c w a hs
  exact h c' w a hs'
theorem semB_ret (h : Q .ret S) : WalksB B P .ret Q S := semB_of (sem_ret h)
theorem semB_skip (h : Q .normal S) : WalksB B P .skip Q S := semB_of (sem_skip h)
theorem seqKB_n (h : WalksB B P y Q S) : seqKB B P y Q .normal S := h
theorem seqKB_r (h : Q .ret S) : seqKB B P y Q .ret S := h
end
section
variable {P : Program} {ops : Array Oper} {l r : List Oper} {o : Oper} {S S' : St} {Q : St → Prop} {B : Base}
theorem semB_region {k : Nat} {Q : Exit → St → Prop} (hl : ops.toList = l) (h : OpsB B P ops l S (Q .normal)) : WalksB B P (.region k ops false) Q S := by
  intro c w a hs
  subst hl
  exact wp_region_list (h c w a (AreE B Q) (fun a w h => h) hs)
theorem opsB_of {j : Nat} (h : opsWp P ops false j l S Q) : OpsB B P ops l S Q := fun c w a R hR hs => opsWp_seq hR l j S c w a hs h
theorem opsB_cons {j : Nat} (h : opsWp P ops false j [o] S (fun S1 => OpsB B P ops r S1 Q)) : OpsB B P ops (o :: r) S Q := fun c w a R hR hs => by
  simp only [opsWp, opWp] at h
  obtain ⟨hd, h⟩ := h
  unfold wpList
  split at h
  · rename_i hg
    rw [if_pos (guard_spec hs.t hg)]
    left
    refine Oper.wp_mono (fun a' w' h' => ?_) (run_seq (Q := R) hs hd h)
    obtain ⟨S', c', h1, h2⟩ := h'
    exact h1 c' w' a' R hR h2
  · rename_i hg
    rw [if_neg (by rw [guard_spec hs.t hg]; simp)]
    exact h c w _ R hR (skip_seq hs hd)
  · exact h.elim
theorem opsB_app : ∀ {l1 l2 : List Oper} {j : Nat} {S : St}, opsWp P ops false j l1 S (fun S1 => OpsB B P ops l2 S1 Q) → OpsB B P ops (l1 ++ l2) S Q
  | [], l2, j, S, h => by simpa [opsWp] using h
  | o :: r, l2, j, S, h => by
    rw [List.cons_append]
    refine opsB_cons (j := j) ?_
    have e : (o :: r) = [o] ++ r := rfl
    rw [e, opsWp_app] at h
    exact opsWp_mono1 (fun S1 h1 => opsB_app h1) h
theorem opsB_cut (n : Nat) {j : Nat} (h : opsWp P ops false j (l.take n) S (fun S1 => OpsB B P ops (l.drop n) S1 Q)) : OpsB B P ops l S Q := by
  have := opsB_app h
  rwa [List.take_append_drop] at this
theorem opsB_brings {v : AV} {new : Option VObj} (hg : o.guard = none) (hd : dstOk S o = true) (h : ∀ c w a, SRel B S c w a → Brings P c w S.nx o a.eval v new) (next : OpsB B P ops r (S.applyR o.dst v new) Q) : OpsB B P ops (o :: r) S Q := fun c w a R hR hs => by
  unfold wpList
  rw [if_pos (guard_spec (ops := ops) hs.t (b := true) (by unfold guardA; rw [hg]))]
  left
  obtain ⟨v', w', c', hrun, hg', hr⟩ := h c w a hs
  unfold Oper.wp
  rw [hrun]
  exact next c' w' _ R hR (applyR_seq hs hd hg' hr)
theorem room_is {c : Ctx} {w : World} {a : Act} {K b : Nat} {x : Operand} {sz off n : Nat} (hs : SRel B S c w a) (hK : B.c0.φ 0 = some (.blk b K)) (hm : S.mv.contains 0 = false) (hx : S.ev x = some (.ref 0 sz off n)) :
    c.φ 0 = some (.blk b K) ∧ ∃ ad, a.eval x = .slice ad n (K - off) ∧ off + n ≤ K ∧ K ≤ maxLen ∧ (ad = some ⟨b, off * sz, none⟩ ∨ K = off) := by
  have h1 := hs.h.φ 0 _ (by simpa using hm) hK
  have hr := ev_rep hs hx
  simp only [Rep] at hr
  rcases hr with ⟨h2, _⟩ | ⟨b', cap, ad, h2, hv, h3, h4, h5⟩
  · rw [h1] at h2; cases h2
  · rw [h1] at h2; cases h2
    exact ⟨h1, ad, hv, h3, h4, h5⟩
theorem opsB_cap {t : TypeId} {x : Operand} {d b K sz n : Nat} {type : TypeId} {pos : String} {after : Array Edge} (hK : B.c0.φ 0 = some (.blk b K)) (hm : S.mv.contains 0 = false) (hx : S.ev x = some (.ref 0 sz 0 n)) (ht : (telem P t).isSome = true) (hd : Nat.blt d S.nt = true)
    (next : OpsB B P ops r (S.applyR (some d) (.pv (.int .i64 K)) none) Q) : OpsB B P ops ({ dst := some d, op := .call { callee := .builtin .cap, args := #[x], argTypes := #[t] }, type := type, pos := pos, after := after, guard := none } :: r) S Q := by
  refine opsB_brings rfl (by simpa [dstOk, Nat.blt_eq] using hd) (fun c w a hs => ?_) next
  obtain ⟨e, he⟩ := Option.isSome_iff_exists.1 ht
  obtain ⟨_, ad, hv, _, _, _⟩ := room_is hs hK hm hx
  refine ⟨goInt K, w, c, ?_, Grew.refl c w _, by simp [Rep, RepP, goInt]⟩
  have hu := telem_under he
  have hexec : execOp a.eval { dst := some d, op := .call { callee := .builtin .cap, args := #[x], argTypes := #[t] }, type := type, pos := pos, after := after, guard := none } = (do pure (.value (← Builtin.cap_ #[t] type #[a.eval x])) : Sem Next) := by simp [execOp, resolve, invoke, builtin]
  rw [hexec, Sem.run_bind, hv]
  simp only [Builtin.cap_, List.getElem?_toArray, List.getElem?_cons_zero, Sem.run_bind, run_underlying hu, Result.andThen_ok, Sem.run_pure, Nat.sub_zero]
theorem opsB_upto {t : TypeId} {x i : Operand} {d b K sz n m : Nat} {q : Int} {type : TypeId} {pos : String} {after : Array Edge} (hK : B.c0.φ 0 = some (.blk b K)) (hm : S.mv.contains 0 = false) (hx : S.ev x = some (.ref 0 sz 0 n)) (hi : S.ev i = some (.pv (.int .i64 q))) (hq : q = (m : Int)) (hmK : m ≤ K) {e : TypeId} (ht : telem P t = some e) (hsz : tsz P e = some sz) (hd : Nat.blt d S.nt = true)
    (next : OpsB B P ops r (S.applyR (some d) (.ref 0 sz 0 m) none) Q) : OpsB B P ops ({ dst := some d, op := .slice t x none (some i) none, type := type, pos := pos, after := after, guard := none } :: r) S Q := by
  subst hq
  refine opsB_brings rfl (by simpa [dstOk, Nat.blt_eq] using hd) (fun c w a hs => ?_) next
  obtain ⟨hφ, ad, hv, hn, hKm, had⟩ := room_is hs hK hm hx
  have hri := ev_rep hs hi
  simp only [Rep, RepP] at hri
  have hu := telem_under ht
  have hb := bounds_run (P := P) (w := w) true n (K - 0) none (some (a.eval i)) none none (some (m : Int)) none (.inl ⟨rfl, rfl⟩) (.inr ⟨.i64, m, rfl, by rw [hri]⟩) (.inl ⟨rfl, rfl⟩) (by simp) (by simp) (by simp; omega) (by simp) (.inl rfl)
  refine ⟨.slice (if K - 0 = 0 then ad else ad.map (·.add (0 * sz))) m (K - 0), w, c, ?_, Grew.refl c w _, ?_⟩
  · simp only [execOp, Sem.run_bind, Option.map_none, Option.map_some, hv, Instr.sliceAt, Instr.slice, run_underlying hu, Result.andThen_ok, hb, tsz_run hsz, Sem.run_pure]
    simp
  · simp only [Rep]
    refine .inr ⟨b, K, _, hφ, rfl, by omega, hKm, ?_⟩
    by_cases hz : K - 0 = 0
    · right; omega
    · rw [if_neg hz]
      rcases had with rfl | h7
      · left; simp [addr_add]
      · omega
end
theorem appendZ_grow {P : Program} {w : World} {t u ty e : TypeId} {i : TypeInfo} {z : Value} {a : Option Addr} {n cap m : Nat} {olds : List Value}
    (ht : P.underlying t = some (.slice e)) (hu : P.underlying u = some (.int .i64)) (hi : P.info? e = some i) (hz : i.zero = some z)
    (hold : ∀ w' : World, w'.heap = w.heap → (Builtin.firstCells i.size n (.slice a n cap)).run P w' = .ok olds.toArray w') (hg : cap < n + m) (hb : i.bytes ≤ 1024) (hn : n + m ≤ maxGrow) (hm : m * i.size ≠ 0) :
    (Builtin.append_ #[t, u] ty #[.slice a n cap, .int .i64 (m : Int)]).run P w =
      .ok (.slice (some ⟨w.heap.size, 0, none⟩) (n + m) (grownCap w (n + m) cap e))
        (w.drew.alloc (.cells (olds.toArray ++ Builtin.zeroCells z.cells m ++ Builtin.zeroCells z.cells (grownCap w (n + m) cap e - (n + m))) e)) := by
  have h1 : ¬ (n + m ≤ cap) := by omega
  have h63 : ¬ (9223372036854775807 < ((n : Int) + (m : Int))) := by unfold maxGrow at hn; omega
  have hfit : Builtin.nextslicecap (n + m) cap * i.bytes ≤ 281474976710656 := by
    refine growslice_fits hg ?_
    have : (n + m) * i.bytes ≤ 16777216 * 1024 := Nat.mul_le_mul (by unfold maxGrow at hn; omega) hb
    omega
  have h48 : ¬ (281474976710656 < Builtin.nextslicecap (n + m) cap * i.bytes) := by omega
  have e2 := hold w.drew rfl
  have hw : IntKind.i64.wrap (m : Int) = (m : Int) := by unfold maxGrow at hn; exact wrap_lt (by omega) (by omega)
  have hmb : ¬ (281474976710656 < (m : Int) * (i.bytes : Int)) := by
    have : m * i.bytes ≤ 16777216 * 1024 := Nat.mul_le_mul (by unfold maxGrow at hn; omega) hb
    have h2 : ((m * i.bytes : Nat) : Int) = (m : Int) * (i.bytes : Int) := Int.natCast_mul ..
    omega
  have hneg : ¬ ((m : Int) < 0) := by omega
  have hm1 : m ≠ 0 := fun h => hm (by rw [h, Nat.zero_mul])
  have hm2 : i.size ≠ 0 := fun h => hm (by rw [h, Nat.mul_zero])
  simp only [Builtin.append_]
  simp [run_underlying ht, run_underlying hu, sizeOf, typeInfo, zeroValue, hi, hz, h1, h63, h48, Question.forced, e2, newRow, grownCap, hw, hmb, hneg, hm1, hm2, asInt, asIntOf]
  intro h; exact absurd h hm
section
variable {P : Program} {ops : Array Oper} {l r : List Oper} {o : Oper} {S S' : St} {Q : St → Prop} {B : Base}
theorem opsB_zeros {t u e : TypeId} {x y : Operand} {d b K sz i m : Nat} {q : Int} {cs zs : List PV} {by' : Nat} {type : TypeId} {pos : String} {after : Array Edge} (hK : B.c0.φ 0 = some (.blk b K)) (hm : S.mv.contains 0 = false) (hx : S.ev x = some (.ref 0 sz 0 i)) (hy : S.ev y = some (.pv (.int .i64 q))) (hq : q = (m : Int)) (hob : hget S.H 0 = some (.row e sz cs))
    (hno : K < i + m) (he : telem P t = some e) (hu : tint P u = some .i64) (hsz : tsz P e = some sz) (hby : tbytes P e = some by') (hz : tzero P e = some zs) (h0 : 0 < sz) (hzl : zs.length = sz) (hcl : i * sz ≤ cs.length) (hm0 : 0 < m) (hmx : i + m ≤ maxGrow) (hby2 : by' ≤ 1024) (hd : Nat.blt d S.nt = true)
    (next : OpsB B P ops r (S.applyR (some d) (.ref S.nx sz 0 (i + m)) (some (.row e sz (cs.take (i * sz) ++ repeatZ zs m)))) Q) : OpsB B P ops ({ dst := some d, op := .call { callee := .builtin .append, args := #[x, y], argTypes := #[t, u] }, type := type, pos := pos, after := after, guard := none } :: r) S Q := by
  subst hq
  refine opsB_brings rfl (by simpa [dstOk, Nat.blt_eq] using hd) (fun c w a hs => ?_) next
  obtain ⟨hφ, ad, hv, hn, hKm, had⟩ := room_is hs hK hm hx
  have hry := ev_rep hs hy
  simp only [Rep, RepP] at hry
  obtain ⟨arr, hb1, h8, h9, h10, hl⟩ := hs.h.heap 0 _ _ hob hφ
  obtain ⟨inf, z, hi, hzi, hzz, hcz⟩ := tzero_len hz
  obtain ⟨i', hi', hs'⟩ := tsz_info hsz
  rw [hi] at hi'; cases hi'
  have hbi := tbytes_info hi hby
  have hexec : execOp a.eval { dst := some d, op := .call { callee := .builtin .append, args := #[x, y], argTypes := #[t, u] }, type := type, pos := pos, after := after, guard := none } = (do pure (.value (← Builtin.append_ #[t, u] type #[a.eval x, a.eval y])) : Sem Next) := by simp [execOp, resolve, invoke, builtin]
  have hor : RepL c w ((cs.take (i * sz)).map .pv) ((arr.toList.take cs.length).take (i * sz)) := by rw [List.map_take]; exact repL_take hl
  generalize holds : (arr.toList.take cs.length).take (i * sz) = olds at hor
  have hol : olds.length = i * sz := by have := repL_length hor; rw [List.length_map, List.length_take] at this; omega
  have hold : ∀ w' : World, w'.heap = w.heap → (Builtin.firstCells inf.size i (.slice ad i (K - 0))).run P w' = .ok olds.toArray w' := by
    intro w' hw'
    rw [hs']
    by_cases hi0 : i = 0
    · subst hi0
      have : olds = [] := List.eq_nil_of_length_eq_zero (by omega)
      subst this
      cases ad with
      | none => exact run_firstCells_none w' sz 0 0 _
      | some ad => exact run_firstCells_some (P := P) w' sz 0 ad 0 _ [] (by simp) (by simp)
    · have had' : ad = some ⟨b, 0 * sz, none⟩ := by rcases had with h | h; exact h; omega
      subst had'
      refine run_firstCells_some (P := P) w' sz i ⟨b, 0 * sz, none⟩ i (K - 0) olds hol (fun j v hj => ?_)
      rw [addr_add]
      rw [← holds, List.getElem?_take] at hj
      split at hj
      · rw [List.getElem?_take] at hj
        split at hj
        · simp only [World.cell?, hw', hb1]; simpa using hj
        · cases hj
      · cases hj
  have hunder : P.underlying u = some (.int .i64) := by
    unfold tint at hu; split at hu
    · rename_i k hk; cases hu; exact hk
    · cases hu
  have hmz : m * inf.size ≠ 0 := by rw [hs']; exact Nat.mul_ne_zero (by omega) (by omega)
  have hr := appendZ_grow (P := P) (w := w) (ty := type) (a := ad) (cap := K - 0) (telem_under he) hunder hi hzi hold (by omega) (by omega) hmx hmz
  have hzr : RepL c w ((repeatZ zs m).map .pv) ((List.range (m * z.cells.size)).map fun i => z.cells[i % z.cells.size]!) := zeros_rep (constPVs_rep hcz) m
  have hrl := repL_append hor hzr
  rw [← List.map_append] at hrl
  have hzc : z.cells.size = sz := by omega
  have hlen : (cs.take (i * sz) ++ repeatZ zs m).length = (i + m) * sz := by
    rw [List.length_append, List.length_take, repeatZ_length, hzl, Nat.add_mul]; omega
  obtain ⟨arr2, harr, g5, g6, g7, g8, g9⟩ := grown_row (e := e) (old := K - 0) (z := z) (N := grownCap w (i + m) (K - 0) e) hzc hrl hlen hmx rfl
  refine brings_row (u := .slice (some ⟨w.heap.size, 0, none⟩) (i + m) (grownCap w (i + m) (K - 0) e)) (w1 := w.drew.alloc (.cells arr2 e)) (hs.fresh _ (Nat.le_refl _)) hs.h.imm ?_ rfl rfl rfl rfl rfl g5 g7 g6 hrl g8 g9
  rw [hexec, Sem.run_bind, hv, hry, hr, harr]
  simp only [Result.andThen_ok, Sem.run_pure]
  congr 4
  apply Array.ext'
  simp [Builtin.zeroCells, List.append_assoc]
theorem opsB_apart {fe : Operand} {f : FuncId} {fn : Func} {x y : Operand} {d i j sz offx offy n m sz2 sz3 : Nat} {e2 e3 : TypeId} {cs cs2 : List PV} {ps rs : Array TypeId} {t e : TypeId} {type : TypeId} {pos : String} {ats : Array TypeId} {after : Array Edge} (hfe : fe = .func f) (hf : P.funcs[f]? = some fn) (hnm : (fn.name == "runtime.NumGoroutine") = false) (hbody : fn.body.isNone = true) (hnext : Extern.findNext fn = none) (hfind : Extern.find fn = some (Extern.SlicesOverlaps.overlaps ps rs)) (hps : ps[0]? = some t) (ht : telem P t = some e) (hsz : tsz P e = some sz)
    (hx : S.ev x = some (.ref i sz2 offx n)) (hy : S.ev y = some (.ref j sz3 offy m)) (hij : i ≠ j) (hi : hget S.H i = some (.row e2 sz2 cs)) (hj : hget S.H j = some (.row e3 sz3 cs2)) (hn : 0 < n) (hm : 0 < m) (h0 : 0 < sz) (hd : Nat.blt d S.nt = true)
    (next : OpsB B P ops r (S.applyR (some d) (.pv (.bool false)) none) Q) : OpsB B P ops ({ dst := some d, op := .call { callee := .value fe, args := #[x, y], argTypes := ats }, type := type, pos := pos, after := after, guard := none } :: r) S Q := by
  subst hfe
  refine opsB_brings rfl (by simpa [dstOk, Nat.blt_eq] using hd) (fun c w a hs => ?_) next
  have hrx := ev_rep hs hx
  have hry := ev_rep hs hy
  simp only [Rep] at hrx hry
  rcases hrx with ⟨_, _, hn0, _⟩ | ⟨b, cap, ad, hφ, hv, h5, h6, h7⟩
  · omega
  rcases hry with ⟨_, _, hm0, _⟩ | ⟨b2, cap2, ad2, hφ2, hv2, g5, g6, g7⟩
  · omega
  have had : ad = some ⟨b, offx * sz2, none⟩ := by rcases h7 with h7 | h7; exact h7; omega
  have had2 : ad2 = some ⟨b2, offy * sz3, none⟩ := by rcases g7 with g7 | g7; exact g7; omega
  subst had; subst had2
  obtain ⟨arr, hb1, _⟩ := hs.h.heap i _ _ hi hφ
  obtain ⟨arr2, hb2, _⟩ := hs.h.heap j _ _ hj hφ2
  have hne : b ≠ b2 := fun hbe => by
    subst hbe
    exact hs.h.apart i j _ _ b cap cap2 hij hi hj hφ hφ2
  obtain ⟨inf, hinf, hsi⟩ := tsz_info hsz
  refine ⟨.bool false, w, c, ?_, Grew.refl c w _, by simp [Rep, RepP]⟩
  have hu := telem_under ht
  have rf : ∀ a w, (Sem.frozen a Sem.pure).run P w = .ok (w.frozen? a) w := fun _ _ => rfl
  have rsh : ∀ r w, (Sem.shape r Sem.pure).run P w = .ok (w.shape? r) w := fun _ _ => rfl
  have rm : ∀ m w, (Sem.mark m (Sem.pure ())).run P w = .ok () w := fun _ _ => rfl
  have hnm' : ¬ fn.name = "runtime.NumGoroutine" := by simpa using hnm
  have hbody' : fn.body = none := by simpa using hbody
  have hov : (Extern.SlicesOverlaps.overlaps ps rs #[.slice (some ⟨b, offx * sz2, none⟩) n (cap - offx), .slice (some ⟨b2, offy * sz3, none⟩) m (cap2 - offy)]).run P w = .ok (.bool false) w := by
    have hla : ¬ (n = 0 ∨ m = 0 ∨ inf.size = 0) := by omega
    have hfr := frozen_at hb1
    have hfr2 := frozen_at hb2
    have hbb : (b != b2) = true := by simpa using hne
    have hbe : (b == b2) = false := by simpa using hne
    have e1 : Extern.SlicesOverlaps.overlaps ps rs #[.slice (some ⟨b, offx * sz2, none⟩) n (cap - offx), .slice (some ⟨b2, offy * sz3, none⟩) m (cap2 - offy)] = (do
        let some t := ps[0]? | stuck "slices.overlaps: no parameter types"
        let .slice elem ← underlying t | stuck "slices.overlaps: slice type expected"
        let size ← sizeOf elem
        if n = 0 ∨ m = 0 ∨ size = 0 then pure (.bool false)
        else if b != b2 && (← Go.frozen ⟨b, offx * sz2, none⟩) && (← Go.frozen ⟨b2, offy * sz3, none⟩) then unsupported .addressObserved
        else do
          if b != b2 then do
            noView ⟨b, offx * sz2, none⟩; noView ⟨b2, offy * sz3, none⟩
            if ← mayBeOne ⟨b, offx * sz2, none⟩ ⟨b2, offy * sz3, none⟩ then return .bool ((← choose (.extern "sameAddr.stringBytes" 2)) == 1)
          pure (.bool (b == b2 && offx * sz2 < offy * sz3 + m * size && offy * sz3 < offx * sz2 + n * size)) : Sem Value) := rfl
    rw [e1]
    simp [rf, rsh, hps, run_underlying hu, sizeOf, typeInfo, hinf, hla, hbb, hbe, Go.frozen, hfr, hfr2, noView, viewAt, mayBeOne, stringish, Go.shape, World.shape?, hb1, hb2, hne, frozen_at hb1, frozen_at hb2]
  have hexec : execOp a.eval { dst := some d, op := .call { callee := .value (.func f), args := #[x, y], argTypes := ats }, type := type, pos := pos, after := after, guard := none } = callFunc f #[a.eval x, a.eval y] := by
    simp [execOp, resolve, invoke, Deferred.ofValue, Act.eval]
  rw [hexec, hv, hv2]
  unfold callFunc
  simp [run_program, hf, hnm', hbody', hnext, hfind, Go.mark, rm, hov]
end
theorem TransB.move {B : Base} {T T' : Tm} {H H' : Heap} {nx : Nat} {nt lo i j : Nat} (hi : i < lo) (hj : lo ≤ j) (hB : ∃ b K, B.c0.φ i = some (.blk b K)) (hm : lo ≤ j) (ht : RenT (rhoL [(i, j)]) j T T') (hh : RenH (rhoL [(i, j)]) j H H') : TransB B ⟨T, H, nx, [], nt, lo⟩ ⟨T', H', j, [i], nt, lo⟩ := by
  intro c w a hs
  have hr1 : rhoL [(i, j)] i = j := by simp [rhoL]
  have hr2 : ∀ k, k ≠ i → rhoL [(i, j)] k = k := fun k hk => by simp [rhoL, hk]
  have hinj : ∀ x y, x < j → y < j → rhoL [(i, j)] x = rhoL [(i, j)] y → x = y := fun x y h1 h2 e => by
    by_cases hx : x = i
    · by_cases hy : y = i
      · rw [hx, hy]
      · rw [hx, hr1, hr2 y hy] at e; omega
    · by_cases hy : y = i
      · rw [hy, hr1, hr2 x hx] at e; omega
      · rw [hr2 x hx, hr2 y hy] at e; exact e
  let c' : Ctx := { φ := fun id => if id < j then c.φ (rhoL [(i, j)] id) else none, I := c.I }
  have hφ : ∀ {id loc}, c'.φ id = some loc → id < j ∧ c.φ (rhoL [(i, j)] id) = some loc := fun {id loc} h => by
    have h' : (if id < j then c.φ (rhoL [(i, j)] id) else none) = some loc := h
    split at h'
    · exact ⟨by assumption, h'⟩
    · cases h'
  have hrho : ∀ k loc, k < j → c.φ (rhoL [(i, j)] k) = some loc → c'.φ k = some loc := fun k loc h1 h2 => by
    show (if k < j then c.φ (rhoL [(i, j)] k) else none) = some loc
    rw [if_pos h1]; exact h2
  have hBm : B.m = lo := hs.mlo
  refine ⟨c', ⟨fun id o loc h1 h2 => ?_, fun id o b cap h1 h2 => ?_, fun id id' o o' b cap cap' hne h1 h2 h3 h4 => ?_, hs.h.imm, hs.h.size, hs.h.os, hs.h.tape, hs.h.output, hs.h.blk, hs.h.I, fun id loc hid h1 => ?_, fun id hid h1 => ?_⟩, fun t v h => ?_, hs.nt, hs.df, fun id hid => ?_, hs.lo, fun id o h => (renH_get hh h).2.2, hs.mlo, hm⟩
  · obtain ⟨h3, h4, _⟩ := renH_get hh h1
    exact ObjRep.renIn (c := c) (c' := c') (ρ := rhoL [(i, j)]) (m := j) (fun b hb => hb) hrho h4 (hs.h.heap _ _ loc h3 (hφ h2).2)
  · obtain ⟨h3, _, h5⟩ := renH_get hh h1
    obtain ⟨h6, h7, h8⟩ := hs.h.own _ _ b cap h3 (hφ h2).2
    refine ⟨h6, h7, ?_⟩
    rcases h8 with h8 | ⟨h9, cap', h10⟩
    · exact .inl h8
    · by_cases hx : id = i
      · rw [hx, hr1] at h9; omega
      · rw [hr2 id hx] at h9 h10; exact .inr ⟨h9, cap', h10⟩
  · obtain ⟨h5, _, h6⟩ := renH_get hh h1
    obtain ⟨h7, _, h8⟩ := renH_get hh h2
    exact hs.h.apart _ _ _ _ b cap cap' (fun e => hne (hinj _ _ h6 h8 e)) h5 h7 (hφ h3).2 (hφ h4).2
  · have hx : id ≠ i := fun e => hid (by rw [e]; simp)
    have h0 : id < lo := by
      rcases Nat.lt_or_ge id lo with h3 | h3
      · exact h3
      · have := hs.lo id h3; rw [this] at h1; cases h1
    exact hrho id loc (by omega) (by rw [hr2 id hx]; exact hs.h.φ id loc (by simp) h1)
  · have hx : id ≠ i := fun e => by
      obtain ⟨b, K, h2⟩ := hB
      rw [e, h2] at h1; cases h1
    show (if id < j then c.φ (rhoL [(i, j)] id) else none) = none
    rw [if_pos (by omega), hr2 id hx]
    exact hs.h.und id hid h1
  · obtain ⟨h1, h2⟩ := renT_get ht h
    exact Rep.renIn (c := c) (c' := c') (ρ := rhoL [(i, j)]) (m := j) (fun b hb => hb) hrho _ _ h2 (hs.t t _ h1)
  · show (if id < j then c.φ (rhoL [(i, j)] id) else none) = none
    have h9 : j ≤ id := hid
    rw [if_neg (by omega)]
theorem ok_of_semB {P : Program} {f : FuncId} {fn : Func} {code : Code} {args : List AV} {Hin : List VObj} {out : AV} {Hout : List VObj} {mv : List Nat} (hf : P.funcs[f]? = some fn) (hb : fn.body = some code)
    (h : ∀ B : Base, B.m = Hin.length → (∃ vals, RepL B.c0 B.w0 args vals) → HRel B (idx 0 Hin) [] B.c0 B.w0 → WalksB B P code (AnswersE P fn Hin.length out Hout mv) (start args Hin fn.ntmps)) : Ok P f args Hin out Hout mv := by
  intro c w vals hargs hrel hnone
  refine calls_of_wp hf hb ?_
  have hlen := repL_length hargs
  have hs : SRel ⟨c, w, Hin.length⟩ (start args Hin fn.ntmps) c w { tmps := vals.toArray ++ Array.replicate (fn.ntmps - vals.toArray.size) undef, defers := [] } := by
    refine ⟨hrel, fun t v h => ?_, by simp [start, hlen], rfl, hnone, hnone, fun id o h => ?_, rfl, Nat.le_refl _⟩
    · obtain ⟨u, _, h1, h2⟩ := argsT_get hargs h
      simp only [Nat.sub_zero] at h1
      have hlt := (List.getElem?_eq_some_iff.1 h1).1
      have : (vals.toArray ++ Array.replicate (fn.ntmps - vals.toArray.size) undef).getD t undef = u := by
        rw [Array.getD_eq_getD_getElem?, Array.getElem?_append_left (by simpa using hlt)]
        simp [h1]
      rw [this]; exact h2
    · have h' : hget (idx 0 Hin) id = some o := h
      rw [idx_get] at h'
      simp at h'
      exact (List.getElem?_eq_some_iff.1 h').1
  refine Code.wp_mono (fun e a w' h' => ?_) (h ⟨c, w, Hin.length⟩ rfl ⟨vals, hargs⟩ hrel c w _ hs)
  obtain ⟨S', c', h1, h2⟩ := h'
  have key : (∃ fz new cs vs cf v, Answers P fn Hin.length S' out Hout mv fz new cs vs cf v) → a.defers = [] ∧ ∃ v, (results fn a.tmps).run P w' = .ok v w' ∧
      ∃ v' c', Ending.returned v = .returned v' ∧ Rep c' w' out v' ∧ HRel ⟨c, w, Hin.length⟩ (idx 0 Hout) mv c' w' ∧ ∀ id, Hout.length ≤ id → c'.φ id = none := by
    rintro ⟨fz, new, cs, vs, cf, v, ha⟩
    obtain ⟨u, c'', h3, h4, h5, h6⟩ := answers_post h2 ha
    exact ⟨h2.df, u, h3, u, c'', rfl, h4, h5, h6⟩
  cases e with
  | normal => exact key h1
  | ret => exact key h1
  | _ => exact h1.elim
section
variable {P : Program} {ops : Array Oper} {dr : Bool} {j : Nat} {d : Nat} {op : Op} {type : TypeId} {pos : String} {after : Array Edge} {r : List Oper} {T : Tm} {H : Heap} {nx : Nat} {mv : List Nat} {nt lo : Nat} {Q : St → Prop} {c : Prop} {v : AV}
theorem step_idxV {t e : TypeId} {x i : Operand} {n k : Nat} {cs : List AV} {kk : IntKind} {m : Int} (hx : St.ev ⟨T, H, nx, mv, nt, lo⟩ x = some (.agg cs)) (hi : St.ev ⟨T, H, nx, mv, nt, lo⟩ i = some (.pv (.int kk m))) (hm : m = (k : Int)) (ht : tarr P t = some (n, e)) (hs : tsz P e = some 1) (hg : tagg P e = some false) (hp : cs[0 + k * 1]? = some v)
    (hk : k < n) (hd : Nat.blt d nt = true) (h : opsWp P ops dr (j + 1) r ⟨(d, v) :: T, H, nx, mv, nt, lo⟩ Q) :
    opsWp P ops dr j ({ dst := some d, op := .index t x i, type := type, pos := pos, after := after, guard := none } :: r) ⟨T, H, nx, mv, nt, lo⟩ Q := by
  subst hm
  refine step_r (c := True ∧ 0 ≤ (k : Int) ∧ (k : Int) < n) ?_ hd ⟨trivial, by omega, by omega⟩ h
  have hp' : cs[k]? = some v := by simpa using hp
  simp only [evalR, hx, hi, intA, indexV, ht, hs, partA, hg, Int.toNat_natCast, Nat.mul_one, hp', Option.map_some]
end
theorem flat_set2 {α : Type} {enc : α → List PV} {s : Nat} (hs : ∀ x, (enc x).length = s) {l : List α} {i o p : Nat} {x y : α} {q : PV} (h : l[i]? = some x) (ho : o + p < s) (he : enc y = (enc x).set (o + p) q) : (l.flatMap enc).set (i * s + o + p) q = (l.set i y).flatMap enc := by
  rw [Nat.add_assoc]; exact flat_set hs h ho he
end Go.Proofs.YtbfmonajbfljmaaDoorVm

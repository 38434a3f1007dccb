import Derived.Test.YtppnccjeggnllaaGreatVmZ
namespace Go.Proofs.YtppnccjeggnllaaGreatVm
open Go Go.RowKit
set_option linter.all false
set_option maxRecDepth 100000
def ztB (B : Base) (S S' : St) : Prop := ∀ c w a, SRel B S c w a → ∃ c', SRel B S' c' w a
theorem ztB.move {B : Base} {T T' : Tm} {H H' : Heap} {nx : Nat} {nt lo i j : Nat} (hi : i < lo) (hj : lo ≤ j) (hB : ∃ b K, B.c0.φ i = some (.blk b K)) (hm : lo ≤ j) (ht : RenT (rhoL [(i, j)]) j T T') (hh : RenH (rhoL [(i, j)]) j H H') : ztB B ⟨T, H, nx, [], nt, lo⟩ ⟨T', H', j, [i], nt, lo⟩ := by
 intro c w a hs
 have hr1 : rhoL [(i, j)] i = j := by simp [rhoL]
 have hr2 : ∀ k, k ≠ i → rhoL [(i, j)] k = k := fun k hk => by simp [rhoL, hk]
 have hinj : ∀ x y, x < j → y < j → rhoL [(i, j)] x = rhoL [(i, j)] y → x = y := fun x y h1 h2 e => by
  by_cases hx : x = i
  ·by_cases hy : y = i
   ·rw [hx, hy]
   ·rw [hx, hr1, hr2 y hy] at e; omega
  ·by_cases hy : y = i
   ·rw [hy, hr1, hr2 x hx] at e; omega
   ·rw [hr2 x hx, hr2 y hy] at e; exact e
 let c' : Ctx := { φ := fun id => if id < j then c.φ (rhoL [(i, j)] id) else none, I := c.I }
 have hφ : ∀ {id loc}, c'.φ id = some loc → id < j ∧ c.φ (rhoL [(i, j)] id) = some loc := fun {id loc} h => by
  have h' : (if id < j then c.φ (rhoL [(i, j)] id) else none) = some loc := h
  split at h'
  ·exact ⟨by assumption, h'⟩
  ·cases h'
 have hrho : ∀ k loc, k < j → c.φ (rhoL [(i, j)] k) = some loc → c'.φ k = some loc := fun k loc h1 h2 => by
  show (if k < j then c.φ (rhoL [(i, j)] k) else none) = some loc
  rw [if_pos h1]; exact h2
 have hBm : B.m = lo := hs.mlo
 refine ⟨c', ⟨fun id o loc h1 h2 => ?_, fun id o b cap h1 h2 => ?_, fun id id' o o' b cap cap' hne h1 h2 h3 h4 => ?_, hs.h.imm, hs.h.size, hs.h.os, hs.h.tape, hs.h.output, hs.h.blk, hs.h.I, fun id loc hid h1 => ?_, fun id hid h1 => ?_⟩, fun t v h => ?_, hs.nt, hs.df, fun id hid => ?_, hs.lo, fun id o h => (zdh hh h).2.2, hs.mlo, hm⟩
 ·obtain ⟨h3, h4, _⟩ := zdh hh h1
  exact zby.renIn (c := c) (c' := c') (ρ := rhoL [(i, j)]) (m := j) (fun b hb => hb) hrho h4 (hs.h.heap _ _ loc h3 (hφ h2).2)
 ·obtain ⟨h3, _, h5⟩ := zdh hh h1
  obtain ⟨h6, h7, h8⟩ := hs.h.own _ _ b cap h3 (hφ h2).2
  refine ⟨h6, h7, ?_⟩
  rcases h8 with h8 | ⟨h9, cap', h10⟩
  ·exact .inl h8
  ·by_cases hx : id = i
   ·rw [hx, hr1] at h9; omega
   ·rw [hr2 id hx] at h9 h10; exact .inr ⟨h9, cap', h10⟩
 ·obtain ⟨h5, _, h6⟩ := zdh hh h1
  obtain ⟨h7, _, h8⟩ := zdh hh h2
  exact hs.h.apart _ _ _ _ b cap cap' (fun e => hne (hinj _ _ h6 h8 e)) h5 h7 (hφ h3).2 (hφ h4).2
 ·have hx : id ≠ i := fun e => hid (by rw [e]; simp)
  have h0 : id < lo := by
   rcases Nat.lt_or_ge id lo with h3 | h3
   ·exact h3
   ·have := hs.lo id h3; rw [this] at h1; cases h1
  exact hrho id loc (by omega) (by rw [hr2 id hx]; exact hs.h.φ id loc (by simp) h1)
 ·have hx : id ≠ i := fun e => by
   obtain ⟨b, K, h2⟩ := hB
   rw [e, h2] at h1; cases h1
  show (if id < j then c.φ (rhoL [(i, j)] id) else none) = none
  rw [if_pos (by omega), hr2 id hx]
  exact hs.h.und id hid h1
 ·obtain ⟨h1, h2⟩ := zkO ht h
  exact Rep.renIn (c := c) (c' := c') (ρ := rhoL [(i, j)]) (m := j) (fun b hb => hb) hrho _ _ h2 (hs.t t _ h1)
 ·show (if id < j then c.φ (rhoL [(i, j)] id) else none) = none
  have h9 : j ≤ id := hid
  rw [if_neg (by omega)]
def zca (P : Program) (ops : Array Oper) (Q : St → Prop) (fuel : Nat) (listed : Array Bool) (S : St) : Prop := ∀ B c w a, SRel B S c w a → wpAny P .any ops (fun e a w => e = .normal ∧ AreE B (fun _ S => Q S) .normal a w) fuel listed a w
section
variable {P : Program} {ops : Array Oper} {Q : St → Prop} {S : St} {fuel : Nat} {listed : Array Bool}
theorem ziY {l : List Oper} (hl : ops.toList = l) (h : zca P l.toArray Q l.length (Array.replicate l.length false) S) : ziL P ops Q S := by
 have e : ops = l.toArray := by rw [← hl]
 subst e
 intro B c w a hs
 have := h B c w a hs
 simpa using this
theorem zfA (hr : Region.ready .any ops listed = []) (h : Q S) : zca P ops Q 0 listed S := fun B c w a hs => ⟨hr, rfl, S, c, h, hs⟩
theorem zsE {m : Nat} {o : Oper} (ho : ops[m]? = some o) {K : St → Prop} {K' : Act → World → Prop} {B : Base} {c : Ctx} {w : World} {a : Act} {Q' : Exit → Act → World → Prop} (hs : SRel B S c w a) (h : zY P ops false 0 [o] S K) (hK : ∀ S1 c1 a1 w1, K S1 → SRel B S1 c1 w1 a1 → K' a1 w1) : wpOp P ops Q' m K' a w := by
 simp only [zY, opWp] at h
 obtain ⟨hd, h⟩ := h
 unfold wpOp
 rw [ho]
 simp only
 split at h
 ·rename_i hg
  rw [if_pos (zce hs.t hg)]
  left
  refine Oper.wp_mono (fun a' w' h' => ?_) (zkt (Q := Q') hs hd h)
  obtain ⟨S', c', h1, h2⟩ := h'
  exact hK S' c' a' w' h1 h2
 ·rename_i hg
  rw [if_neg (by rw [zce hs.t hg]; simp)]
  exact hK _ c _ w h (zlb hs hd)
 ·exact h.elim
theorem zil {rs : List Nat} (hr : Region.ready .any ops listed = rs) (hne : rs ≠ []) (h : ∀ m ∈ rs, ∃ o, ops[m]? = some o ∧ zY P ops false 0 [o] S (fun S1 => zca P ops Q fuel (listed.setIfInBounds m true) S1)) : zca P ops Q (fuel + 1) listed S := fun B c w a hs => by
 refine ⟨fun h0 => absurd (hr.symm.trans h0) hne, fun m hm => ?_⟩
 rw [hr] at hm
 obtain ⟨o, ho, h1⟩ := h m hm
 exact zsE ho hs h1 fun S1 c1 a1 w1 h2 h3 => h2 B c1 w1 a1 h3
variable {m1 m2 m3 m4 : Nat} {o1 o2 o3 o4 : Oper}
theorem zcC (hr : Region.ready .any ops listed = [m1]) (e1 : ops[m1]? = some o1) (h1 : zY P ops false 0 [o1] S (fun S1 => zca P ops Q fuel (listed.setIfInBounds m1 true) S1)) : zca P ops Q (fuel + 1) listed S :=
 zil hr (by simp) fun m hm => by rw [List.mem_singleton.1 hm]; exact ⟨_, e1, h1⟩
theorem zh8 (hr : Region.ready .any ops listed = [m1, m2]) (e1 : ops[m1]? = some o1) (e2 : ops[m2]? = some o2) (h1 : zY P ops false 0 [o1] S (fun S1 => zca P ops Q fuel (listed.setIfInBounds m1 true) S1)) (h2 : zY P ops false 0 [o2] S (fun S1 => zca P ops Q fuel (listed.setIfInBounds m2 true) S1)) : zca P ops Q (fuel + 1) listed S :=
 zil hr (by simp) fun m hm => by
  simp only [List.mem_cons, List.mem_nil_iff, or_false] at hm
  rcases hm with rfl | rfl
  ·exact ⟨_, e1, h1⟩
  ·exact ⟨_, e2, h2⟩
theorem ztt (hr : Region.ready .any ops listed = [m1, m2, m3]) (e1 : ops[m1]? = some o1) (e2 : ops[m2]? = some o2) (e3 : ops[m3]? = some o3) (h1 : zY P ops false 0 [o1] S (fun S1 => zca P ops Q fuel (listed.setIfInBounds m1 true) S1)) (h2 : zY P ops false 0 [o2] S (fun S1 => zca P ops Q fuel (listed.setIfInBounds m2 true) S1)) (h3 : zY P ops false 0 [o3] S (fun S1 => zca P ops Q fuel (listed.setIfInBounds m3 true) S1)) : zca P ops Q (fuel + 1) listed S :=
 zil hr (by simp) fun m hm => by
  simp only [List.mem_cons, List.mem_nil_iff, or_false] at hm
  rcases hm with rfl | rfl | rfl
  ·exact ⟨_, e1, h1⟩
  ·exact ⟨_, e2, h2⟩
  ·exact ⟨_, e3, h3⟩
end
theorem zay {P : Program} {ops : Array Oper} {Q : St → Prop} {fuel : Nat} {l l' : Array Bool} {S S' : St} (h : zca P ops Q fuel l' S') (hl : l = l') (ht : zD S S') : zca P ops Q fuel l S := fun B c w a hs => by
 subst hl
 obtain ⟨c', hs'⟩ := ht B c w a hs
 exact h B c' w a hs'
theorem zqw {P : Program} {ops : Array Oper} {Q : St → Prop} (N : List (Nat × Array Bool × St)) (h : ∀ (k : Nat) (x : Nat × Array Bool × St), N[k]? = some x → (∀ (j : Nat) (y : Nat × Array Bool × St), k < j → N[j]? = some y → zca P ops Q y.1 y.2.1 y.2.2) → zca P ops Q x.1 x.2.1 x.2.2) : ∀ (k : Nat) (x : Nat × Array Bool × St), N[k]? = some x → zca P ops Q x.1 x.2.1 x.2.2 := by
 have key : ∀ (d k : Nat) (x : Nat × Array Bool × St), N.length - k ≤ d → N[k]? = some x → zca P ops Q x.1 x.2.1 x.2.2 := by
  intro d
  induction d with
  | zero =>
   intro k x hk hx
   have := (List.getElem?_eq_some_iff.1 hx).1
   omega
  | succ d ih =>
   intro k x hk hx
   refine h k x hx ?_
   intro j y hj hy
   exact ih j y (by omega) hy
 intro k x hx
 exact key (N.length - k) k x (Nat.le_refl _) hx
def hdel : Heap → Nat → Heap
 | [], _ => []
 | (k, o) :: r, i => if k = i then hdel r i else (k, o) :: hdel r i
theorem zec : ∀ {H : Heap} {i k : Nat} {o : VObj}, hget (hdel H i) k = some o → k ≠ i ∧ hget H k = some o
 | [], _, _, _, h => by simp [hdel, hget] at h
 | (j, u) :: r, i, k, o, h => by
  simp only [hdel] at h
  split at h
  ·rename_i e
   obtain ⟨h1, h2⟩ := zec h
   exact ⟨h1, by simp only [hget]; rw [if_neg (fun e' => h1 (by omega))]; exact h2⟩
  ·rename_i e
   simp only [hget] at h ⊢
   split at h
   ·rename_i e'
    exact ⟨by omega, by rw [if_pos e']; exact h⟩
   ·rename_i e'
    obtain ⟨h1, h2⟩ := zec h
    exact ⟨h1, by rw [if_neg e']; exact h2⟩
theorem zlN {P : Program} {ops : Array Oper} {r : List Oper} {d id n nx nt lo : Nat} {T : Tm} {H H' : Heap} {mv : List Nat} {Q : St → Prop} {s e e' : TypeId} {x : Operand} {type : TypeId} {pos : String} {after : Array Edge} {cs : List PV}
  (hx : St.ev ⟨T, H, nx, mv, nt, lo⟩ x = some (.ref id 1 0 n)) (ht : P.underlying s = some (.slice e)) (he : P.underlying e = some (.int .u8)) (ho : hget H id = some (.row e' 1 cs)) (hn : cs.length = n) (hp : Nat.blt 0 n = true) (hlo : Nat.ble lo id = true) (hd : Nat.blt d nt = true) (hH : hdel H id = H')
  (h : OpsS P ops r ⟨(d, .pv (.slc n false cs)) :: T, H', nx, mv, nt, lo⟩ Q) :
  OpsS P ops ({ dst := some d, op := .convert s s x, type := type, pos := pos, after := after, guard := none } :: r) ⟨T, H, nx, mv, nt, lo⟩ Q := by
 intro B c w a R hR hs
 subst hH
 subst hn
 have hx1 : Rep c w (.ref id 1 0 cs.length) (a.eval x) := zcD hs hx
 simp only [Nat.blt_eq, Nat.ble_eq] at hp hlo hd
 simp only [Rep] at hx1
 rcases hx1 with ⟨_, _, h0, _⟩ | ⟨b, cap, a0, h1, h2, h3, h4, h5⟩
 ·omega
 have h5' : a0 = some ⟨b, 0, none⟩ := by
  rcases h5 with h5 | h5
  ·simpa using h5
  ·omega
 subst h5'
 simp only [Nat.zero_add, Nat.sub_zero] at h2 h3
 obtain ⟨arr, hb, hsz, hcm, hle, hrl⟩ := hs.h.heap id _ _ ho h1
 obtain ⟨hbw, hnI, hbB⟩ := hs.h.own id _ b cap ho h1
 have hB : B.w0.heap.size ≤ b := by
  rcases hbB with h6 | ⟨h6, _⟩
  ·exact h6
  ·have : B.m = lo := hs.mlo
   omega
 have hsize : (w.freeze ⟨b, arr.size, none⟩ 1).heap.size = w.heap.size := by
  unfold World.freeze
  rw [if_neg (by decide)]
  simp
 have hother : ∀ k, k ≠ b → (w.freeze ⟨b, arr.size, none⟩ 1).heap[k]? = w.heap[k]? := by
  intro k hk
  unfold World.freeze
  rw [if_neg (by decide)]
  simp only [Array.getElem?_modify]
  rw [if_neg (fun e => hk e.symm)]
 have hthis : (w.freeze ⟨b, arr.size, none⟩ 1).heap[b]? = some (.cells arr e' (arr.size, arr.size + 1)) := by
  unfold World.freeze
  rw [if_neg (by decide)]
  simp only [Array.getElem?_modify, if_pos, hb, Option.map_some]
  rfl
 have hos : (w.freeze ⟨b, arr.size, none⟩ 1).os = w.os ∧ (w.freeze ⟨b, arr.size, none⟩ 1).tape = w.tape ∧ (w.freeze ⟨b, arr.size, none⟩ 1).output = w.output := by
  unfold World.freeze
  rw [if_neg (by decide)]
  exact ⟨rfl, rfl, rfl⟩
 generalize hw' : w.freeze ⟨b, arr.size, none⟩ 1 = w' at hsize hother hthis hos
 have hrun : (execOp a.eval { dst := some d, op := .convert s s x, type := type, pos := pos, after := after, guard := none }).run P w = .ok (.value (.slice (some ⟨b, 0, none⟩) cs.length cap)) w' := by
  have hsh : w.shape? b = some (e', arr.size) := by unfold World.shape?; rw [hb]
  simp [execOp, convert, h2, run_underlying ht, run_underlying he, markStringish, hsh, hw']
  try rfl
 let c' : Ctx := { φ := c.φ, I := fun k => c.I k ∨ k = b }
 have hho : zaT c c' w w' := fun k hk => ⟨.inl hk, hother k (fun e => hnI (e ▸ hk))⟩
 have hgo : Goes c c' := fun _ _ h => h
 have hs' : SRel B ⟨(d, .pv (.slc cs.length false cs)) :: T, hdel H id, nx, mv, nt, lo⟩ c' w' (a.put (some d) (.slice (some ⟨b, 0, none⟩) cs.length cap)) := by
  refine ⟨⟨fun k o loc h6 h7 => ?_, fun k o b' cap' h6 h7 => ?_, fun k k' o o' b1 c1 c2 hne h6 h7 h8 h9 => ?_, fun k hk => ?_, by rw [hsize]; exact hs.h.size, by rw [hos.1]; exact hs.h.os, by rw [hos.2.1]; exact hs.h.tape, by rw [hos.2.2]; exact hs.h.output, fun k hk hf => ?_, fun k hk => ?_, hs.h.φ, hs.h.und⟩, ?_, by rw [zcH]; exact hs.nt, by rw [za7]; exact hs.df, hs.fresh, hs.lo, fun k o h6 => hs.wf k o (zec h6).2, hs.mlo, hs.nlo⟩
  ·obtain ⟨h8, h9⟩ := zec h6
   refine (hs.h.heap k o loc h9 h7).mono hho hgo ?_
   rintro b' cap' rfl
   exact hother b' (fun e => hs.h.apart k id o _ b' cap' cap h8 h9 ho h7 (e ▸ h1))
  ·obtain ⟨h8, h9⟩ := zec h6
   obtain ⟨h10, h11, h12⟩ := hs.h.own k o b' cap' h9 h7
   refine ⟨by rw [hsize]; exact h10, ?_, h12⟩
   rintro (h13 | rfl)
   ·exact h11 h13
   ·exact hs.h.apart k id o _ b' cap' cap h8 h9 ho h7 h1
  ·exact hs.h.apart k k' o o' b1 c1 c2 hne (zec h6).2 (zec h7).2 h8 h9
  ·rw [hsize]
   rcases hk with hk | rfl
   ·exact hs.h.imm k hk
   ·exact hbw
  ·rw [hother k (by omega)]
   exact hs.h.blk k hk hf
  ·constructor
   ·rintro (h6 | rfl)
    ·exact (hs.h.I k hk).1 h6
    ·omega
   ·intro h6
    exact .inl ((hs.h.I k hk).2 h6)
  ·refine zd8 (o := some d) (fun t v h6 => Rep.mono hho hgo _ _ (hs.t t v h6)) (fun d' h6 => by cases h6; rw [hs.nt]; exact hd) ?_
   simp only [Rep, RepP]
   refine ⟨_, cap, rfl, by omega, h4, by simp, .inr ⟨b, 0, rfl, .inr rfl, zcW hthis cs 0 ?_⟩⟩
   rw [List.drop_zero]
   exact RepL.mono hho hgo _ _ hrl
 unfold wpList
 rw [if_pos (zce hs.t (b := true) (by simp [zbP]))]
 left
 unfold Oper.wp
 rw [hrun]
 exact h B c' w' _ R hR hs'
end Go.Proofs.YtppnccjeggnllaaGreatVm

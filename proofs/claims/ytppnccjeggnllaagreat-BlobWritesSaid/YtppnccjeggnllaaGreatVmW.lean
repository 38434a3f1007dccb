import Derived.Test.YtppnccjeggnllaaGreatVmV
namespace Go.Proofs.YtppnccjeggnllaaGreatVm
open Go Go.RowKit
set_option linter.all false
theorem map_set {α : Type} {g : α → PV} (l : List α) (i : Nat) (x : α) : (l.map g).set (i * 1) (g x) = (l.set i x).map g := by
 rw [Nat.mul_one, List.map_set]
theorem zsM (l : List Int) (i : Nat) (x : Int) : (encI l).set (i * 1) (.int .i64 x) = encI (l.set i x) := by unfold encI; exact map_set (g := fun n => PV.int .i64 n) l i x
theorem zax (a b : List Int) : encI a ++ encI b = encI (a ++ b) := by simp [encI]
theorem zaH {α : Type} (a b : List α) : a.length + b.length = (a ++ b).length := by simp
section
variable {P : Program} {ops : Array Oper} {dr : Bool} {j : Nat} {d : Nat} {op : Op} {type : TypeId} {pos : String} {after : Array Edge} {r : List Oper} {T : Tm} {H : Heap} {nx : Nat} {mv : List Nat} {nt lo : Nat} {Q : St → Prop} {c : Prop} {v : AV}
theorem zeF {t e : TypeId} {x i : Operand} {s n k : Nat} {m : Int} {full : Bool} {cs : List PV} {kk : IntKind} (hx : St.ev ⟨T, H, nx, mv, nt, lo⟩ x = some (.pv (.slc n full cs))) (hi : St.ev ⟨T, H, nx, mv, nt, lo⟩ i = some (.pv (.int kk m))) (hm : m = (k : Int)) (ht : za1 P t = some e) (hs : tsz P e = some s)
  (hk : k < n) (hne : cs ≠ []) (hd : Nat.blt d nt = true) (h : zY P ops dr (j + 1) r ⟨(d, .pptr cs (k * s)) :: T, H, nx, mv, nt, lo⟩ Q) :
  zY P ops dr j ({ dst := some d, op := .indexAddr t x i, type := type, pos := pos, after := after, guard := none } :: r) ⟨T, H, nx, mv, nt, lo⟩ Q := by
 subst hm
 exact zJ hx hi ht hs hk hne hd h
theorem zfV {f : FuncId} {A : List AV} {out : AV} {Hin Hout : List VObj} {H' : Heap} {out' : AV} {nx' : Nat} (ids : List Nat) (hr : zcv P (St.ev ⟨T, H, nx, mv, nt, lo⟩) H nx op type = none) (hw : zez P (St.ev ⟨T, H, nx, mv, nt, lo⟩) H op = none) (hcal : callee ⟨T, H, nx, mv, nt, lo⟩ op = some (f, A)) (hent : zdJ P f = true) (htot : dr = false ∨ total ops j = true)
  (hin : ids.map (hget H) = Hin.map (fun o => some (renO (rho ids nx) o))) (hbo : Hin.all (zbC ids.length) = true) (hren : renL (rho ids nx) (renL (fun x => ids.idxOf x) A) = A) (hbel : zau ids.length (renL (fun x => ids.idxOf x) A) = true)
  (hok : Ok P f (renL (fun x => ids.idxOf x) A) Hin out Hout []) (hle : Nat.ble Hin.length Hout.length = true) (hnd : ids.Nodup) (hlt : ids.all (fun x => Nat.blt x nx) = true)
  (ho : ren (rho ids nx) out = out') (hH : idx nx ((Hout.drop Hin.length).map (renO (rho ids nx))) ++ zgD H ids ((Hout.take Hin.length).map (renO (rho ids nx))) = H') (hnx : nx + (Hout.length - Hin.length) = nx') (hd : Nat.blt d nt = true) (h : zY P ops dr (j + 1) r ⟨(d, out') :: T, H', nx', mv, nt, lo⟩ Q) :
  zY P ops dr j ({ dst := some d, op := op, type := type, pos := pos, after := after, guard := none } :: r) ⟨T, H, nx, mv, nt, lo⟩ Q := by
 have hlen : ids.length = Hin.length := by simpa using congrArg List.length hin
 refine zc6 ?_
 simp only [zjB, zbP, zdq, zcj, hr, hw, hcal]
 refine ⟨by simpa [Nat.blt_eq] using hd, hent, .inr ⟨htot, ids, _, Hin, _, Hout, [], ⟨hok, hren, hbel, hnd, fun x hx => ?_, hlen, by simpa [Nat.ble_eq] using hle, fun i o hio => ?_⟩, ?_⟩⟩
 ·have := List.all_eq_true.1 hlt x hx
  simpa [Nat.blt_eq] using this
 ·have hi := (List.getElem?_eq_some_iff.1 hio).1
  have h1 : (ids.map (hget H))[i]? = some (some (renO (rho ids nx) o)) := by rw [hin]; simp [hio]
  simp only [List.getElem?_map, Option.map_eq_some_iff] at h1
  obtain ⟨x, h2, h3⟩ := h1
  exact ⟨by rw [List.getD_eq_getElem?_getD, h2]; exact h3, List.all_eq_true.1 hbo o (List.mem_of_getElem? hio)⟩
 ·simp only [St.afterCall, tput, List.map_nil, zeh, zho, List.nil_append]
  rw [ho, hH, hnx]
  exact h
theorem zbO {a1 a2 : Operand} {t u e : TypeId} {sz m n' by' nx' : Nat} {new cs' zs : List PV} {x : AV}
  (ha : St.ev ⟨T, H, nx, mv, nt, lo⟩ a1 = some (.pv (.slc 0 true []))) (hx : St.ev ⟨T, H, nx, mv, nt, lo⟩ a2 = some x) (hn : zaU H x = some (m, new)) (hte : za1 P t = some e) (hsz : tsz P e = some sz) (hby : zcy P e = some by') (hz : zbZ P e = some zs)
  (hsub : tsub P u e = true) (hk : (Nat.blt 0 sz && Nat.beq zs.length sz && Nat.ble by' 1024) = true) (hl' : new.length = m * sz) (hmx : m ≤ zaW) (hnm : m = n') (hcs : new = cs') (hnx : nx + 1 = nx') (hd : Nat.blt d nt = true)
  (h : zY P ops dr (j + 1) r ⟨(d, .ref nx sz 0 n') :: T, (nx, .row e sz cs') :: H, nx', mv, nt, lo⟩ Q) :
  zY P ops dr j ({ dst := some d, op := .call { callee := .builtin .append, args := #[a1, a2], argTypes := #[t, u] }, type := type, pos := pos, after := after, guard := none } :: r) ⟨T, H, nx, mv, nt, lo⟩ Q := by
 subst hnm; subst hcs
 simp only [Bool.and_eq_true, Nat.blt_eq, Nat.ble_eq] at hk
 refine zz (v := .ref nx sz 0 m) (o := .row e sz new) (c := 0 < sz ∧ zs.length = sz ∧ ([] : List PV).length = 0 * sz ∧ new.length = m * sz ∧ ((0 : Nat) = 0 ∨ 0 < m) ∧ 0 + m ≤ zaW ∧ by' ≤ 1024) ?_ hnx hd ⟨hk.1.1, Nat.eq_of_beq_eq_true hk.1.2, by simp, hl', .inl rfl, by omega, hk.2⟩ h
 simp only [zcv, evs, ha, hx, zcT, hn, hte, hsz, hby, hz, hsub, if_true, List.nil_append, Nat.zero_add]
theorem zL {a1 a2 : Operand} {t u e : TypeId} {id sz n m n' by' : Nat} {cs new cs' zs : List PV} {x : AV} {T' : Tm} {H' H'' : Heap}
  (ha : St.ev ⟨T, H, nx, mv, nt, lo⟩ a1 = some (.ref id sz 0 n)) (hx : St.ev ⟨T, H, nx, mv, nt, lo⟩ a2 = some x) (hg : hget H id = some (.row e sz cs)) (hn : zaU H x = some (m, new)) (hte : za1 P t = some e) (hsz : tsz P e = some sz) (hby : zcy P e = some by') (hz : zbZ P e = some zs)
  (hsub : tsub P u e = true) (hk : (Nat.blt 0 sz && Nat.beq zs.length sz && Nat.ble by' 1024) = true) (hl : cs.length = n * sz) (hl' : new.length = m * sz) (hmx : n + m ≤ zaW) (hnm : n + m = n') (hcs : cs ++ new = cs') (htot : dr = false ∨ total ops j = true) (hd : Nat.blt d nt = true)
  (hH : hset H id (.row e sz cs') = H') (hp : PurH [id] H' H'') (hT : PurT [id] T T') (h : zY P ops dr (j + 1) r ⟨(d, .ref id sz 0 n') :: T', H'', nx, id :: mv, nt, lo⟩ Q) :
  zY P ops dr j ({ dst := some d, op := .call { callee := .builtin .append, args := #[a1, a2], argTypes := #[t, u] }, type := type, pos := pos, after := after, guard := none } :: r) ⟨T, H, nx, mv, nt, lo⟩ Q := by
 subst hcs
 exact zmW ha hx hg hn hte hsz hby hz hsub hk hl hl' hmx hnm htot hd hH hp hT h
end
section
variable {P : Program} {fn : Func} {m : Nat} {out : AV} {Hout : List VObj} {mv : List Nat} {S : St}
theorem zm8 {cs : Prop} {vs : List AV} {cf : Prop} {v : AV} (fz new : List Nat) (hr : resL P S fn.results.toList = some (cs, vs)) (hc : cs) (hf : frz S.H fz (zig vs) = some (cf, v)) (hcf : cf) (he : ren (sig m new) out = v) (hb : zao Hout.length out = true)
  (hfg : fz.all (fun x => Nat.ble m x && !new.contains x) = true) (hmv : S.mv.all (fun x => mv.contains x || Nat.ble m x) = true) (hn : new.Nodup) (hge : new.all (fun x => Nat.ble m x) = true) (hl : Hout.length = m + new.length) (ho : HasO S.H (sig m new) Hout.length 0 Hout) : ∃ fz new cs vs cf v, zgn P fn m S out Hout mv fz new cs vs cf v := by
 refine ⟨fz, new, cs, vs, cf, v, hr, hc, hf, hcf, fun x hx => ?_, he, hb, fun x hx => ?_, hn, fun x hx => ?_, hl, fun i o h => ?_⟩
 ·have := List.all_eq_true.1 hfg x hx
  simp only [Bool.and_eq_true, Nat.ble_eq, Bool.not_eq_true', List.contains_eq_mem, decide_eq_false_iff_not] at this
  exact this
 ·have := List.all_eq_true.1 hmv x hx
  simp only [Bool.or_eq_true, Nat.ble_eq, List.contains_eq_mem, decide_eq_true_eq] at this
  exact this
 ·have := List.all_eq_true.1 hge x hx
  simpa [Nat.ble_eq] using this
 ·have := zqJ ho i o h
  rwa [Nat.zero_add] at this
theorem zaa {cs : Prop} {vs : List AV} {cf : Prop} {v : AV} (fz new : List Nat) (hr : resL P S fn.results.toList = some (cs, vs)) (hc : cs) (hf : frz S.H fz (zig vs) = some (cf, v)) (hcf : cf) (he : ren (sig m new) out = v) (hb : zao Hout.length out = true)
  (hfg : fz.all (fun x => Nat.ble m x && !new.contains x) = true) (hmv : S.mv.all (fun x => mv.contains x || Nat.ble m x) = true) (hn : new.Nodup) (hge : new.all (fun x => Nat.ble m x) = true) (hl : Hout.length = m + new.length) (ho : HasO S.H (sig m new) Hout.length 0 Hout) : zas P fn m out Hout mv .ret S :=
 zm8 fz new hr hc hf hcf he hb hfg hmv hn hge hl ho
end
def rhoL (ps : List (Nat × Nat)) (i : Nat) : Nat := match ps with
 | [] => i
 | (a, b) :: r => if i = a then b else rhoL r i
def injB (ps : List (Nat × Nat)) (n : Nat) : Bool := (List.range n).all fun i => (List.range n).all fun j => !(rhoL ps i == rhoL ps j) || i == j
def fixB (ps : List (Nat × Nat)) (n : Nat) : Bool := (List.range n).all fun i => rhoL ps i == i
def RenT (ρ : Nat → Nat) (m : Nat) (T : Tm) : Tm → Prop
 | [] => True
 | (k, v) :: r => (tget T k = some (ren ρ v) ∧ zao m v = true) ∧ RenT ρ m T r
def RenH (ρ : Nat → Nat) (m : Nat) (H : Heap) : Heap → Prop
 | [] => True
 | (k, o) :: r => (hget H (ρ k) = some (renO ρ o) ∧ zbC m o = true ∧ Nat.blt k m = true) ∧ RenH ρ m H r
theorem zkO {ρ : Nat → Nat} {m : Nat} {T : Tm} : ∀ {T' : Tm} {k : Nat} {v : AV}, RenT ρ m T T' → tget T' k = some v → tget T k = some (ren ρ v) ∧ zao m v = true
 | [], _, _, _, h => by simp [tget] at h
 | (j, u) :: r, k, v, hf, h => by
  simp only [tget] at h
  split at h
  ·rename_i e; subst e; cases h; exact hf.1
  ·exact zkO hf.2 h
theorem zdh {ρ : Nat → Nat} {m : Nat} {H : Heap} : ∀ {H' : Heap} {k : Nat} {o : VObj}, RenH ρ m H H' → hget H' k = some o → hget H (ρ k) = some (renO ρ o) ∧ zbC m o = true ∧ k < m
 | [], _, _, _, h => by simp [hget] at h
 | (j, u) :: r, k, v, hf, h => by
  simp only [hget] at h
  split at h
  ·rename_i e; subst e; cases h; exact ⟨hf.1.1, hf.1.2.1, by have := hf.1.2.2; simpa [Nat.blt_eq] using this⟩
  ·exact zdh hf.2 h
theorem zD.ren {T T' : Tm} {H H' : Heap} {nx nx' : Nat} {mv mv' : List Nat} {nt lo : Nat} (ps : List (Nat × Nat)) (hi : injB ps nx' = true) (hfix : fixB ps lo = true) (hn : Nat.ble lo nx' = true) (ht : RenT (rhoL ps) nx' T T') (hh : RenH (rhoL ps) nx' H H') (hm : mv.all (fun x => mv'.contains x || Nat.ble lo x) = true) : zD ⟨T, H, nx, mv, nt, lo⟩ ⟨T', H', nx', mv', nt, lo⟩ := by
 intro B c w a hs
 have hlo : lo ≤ nx' := by simpa [Nat.ble_eq] using hn
 have hfix' : ∀ i, i < lo → rhoL ps i = i := fun i h => by
  have := List.all_eq_true.1 hfix i (by simpa using h)
  simpa using this
 have hinj : ∀ i j, i < nx' → j < nx' → rhoL ps i = rhoL ps j → i = j := fun i j h1 h2 e => by
  have := List.all_eq_true.1 (List.all_eq_true.1 hi i (by simpa using h1)) j (by simpa using h2)
  simpa [e] using this
 let c' : Ctx := { φ := fun id => if id < nx' then c.φ (rhoL ps id) else none, I := c.I }
 have hφ : ∀ {id loc}, c'.φ id = some loc → id < nx' ∧ c.φ (rhoL ps id) = some loc := fun {id loc} h => by
  have h' : (if id < nx' then c.φ (rhoL ps id) else none) = some loc := h
  split at h'
  ·exact ⟨by assumption, h'⟩
  ·cases h'
 have hrho : ∀ i loc, i < nx' → c.φ (rhoL ps i) = some loc → c'.φ i = some loc := fun i loc h1 h2 => by
  show (if i < nx' then c.φ (rhoL ps i) else none) = some loc
  rw [if_pos h1]; exact h2
 refine ⟨c', ⟨fun id o loc h1 h2 => ?_, fun id o b cap h1 h2 => ?_, fun id id' o o' b cap cap' hne h1 h2 h3 h4 => ?_, hs.h.imm, hs.h.size, hs.h.os, hs.h.tape, hs.h.output, hs.h.blk, hs.h.I, fun id loc hid h1 => ?_, fun id hid h1 => ?_⟩, fun t v h => ?_, hs.nt, hs.df, fun id hid => ?_, hs.lo, fun id o h => (zdh hh h).2.2, hs.mlo, hlo⟩
 ·obtain ⟨h3, h4, _⟩ := zdh hh h1
  exact zby.renIn (c := c) (c' := c') (ρ := rhoL ps) (m := nx') (fun b hb => hb) hrho h4 (hs.h.heap _ _ loc h3 (hφ h2).2)
 ·obtain ⟨h3, _, h5⟩ := zdh hh h1
  obtain ⟨h6, h7, h8⟩ := hs.h.own _ _ b cap h3 (hφ h2).2
  refine ⟨h6, h7, h8.imp (fun h => h) (fun ⟨h9, cap', h10⟩ => ?_)⟩
  have hlt : rhoL ps id < lo := by have h11 : B.m = lo := hs.mlo; omega
  have e : rhoL ps id = id := hinj _ _ (by omega) h5 (hfix' _ hlt)
  rw [e] at h9 h10
  exact ⟨h9, cap', h10⟩
 ·obtain ⟨h5, _, h6⟩ := zdh hh h1
  obtain ⟨h7, _, h8⟩ := zdh hh h2
  exact hs.h.apart _ _ _ _ b cap cap' (fun e => hne (hinj _ _ h6 h8 e)) h5 h7 (hφ h3).2 (hφ h4).2
 ·have h0 : id < lo := by
   rcases Nat.lt_or_ge id lo with h3 | h3
   ·exact h3
   ·have := hs.lo id h3; rw [this] at h1; cases h1
  have h2 := hs.h.φ id loc (fun hmem => by
   have h3 := List.all_eq_true.1 hm id hmem
   simp only [Bool.or_eq_true, Nat.ble_eq, List.contains_eq_mem, decide_eq_true_eq] at h3
   rcases h3 with h3 | h3
   ·exact hid h3
   ·omega) h1
  exact hrho id loc (by omega) (by rw [hfix' id h0]; exact h2)
 ·have h0 : id < lo := by have h11 : B.m = lo := hs.mlo; omega
  show (if id < nx' then c.φ (rhoL ps id) else none) = none
  rw [if_pos (by omega), hfix' id h0]
  exact hs.h.und id hid h1
 ·obtain ⟨h1, h2⟩ := zkO ht h
  exact Rep.renIn (c := c) (c' := c') (ρ := rhoL ps) (m := nx') (fun b hb => hb) hrho _ _ h2 (hs.t t _ h1)
 ·show (if id < nx' then c.φ (rhoL ps id) else none) = none
  have h9 : nx' ≤ id := hid
  rw [if_neg (by omega)]
end Go.Proofs.YtppnccjeggnllaaGreatVm

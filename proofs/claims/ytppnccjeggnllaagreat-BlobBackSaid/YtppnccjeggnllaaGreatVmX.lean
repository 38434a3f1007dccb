import Derived.Test.YtppnccjeggnllaaGreatVmW
namespace Go.Proofs.YtppnccjeggnllaaGreatVm
open Go Go.RowKit
set_option linter.all false
mutual
def unv (id : Nat) : AV → AV
 | .ref i sz off n => if i = id then .pv (.slc 0 true []) else .ref i sz off n
 | .agg cs => .agg (unvL id cs)
 | v => v
def unvL (id : Nat) : List AV → List AV
 | [] => []
 | a :: as => unv id a :: unvL id as
end
mutual
def okv (id : Nat) : AV → Bool
 | .ref i _ off n => !(i == id) || (off == 0 && n == 0)
 | .agg cs => okvL id cs
 | _ => true
def okvL (id : Nat) : List AV → Bool
 | [] => true
 | a :: as => okv id a && okvL id as
end
mutual
theorem znd {c c' : Ctx} {w : World} {id : Nat} (hI : za1 c c' w w) (hφ : Goes c c') (hv : c'.φ id = some .virt) : ∀ (a : AV) (v : Value), okv id a = true → Rep c w (unv id a) v → Rep c' w a v
 | .ref i sz off n, v, ho, h => by
  simp only [unv] at h
  split at h
  ·rename_i e
   subst e
   simp only [okv, beq_self_eq_true, Bool.not_true, Bool.false_or, Bool.and_eq_true, beq_iff_eq] at ho
   obtain ⟨rfl, rfl⟩ := ho
   simp only [Rep, RepP] at h ⊢
   obtain ⟨a, cap, h1, h2, h3, h4, _⟩ := h
   have : cap = 0 := h4 trivial
   subst this
   exact .inl ⟨hv, by trivial, by trivial, a, h1⟩
  ·exact Rep.mono hI hφ _ _ h
 | .agg cs, v, ho, h => by
  simp only [unv, Rep, okv] at h ho ⊢
  obtain ⟨vs, h1, h2⟩ := h
  exact ⟨vs, h1, ziS hI hφ hv cs _ ho h2⟩
 | .undef, v, _, h => Rep.mono hI hφ _ _ h
 | .pv _, v, _, h => Rep.mono hI hφ _ _ h
 | .pptr _ _, v, _, h => Rep.mono hI hφ _ _ h
 | .ptr _ _, v, _, h => Rep.mono hI hφ _ _ h
 | .view _ _ _, v, _, h => Rep.mono hI hφ _ _ h
 | .tup _, v, _, h => Rep.mono hI hφ _ _ h
 | .fnc _ _, v, _, h => Rep.mono hI hφ _ _ h
 | .bnd _ _ _, v, _, h => Rep.mono hI hφ _ _ h
 | .mapr _, v, _, h => Rep.mono hI hφ _ _ h
theorem ziS {c c' : Ctx} {w : World} {id : Nat} (hI : za1 c c' w w) (hφ : Goes c c') (hv : c'.φ id = some .virt) : ∀ (as : List AV) (vs : List Value), okvL id as = true → RepL c w (unvL id as) vs → RepL c' w as vs
 | [], [], _, _ => by simp [RepL]
 | a :: as, v :: vs, ho, h => by
  simp only [unvL, RepL, okvL, Bool.and_eq_true] at h ho ⊢
  exact ⟨znd hI hφ hv a v ho.1 h.1, ziS hI hφ hv as vs ho.2 h.2⟩
 | [], _ :: _, _, h => by simp [unvL, RepL] at h
 | _ :: _, [], _, h => by simp [unvL, RepL] at h
end
def VirT (id : Nat) (T : Tm) : Tm → Prop
 | [] => True
 | (k, v') :: r => (tget T k = some (unv id v') ∧ okv id v' = true) ∧ VirT id T r
def unvO (id : Nat) : VObj → VObj
 | .row e sz cs => .row e sz cs
 | .box cs => .box (unvL id cs)
 | .mp es => .mp es
def okvO (id : Nat) : VObj → Bool
 | .row _ _ _ => true
 | .box cs => okvL id cs
 | .mp _ => true
def VirH (id : Nat) (H : Heap) : Heap → Prop
 | [] => True
 | (k, o') :: r => (hget H k = some (unvO id o') ∧ okvO id o' = true) ∧ VirH id H r
theorem zk9 {id : Nat} {T : Tm} : ∀ {T' : Tm} {k : Nat} {v : AV}, VirT id T T' → tget T' k = some v → tget T k = some (unv id v) ∧ okv id v = true
 | [], _, _, _, h => by simp [tget] at h
 | (j, u) :: r, k, v, hf, h => by
  simp only [tget] at h
  split at h
  ·rename_i e; subst e; cases h; exact hf.1
  ·exact zk9 hf.2 h
theorem zeQ {id : Nat} {H : Heap} : ∀ {H' : Heap} {k : Nat} {o : VObj}, VirH id H H' → hget H' k = some o → hget H k = some (unvO id o) ∧ okvO id o = true
 | [], _, _, _, h => by simp [hget] at h
 | (j, u) :: r, k, v, hf, h => by
  simp only [hget] at h
  split at h
  ·rename_i e; subst e; cases h; exact hf.1
  ·exact zeQ hf.2 h
theorem zH.virt {T T' : Tm} {H H' : Heap} {nx nx' : Nat} {mv : List Nat} {nt lo : Nat} (e : TypeId) (sz : Nat) (hn : nx + 1 = nx') (ht : VirT nx T T') (hh : VirH nx H H') : zH ⟨T, H, nx, mv, nt, lo⟩ ⟨T', (nx, .row e sz []) :: H', nx', mv, nt, lo⟩ := by
 subst hn
 intro B c w a hs
 have hfr : c.φ nx = none := hs.fresh nx (Nat.le_refl _)
 let c' : Ctx := { φ := fun id => if id = nx then some .virt else c.φ id, I := c.I }
 have hv : c'.φ nx = some .virt := if_pos rfl
 have hne : ∀ {id}, id ≠ nx → c'.φ id = c.φ id := fun h => if_neg h
 have hI : za1 c c' w w := fun b hb => ⟨hb, rfl⟩
 have hgo : Goes c c' := fun id loc h => by
  by_cases e : id = nx
  ·subst e; rw [hfr] at h; cases h
  ·rw [hne e]; exact h
 have hml : B.m ≤ nx := by have h1 : B.m = lo := hs.mlo; have h2 : lo ≤ nx := hs.nlo; omega
 have hget' : ∀ {id o}, hget ((nx, VObj.row e sz []) :: H') id = some o → (id = nx ∧ o = .row e sz []) ∨ (id ≠ nx ∧ hget H' id = some o) := fun {id o} h => by
  simp only [hget] at h
  split at h
  ·rename_i e; cases h; exact .inl ⟨e.symm, rfl⟩
  ·rename_i e; exact .inr ⟨fun h => e h.symm, h⟩
 have hblk : ∀ {id b cap}, c'.φ id = some (.blk b cap) → id ≠ nx ∧ c.φ id = some (.blk b cap) := fun {id b cap} h => by
  by_cases e : id = nx
  ·subst e; rw [hv] at h; cases h
  ·exact ⟨e, by rw [hne e] at h; exact h⟩
 refine ⟨c', ⟨fun id o loc h1 h2 => ?_, fun id o b cap h1 h2 => ?_, fun id id' o o' b cap cap' hn h1 h2 h3 h4 => ?_, hs.h.imm, hs.h.size, hs.h.os, hs.h.tape, hs.h.output, hs.h.blk, hs.h.I, fun id loc hid h1 => hgo id loc (hs.h.φ id loc hid h1), fun id hid h1 => ?_⟩, fun t v h => ?_, hs.nt, hs.df, fun id hid => ?_, hs.lo, fun id o h => ?_, hs.mlo, ?_⟩
 ·rcases hget' h1 with ⟨rfl, rfl⟩ | ⟨hne', h3⟩
  ·rw [hv] at h2; cases h2; rfl
  ·rw [hne hne'] at h2
   obtain ⟨h4, h5⟩ := zeQ hh h3
   have h6 := hs.h.heap id _ loc h4 h2
   cases o with
   | row e2 sz2 cs => exact h6.mono hI hgo (fun _ _ _ => rfl)
   | mp es => exact h6.mono hI hgo (fun _ _ _ => rfl)
   | box cs =>
    cases loc with
    | virt => exact h6
    | blk b cap =>
     obtain ⟨arr, t, h7, h8⟩ := h6
     exact ⟨arr, t, h7, ziS hI hgo hv cs _ h5 h8⟩
 ·obtain ⟨hne', h3⟩ := hblk h2
  rcases hget' h1 with ⟨rfl, _⟩ | ⟨_, h4⟩
  ·exact absurd rfl hne'
  ·exact hs.h.own id _ b cap (zeQ hh h4).1 h3
 ·obtain ⟨n1, h5⟩ := hblk h3
  obtain ⟨n2, h6⟩ := hblk h4
  rcases hget' h1 with ⟨rfl, _⟩ | ⟨_, h7⟩
  ·exact absurd rfl n1
  ·rcases hget' h2 with ⟨rfl, _⟩ | ⟨_, h8⟩
   ·exact absurd rfl n2
   ·exact hs.h.apart id id' _ _ b cap cap' hn (zeQ hh h7).1 (zeQ hh h8).1 h5 h6
 ·rw [hne (by omega)]
  exact hs.h.und id hid h1
 ·obtain ⟨h1, h2⟩ := zk9 ht h
  exact znd hI hgo hv v _ h2 (hs.t t _ h1)
 ·have h9 : nx + 1 ≤ id := hid
  rw [hne (by omega)]
  exact hs.fresh id (by show nx ≤ id; omega)
 ·rcases hget' h with ⟨rfl, _⟩ | ⟨_, h3⟩
  ·exact Nat.lt_succ_self _
  ·exact Nat.lt_succ_of_lt (hs.wf id _ (zeQ hh h3).1)
 ·have h2 : lo ≤ nx := hs.nlo
  show lo ≤ nx + 1
  omega
theorem zmC (l : List UInt8) (k : Nat) : ((encY l).drop (k * 1)).take ((l.length - k) * 1) = encY (l.drop k) := by
 simp only [Nat.mul_one, encY, ← List.map_drop]
 rw [List.take_of_length_le (by simp)]
section
variable {P : Program} {ops : Array Oper} {dr : Bool} {j : Nat} {d : Nat} {op : Op} {type : TypeId} {pos : String} {after : Array Edge} {r : List Oper} {T : Tm} {H : Heap} {nx : Nat} {mv : List Nat} {nt lo : Nat} {Q : St → Prop} {c : Prop} {v : AV}
theorem zj6 {t e : TypeId} {x i : Operand} {sz n k n' : Nat} {full : Bool} {cs cs' : List PV} {kk : IntKind} {m : Int} (hx : St.ev ⟨T, H, nx, mv, nt, lo⟩ x = some (.pv (.slc n full cs))) (hi : St.ev ⟨T, H, nx, mv, nt, lo⟩ i = some (.pv (.int kk m))) (hm : m = (k : Int)) (ht : zcE P t = some e) (hs : tsz P e = some sz)
  (hk : k ≤ n) (hn : n - k = n') (hcs : (cs.drop (k * sz)).take ((n - k) * sz) = cs') (hd : Nat.blt d nt = true) (h : zY P ops dr (j + 1) r ⟨(d, .pv (.slc n' full cs')) :: T, H, nx, mv, nt, lo⟩ Q) :
  zY P ops dr j ({ dst := some d, op := .slice t x (some i) none none, type := type, pos := pos, after := after, guard := none } :: r) ⟨T, H, nx, mv, nt, lo⟩ Q := by
 subst hm; subst hn; subst hcs
 refine za (c := 0 ≤ (k : Int) ∧ (k : Int) ≤ n ∧ (n : Int) ≤ n) ?_ hd ⟨by omega, by omega, by omega⟩ h
 simp [zcp, hx, hi, optI, intA, zjN, ht, hs]
end
end Go.Proofs.YtppnccjeggnllaaGreatVm

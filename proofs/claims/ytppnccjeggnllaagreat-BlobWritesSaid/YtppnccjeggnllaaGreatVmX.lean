import Derived.Test.YtppnccjeggnllaaGreatVmW
namespace Go.Proofs.YtppnccjeggnllaaGreatVm
open Go Go.RowKit
set_option linter.all false
mutual
def unv (id : Nat) : AV → AV
 | .ref i sz off n => if i = id then .pv (.slc 0 true []) else .ref i sz off n
 | .agg cs => .agg (unvL id cs)
 | v => v
def unvL (id : Nat) : List AV → List AV
 | [] => []
 | a :: as => unv id a :: unvL id as
end
mutual
def okv (id : Nat) : AV → Bool
 | .ref i _ off n => !(i == id) || (off == 0 && n == 0)
 | .agg cs => okvL id cs
 | _ => true
def okvL (id : Nat) : List AV → Bool
 | [] => true
 | a :: as => okv id a && okvL id as
end
mutual
theorem zpE {c c' : Ctx} {w : World} {id : Nat} (hI : zaT c c' w w) (hφ : Goes c c') (hv : c'.φ id = some .virt) : ∀ (a : AV) (v : Value), okv id a = true → Rep c w (unv id a) v → Rep c' w a v
 | .ref i sz off n, v, ho, h => by
  simp only [unv] at h
  split at h
  ·rename_i e
   subst e
   simp only [okv, beq_self_eq_true, Bool.not_true, Bool.false_or, Bool.and_eq_true, beq_iff_eq] at ho
   obtain ⟨rfl, rfl⟩ := ho
   simp only [Rep, RepP] at h ⊢
   obtain ⟨a, cap, h1, h2, h3, h4, _⟩ := h
   have : cap = 0 := h4 trivial
   subst this
   exact .inl ⟨hv, by trivial, by trivial, a, h1⟩
  ·exact Rep.mono hI hφ _ _ h
 | .agg cs, v, ho, h => by
  simp only [unv, Rep, okv] at h ho ⊢
  obtain ⟨vs, h1, h2⟩ := h
  exact ⟨vs, h1, zio hI hφ hv cs _ ho h2⟩
 | .undef, v, _, h => Rep.mono hI hφ _ _ h
 | .pv _, v, _, h => Rep.mono hI hφ _ _ h
 | .pptr _ _, v, _, h => Rep.mono hI hφ _ _ h
 | .ptr _ _, v, _, h => Rep.mono hI hφ _ _ h
 | .view _ _ _, v, _, h => Rep.mono hI hφ _ _ h
 | .tup _, v, _, h => Rep.mono hI hφ _ _ h
 | .fnc _ _, v, _, h => Rep.mono hI hφ _ _ h
 | .bnd _ _ _, v, _, h => Rep.mono hI hφ _ _ h
 | .mapr _, v, _, h => Rep.mono hI hφ _ _ h
theorem zio {c c' : Ctx} {w : World} {id : Nat} (hI : zaT c c' w w) (hφ : Goes c c') (hv : c'.φ id = some .virt) : ∀ (as : List AV) (vs : List Value), okvL id as = true → RepL c w (unvL id as) vs → RepL c' w as vs
 | [], [], _, _ => by simp [RepL]
 | a :: as, v :: vs, ho, h => by
  simp only [unvL, RepL, okvL, Bool.and_eq_true] at h ho ⊢
  exact ⟨zpE hI hφ hv a v ho.1 h.1, zio hI hφ hv as vs ho.2 h.2⟩
 | [], _ :: _, _, h => by simp [unvL, RepL] at h
 | _ :: _, [], _, h => by simp [unvL, RepL] at h
end
def VirT (id : Nat) (T : Tm) : Tm → Prop
 | [] => True
 | (k, v') :: r => (tget T k = some (unv id v') ∧ okv id v' = true) ∧ VirT id T r
def unvO (id : Nat) : VObj → VObj
 | .row e sz cs => .row e sz cs
 | .box cs => .box (unvL id cs)
 | .mp es => .mp es
 | .arow e sz cs => .arow e sz (unvL id cs)
def okvO (id : Nat) : VObj → Bool
 | .row _ _ _ => true
 | .box cs => okvL id cs
 | .mp _ => true
 | .arow _ _ cs => okvL id cs
def VirH (id : Nat) (H : Heap) : Heap → Prop
 | [] => True
 | (k, o') :: r => (hget H k = some (unvO id o') ∧ okvO id o' = true) ∧ VirH id H r
theorem zoI {id : Nat} {T : Tm} : ∀ {T' : Tm} {k : Nat} {v : AV}, VirT id T T' → tget T' k = some v → tget T k = some (unv id v) ∧ okv id v = true
 | [], _, _, _, h => by simp [tget] at h
 | (j, u) :: r, k, v, hf, h => by
  simp only [tget] at h
  split at h
  ·rename_i e; subst e; cases h; exact hf.1
  ·exact zoI hf.2 h
theorem zfP {id : Nat} {H : Heap} : ∀ {H' : Heap} {k : Nat} {o : VObj}, VirH id H H' → hget H' k = some o → hget H k = some (unvO id o) ∧ okvO id o = true
 | [], _, _, _, h => by simp [hget] at h
 | (j, u) :: r, k, v, hf, h => by
  simp only [hget] at h
  split at h
  ·rename_i e; subst e; cases h; exact hf.1
  ·exact zfP hf.2 h
theorem zkL (id : Nat) : ∀ l : List AV, (unvL id l).length = l.length
 | [] => rfl
 | x :: l => by simp [unvL, zkL id l]
theorem zD.virt {T T' : Tm} {H H' : Heap} {nx nx' : Nat} {mv : List Nat} {nt lo : Nat} (e : TypeId) (sz : Nat) (hn : nx + 1 = nx') (ht : VirT nx T T') (hh : VirH nx H H') : zD ⟨T, H, nx, mv, nt, lo⟩ ⟨T', (nx, .row e sz []) :: H', nx', mv, nt, lo⟩ := by
 subst hn
 intro B c w a hs
 have hfr : c.φ nx = none := hs.fresh nx (Nat.le_refl _)
 let c' : Ctx := { φ := fun id => if id = nx then some .virt else c.φ id, I := c.I }
 have hv : c'.φ nx = some .virt := if_pos rfl
 have hne : ∀ {id}, id ≠ nx → c'.φ id = c.φ id := fun h => if_neg h
 have hI : zaT c c' w w := fun b hb => ⟨hb, rfl⟩
 have hgo : Goes c c' := fun id loc h => by
  by_cases e : id = nx
  ·subst e; rw [hfr] at h; cases h
  ·rw [hne e]; exact h
 have hml : B.m ≤ nx := by have h1 : B.m = lo := hs.mlo; have h2 : lo ≤ nx := hs.nlo; omega
 have hget' : ∀ {id o}, hget ((nx, VObj.row e sz []) :: H') id = some o → (id = nx ∧ o = .row e sz []) ∨ (id ≠ nx ∧ hget H' id = some o) := fun {id o} h => by
  simp only [hget] at h
  split at h
  ·rename_i e; cases h; exact .inl ⟨e.symm, rfl⟩
  ·rename_i e; exact .inr ⟨fun h => e h.symm, h⟩
 have hblk : ∀ {id b cap}, c'.φ id = some (.blk b cap) → id ≠ nx ∧ c.φ id = some (.blk b cap) := fun {id b cap} h => by
  by_cases e : id = nx
  ·subst e; rw [hv] at h; cases h
  ·exact ⟨e, by rw [hne e] at h; exact h⟩
 refine ⟨c', ⟨fun id o loc h1 h2 => ?_, fun id o b cap h1 h2 => ?_, fun id id' o o' b cap cap' hn h1 h2 h3 h4 => ?_, hs.h.imm, hs.h.size, hs.h.os, hs.h.tape, hs.h.output, hs.h.blk, hs.h.I, fun id loc hid h1 => hgo id loc (hs.h.φ id loc hid h1), fun id hid h1 => ?_⟩, fun t v h => ?_, hs.nt, hs.df, fun id hid => ?_, hs.lo, fun id o h => ?_, hs.mlo, ?_⟩
 ·rcases hget' h1 with ⟨rfl, rfl⟩ | ⟨hne', h3⟩
  ·rw [hv] at h2; cases h2; rfl
  ·rw [hne hne'] at h2
   obtain ⟨h4, h5⟩ := zfP hh h3
   have h6 := hs.h.heap id _ loc h4 h2
   cases o with
   | row e2 sz2 cs => exact h6.mono hI hgo (fun _ _ _ => rfl)
   | mp es => exact h6.mono hI hgo (fun _ _ _ => rfl)
   | arow e2 sz2 cs =>
    cases loc with
    | virt =>
     have h' : unvL nx cs = [] := h6
     have h2 := zkL nx cs
     rw [h'] at h2
     exact List.eq_nil_of_length_eq_zero h2.symm
    | blk b cap =>
     obtain ⟨arr, h7, h8, h9, h10, h11⟩ := h6
     rw [zkL] at h10 h11
     exact ⟨arr, h7, h8, h9, h10, zio hI hgo hv cs _ h5 h11⟩
   | box cs =>
    cases loc with
    | virt => exact h6
    | blk b cap =>
     obtain ⟨arr, t, h7, h8⟩ := h6
     exact ⟨arr, t, h7, zio hI hgo hv cs _ h5 h8⟩
 ·obtain ⟨hne', h3⟩ := hblk h2
  rcases hget' h1 with ⟨rfl, _⟩ | ⟨_, h4⟩
  ·exact absurd rfl hne'
  ·exact hs.h.own id _ b cap (zfP hh h4).1 h3
 ·obtain ⟨n1, h5⟩ := hblk h3
  obtain ⟨n2, h6⟩ := hblk h4
  rcases hget' h1 with ⟨rfl, _⟩ | ⟨_, h7⟩
  ·exact absurd rfl n1
  ·rcases hget' h2 with ⟨rfl, _⟩ | ⟨_, h8⟩
   ·exact absurd rfl n2
   ·exact hs.h.apart id id' _ _ b cap cap' hn (zfP hh h7).1 (zfP hh h8).1 h5 h6
 ·rw [hne (by omega)]
  exact hs.h.und id hid h1
 ·obtain ⟨h1, h2⟩ := zoI ht h
  exact zpE hI hgo hv v _ h2 (hs.t t _ h1)
 ·have h9 : nx + 1 ≤ id := hid
  rw [hne (by omega)]
  exact hs.fresh id (by show nx ≤ id; omega)
 ·rcases hget' h with ⟨rfl, _⟩ | ⟨_, h3⟩
  ·exact Nat.lt_succ_self _
  ·exact Nat.lt_succ_of_lt (hs.wf id _ (zfP hh h3).1)
 ·have h2 : lo ≤ nx := hs.nlo
  show lo ≤ nx + 1
  omega
end Go.Proofs.YtppnccjeggnllaaGreatVm

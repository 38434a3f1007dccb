import Derived.Test.YtppnccjeggnllaaGreatVmP
namespace Go.Proofs.YtppnccjeggnllaaGreatVm
open Go Go.RowKit
set_option linter.all false
def zgU : PV → Bool
 | .slc _ _ _ => false
 | .nnl _ _ => false
 | _ => true
mutual
def solid : AV → Bool
 | .pv p => zgU p
 | .pptr _ _ => false
 | .agg cs => zfd cs
 | .tup cs => zfd cs
 | .fnc _ cs => zfd cs
 | .bnd _ _ cs => zfd cs
 | _ => true
def zfd : List AV → Bool
 | [] => true
 | a :: as => solid a && zfd as
end
def zll : VObj → Prop
 | .row _ _ cs => ∀ p ∈ cs, zgU p = true
 | .box cs => zfd cs = true
 | .mp _ => False
mutual
theorem Rep.solid {c c' : Ctx} {w w' : World} {ρ : Nat → Nat} (hφ : ∀ i loc, c.φ i = some loc → c'.φ (ρ i) = some loc) : ∀ (a : AV) (v : Value), solid a = true → Rep c w a v → Rep c' w' (ren ρ a) v
 | .undef, _, _, _ => by simp [ren, Rep]
 | .pv p, v, hs, h => by
  simp only [ren, Rep] at h ⊢
  cases p <;> simp_all [RepP, zgU, YtppnccjeggnllaaGreatVm.solid]
 | .pptr cs off, v, hs, h => by simp [YtppnccjeggnllaaGreatVm.solid] at hs
 | .ptr id off, v, _, h => by simp only [ren, Rep] at h ⊢; obtain ⟨b, cap, h1, h2⟩ := h; exact ⟨b, cap, hφ _ _ h1, h2⟩
 | .ref id sz off n, v, _, h => by
  simp only [ren, Rep] at h ⊢
  rcases h with ⟨h1, h2⟩ | ⟨b, cap, a, h1, h2⟩
  ·exact .inl ⟨hφ _ _ h1, h2⟩
  ·exact .inr ⟨b, cap, a, hφ _ _ h1, h2⟩
 | .view id off n, v, _, h => by simp only [ren, Rep] at h ⊢; obtain ⟨b, cap, cp, a, h1, h2⟩ := h; exact ⟨b, cap, cp, a, hφ _ _ h1, h2⟩
 | .agg cs, v, hs, h => by simp only [ren, Rep, YtppnccjeggnllaaGreatVm.solid] at h hs ⊢; obtain ⟨vs, h1, h2⟩ := h; exact ⟨vs, h1, RepL.solid hφ cs _ hs h2⟩
 | .tup cs, v, hs, h => by simp only [ren, Rep, YtppnccjeggnllaaGreatVm.solid] at h hs ⊢; obtain ⟨vs, h1, h2⟩ := h; exact ⟨vs, h1, RepL.solid hφ cs _ hs h2⟩
 | .fnc f cs, v, hs, h => by simp only [ren, Rep, YtppnccjeggnllaaGreatVm.solid] at h hs ⊢; obtain ⟨vs, h1, h2⟩ := h; exact ⟨vs, h1, RepL.solid hφ cs _ hs h2⟩
 | .bnd f q cs, v, hs, h => by simp only [ren, Rep, YtppnccjeggnllaaGreatVm.solid] at h hs ⊢; obtain ⟨us, vs, h1, h0, h2⟩ := h; exact ⟨us, vs, h1, h0, RepL.solid hφ cs _ hs h2⟩
 | .mapr id, v, _, h => by simp only [ren, Rep] at h ⊢; obtain ⟨b, cap, h1, h2⟩ := h; exact ⟨b, cap, hφ _ _ h1, h2⟩
theorem RepL.solid {c c' : Ctx} {w w' : World} {ρ : Nat → Nat} (hφ : ∀ i loc, c.φ i = some loc → c'.φ (ρ i) = some loc) : ∀ (as : List AV) (vs : List Value), zfd as = true → RepL c w as vs → RepL c' w' (renL ρ as) vs
 | [], [], _, _ => by simp [renL, RepL]
 | a :: as, v :: vs, hs, h => by simp only [renL, RepL, zfd, Bool.and_eq_true] at h hs ⊢; exact ⟨Rep.solid hφ a v hs.1 h.1, RepL.solid hφ as vs hs.2 h.2⟩
 | [], _ :: _, _, h => by simp [RepL] at h
 | _ :: _, [], _, h => by simp [RepL] at h
end
theorem znY (ρ : Nat → Nat) : ∀ l : List PV, renL ρ (l.map .pv) = l.map .pv
 | [] => rfl
 | x :: l => by simp [renL, ren, znY ρ l]
theorem zjz : ∀ {l : List PV}, (∀ p ∈ l, zgU p = true) → zfd (l.map .pv) = true
 | [], _ => rfl
 | x :: l, h => by simp only [List.map_cons, zfd, solid, Bool.and_eq_true]; exact ⟨h x (by simp), zjz (fun p hp => h p (List.mem_cons_of_mem _ hp))⟩
theorem zbe.solid {c c' : Ctx} {w : World} {ρ : Nat → Nat} (hφ : ∀ i loc, c.φ i = some loc → c'.φ (ρ i) = some loc) {o : VObj} {loc : Loc} (hs : zll o) (h : zbe c w o loc) : zbe c' w (renO ρ o) loc := by
 cases o with
 | mp es => exact hs.elim
 | row e sz cs =>
  cases loc with
  | virt => exact h
  | blk b cap =>
   obtain ⟨arr, h1, h2, h3, h4, h5⟩ := h
   refine ⟨arr, h1, h2, h3, h4, ?_⟩
   have := RepL.solid (w' := w) hφ _ _ (zjz hs) h5
   rwa [znY] at this
 | box cs =>
  cases loc with
  | virt => exact h
  | blk b cap =>
   obtain ⟨arr, t, h1, h5⟩ := h
   exact ⟨arr, t, h1, RepL.solid hφ _ _ hs h5⟩
mutual
theorem zno (ρ σ : Nat → Nat) : ∀ a : AV, ren ρ (ren σ a) = ren (fun i => ρ (σ i)) a
 | .undef => rfl
 | .pv _ => rfl
 | .pptr _ _ => rfl
 | .ptr _ _ => rfl
 | .ref _ _ _ _ => rfl
 | .view _ _ _ => rfl
 | .agg cs => by simp only [ren, zd1 ρ σ cs]
 | .tup cs => by simp only [ren, zd1 ρ σ cs]
 | .fnc _ cs => by simp only [ren, zd1 ρ σ cs]
 | .bnd _ _ cs => by simp only [ren, zd1 ρ σ cs]
 | .mapr _ => rfl
theorem zd1 (ρ σ : Nat → Nat) : ∀ as : List AV, renL ρ (renL σ as) = renL (fun i => ρ (σ i)) as
 | [] => rfl
 | a :: as => by simp only [renL, zno ρ σ a, zd1 ρ σ as]
end
def znN : List VObj → Prop
 | [] => True
 | o :: r => zll o ∧ znN r
theorem zjp : ∀ {l : List VObj}, znN l → ∀ o ∈ l, zll o
 | x :: l, h, o, ho => by
  rcases List.mem_cons.1 ho with rfl | ho
  ·exact h.1
  ·exact zjp h.2 o ho
end Go.Proofs.YtppnccjeggnllaaGreatVm

import Derived.Below
import Derived.Orders
import Derived.WalkKit
namespace Go.Proofs.YtppnccjeggnllaaGreatVm
open Go Go.RowKit
set_option linter.all false
inductive PV where
 | int (k : IntKind) (n : Int)
 | bool (b : Bool)
 | str (s : List UInt8)
 | slc (n : Nat) (full : Bool) (cs : List PV)
 | nils
 | nnl (n : Nat) (cs : List PV)
 | nilp
 | nilf
 | fn (f : FuncId)
 deriving Inhabited
inductive AV where
 | undef
 | pv (p : PV)
 | pptr (cs : List PV) (off : Nat)
 | ptr (id off : Nat)
 | ref (id sz off n : Nat)
 | view (id off n : Nat)
 | agg (cs : List AV)
 | tup (vs : List AV)
 | fnc (f : FuncId) (caps : List AV)
 | bnd (f : FuncId) (q : Nat) (cs : List AV)
 | mapr (id : Nat)
 deriving Inhabited
inductive DV where
 | one (p : PV)
 | agg (ps : List PV)
 deriving Inhabited
def DV.av : DV → AV
 | .one p => .pv p
 | .agg ps => .agg (ps.map .pv)
inductive VObj where
 | row (e : TypeId) (sz : Nat) (cs : List PV)
 | box (cs : List AV)
 | mp (es : List (DV × DV))
 | arow (e : TypeId) (sz : Nat) (cs : List AV)
 deriving Inhabited
inductive Loc where
 | virt
 | blk (b cap : Nat)
structure Ctx where
 φ : Nat → Option Loc
 I : Nat → Prop
abbrev Heap := List (Nat × VObj)
def hget : Heap → Nat → Option VObj
 | [], _ => none
 | (k, o) :: r, i => if k = i then some o else hget r i
def hset : Heap → Nat → VObj → Heap
 | [], _, _ => []
 | (k, o) :: r, i, x => if k = i then (k, x) :: r else (k, o) :: hset r i x
def mref (b cap : Nat) : Value := if cap = 0 then .chan (some b) else .map (some b)
theorem zs4 {b cap : Nat} (h : cap ≠ 0) : mref b cap = .map (some b) := if_neg h
theorem zlK (b : Nat) : mref b 0 = .chan (some b) := if_pos rfl
mutual
def RepP (c : Ctx) (w : World) : PV → Value → Prop
 | .int k n, v => v = .int k n
 | .bool b, v => v = .bool b
 | .str s, v => v = .string ⟨s.toArray⟩
 | .slc n full cs, v => ∃ a cap, v = .slice a n cap ∧ n ≤ cap ∧ cap ≤ maxLen ∧ (full = true → cap = n) ∧
   ((n = 0 ∧ cs = []) ∨ ∃ b off, a = some ⟨b, off, none⟩ ∧ c.I b ∧ z4 c w b off cs)
 | .nils, v => ∃ cap, v = .slice none 0 cap
 | .nnl n cs, v => ∃ b cap, v = .slice (some b) n cap ∧ n ≤ cap ∧ cap ≤ maxLen ∧ ((n = 0 ∧ cs = []) ∨ ∃ k off, b = ⟨k, off, none⟩ ∧ c.I k ∧ z4 c w k off cs)
 | .nilp, v => v = .pointer none
 | .nilf, v => v = .nilFunc
 | .fn f, v => v = .func (.func f) #[] #[]
def z4 (c : Ctx) (w : World) (b : Nat) : Nat → List PV → Prop
 | _, [] => True
 | off, p :: ps => (∃ u, w.cell? ⟨b, off, none⟩ = some u ∧ RepP c w p u) ∧ z4 c w b (off + 1) ps
end
mutual
def Rep (c : Ctx) (w : World) : AV → Value → Prop
 | .undef, _ => True
 | .pv p, v => RepP c w p v
 | .pptr cs off, v => ∃ b o, v = .pointer (some ⟨b, o + off, none⟩) ∧ c.I b ∧ z4 c w b o cs
 | .ptr id off, v => ∃ b cap, c.φ id = some (.blk b cap) ∧ v = .pointer (some ⟨b, off, none⟩)
 | .ref id sz off n, v => (c.φ id = some .virt ∧ off = 0 ∧ n = 0 ∧ ∃ a, v = .slice a 0 0) ∨
   ∃ b cap a, c.φ id = some (.blk b cap) ∧ v = .slice a n (cap - off) ∧ off + n ≤ cap ∧ cap ≤ maxLen ∧ (a = some ⟨b, off * sz, none⟩ ∨ cap = off)
 | .view id off n, v => ∃ b cap cp a, c.φ id = some (.blk b cap) ∧ v = .slice a n cp ∧ n ≤ cp ∧ cp ≤ maxLen ∧ (a = some ⟨b, off, none⟩ ∨ n = 0)
 | .agg cs, v => ∃ vs, v = .agg vs ∧ RepL c w cs vs.toList
 | .tup cs, v => ∃ vs, v = .tuple vs ∧ RepL c w cs vs.toList
 | .fnc f cs, v => ∃ vs, v = .func (.func f) #[] vs ∧ RepL c w cs vs.toList
 | .bnd f q cs, v => ∃ us vs, v = .func (.func f) us vs ∧ us.size = q ∧ RepL c w cs (us.toList ++ vs.toList)
 | .mapr id, v => ∃ b cap, c.φ id = some (.blk b cap) ∧ v = mref b cap
def RepL (c : Ctx) (w : World) : List AV → List Value → Prop
 | [], [] => True
 | a :: as, v :: vs => Rep c w a v ∧ RepL c w as vs
 | _, _ => False
end
theorem zW {c : Ctx} {w : World} : ∀ {as : List AV} {vs : List Value}, RepL c w as vs → as.length = vs.length
 | [], [], _ => rfl
 | _ :: as, _ :: vs, h => by simp only [RepL] at h; simp [zW h.2]
 | [], _ :: _, h => by simp [RepL] at h
 | _ :: _, [], h => by simp [RepL] at h
theorem zg7 {c : Ctx} {w : World} : ∀ {as : List AV} {vs : List Value}, RepL c w as vs → ∀ {i : Nat} {a : AV}, as[i]? = some a → ∃ v, vs[i]? = some v ∧ Rep c w a v
 | [], [], _, i, a, h => by simp at h
 | x :: as, v :: vs, h, 0, a, ha => by simp only [RepL] at h; simp at ha; subst ha; exact ⟨v, by simp, h.1⟩
 | x :: as, v :: vs, h, i + 1, a, ha => by simp only [RepL] at h; simpa using zg7 h.2 (i := i) (by simpa using ha)
 | [], _ :: _, h, _, _, _ => by simp [RepL] at h
 | _ :: _, [], h, _, _, _ => by simp [RepL] at h
theorem zaF {c : Ctx} {w : World} : ∀ {as : List AV} {vs : List Value} {bs : List AV} {us : List Value}, RepL c w as vs → RepL c w bs us → RepL c w (as ++ bs) (vs ++ us)
 | [], [], _, _, _, h2 => h2
 | _ :: as, _ :: vs, _, _, h, h2 => by simp only [RepL, List.cons_append] at h ⊢; exact ⟨h.1, zaF h.2 h2⟩
 | [], _ :: _, _, _, h, _ => by simp [RepL] at h
 | _ :: _, [], _, _, h, _ => by simp [RepL] at h
def zaT (c c' : Ctx) (w w' : World) : Prop := ∀ b, c.I b → c'.I b ∧ w'.heap[b]? = w.heap[b]?
theorem zm0 {w w' : World} {b o : Nat} (h : w'.heap[b]? = w.heap[b]?) : w'.cell? ⟨b, o, none⟩ = w.cell? ⟨b, o, none⟩ := by simp [World.cell?, h]
mutual
theorem RepP.mono {c c' : Ctx} {w w' : World} (hI : zaT c c' w w') : ∀ (p : PV) (v : Value), RepP c w p v → RepP c' w' p v
 | .int _ _, _, h => by simpa [RepP] using h
 | .bool _, _, h => by simpa [RepP] using h
 | .str _, _, h => by simpa [RepP] using h
 | .nilp, _, h => by simpa [RepP] using h
 | .nils, _, h => by simpa [RepP] using h
 | .nnl n cs, v, h => by
  simp only [RepP] at h ⊢
  obtain ⟨a, cap, hv, h1, h2, h4⟩ := h
  refine ⟨a, cap, hv, h1, h2, h4.imp id ?_⟩
  rintro ⟨b, off, ha, hb, hc⟩
  exact ⟨b, off, ha, (hI b hb).1, z4.mono hI hb cs off hc⟩
 | .nilf, _, h => by simpa [RepP] using h
 | .fn _, _, h => by simpa [RepP] using h
 | .slc n full cs, v, h => by
  simp only [RepP] at h ⊢
  obtain ⟨a, cap, hv, h1, h2, h3, h4⟩ := h
  refine ⟨a, cap, hv, h1, h2, h3, h4.imp id ?_⟩
  rintro ⟨b, off, ha, hb, hc⟩
  exact ⟨b, off, ha, (hI b hb).1, z4.mono hI hb cs off hc⟩
theorem z4.mono {c c' : Ctx} {w w' : World} (hI : zaT c c' w w') {b : Nat} (hb : c.I b) : ∀ (cs : List PV) (off : Nat), z4 c w b off cs → z4 c' w' b off cs
 | [], _, _ => by simp [z4]
 | p :: ps, off, h => by
  simp only [z4] at h ⊢
  obtain ⟨⟨u, hu, hr⟩, h2⟩ := h
  exact ⟨⟨u, by rw [zm0 (hI b hb).2]; exact hu, RepP.mono hI p u hr⟩, z4.mono hI hb ps (off + 1) h2⟩
end
mutual
def purge (k : List Nat) : AV → AV
 | .undef => .undef
 | .pv p => .pv p
 | .pptr cs off => .pptr cs off
 | .ptr id off => if id ∈ k then .undef else .ptr id off
 | .ref id sz off n => if id ∈ k then .undef else .ref id sz off n
 | .view id off n => if id ∈ k then .undef else .view id off n
 | .agg cs => .agg (zcB k cs)
 | .tup cs => .tup (zcB k cs)
 | .fnc f cs => .fnc f (zcB k cs)
 | .bnd f q cs => .bnd f q (zcB k cs)
 | .mapr id => if id ∈ k then .undef else .mapr id
def zcB (k : List Nat) : List AV → List AV
 | [] => []
 | a :: as => purge k a :: zcB k as
end
def Goes (c c' : Ctx) : Prop := ∀ id loc, c.φ id = some loc → c'.φ id = some loc
def zcU (k : List Nat) (c c' : Ctx) : Prop := ∀ id loc, id ∉ k → c.φ id = some loc → c'.φ id = some loc
mutual
theorem Rep.mono {c c' : Ctx} {w w' : World} (hI : zaT c c' w w') (hφ : Goes c c') : ∀ (a : AV) (v : Value), Rep c w a v → Rep c' w' a v
 | .undef, _, _ => by simp [Rep]
 | .pv p, v, h => by simp only [Rep] at h ⊢; exact RepP.mono hI p v h
 | .pptr cs off, v, h => by
  simp only [Rep] at h ⊢
  obtain ⟨b, o, hv, hb, hc⟩ := h
  exact ⟨b, o, hv, (hI b hb).1, z4.mono hI hb cs o hc⟩
 | .ptr id off, v, h => by simp only [Rep] at h ⊢; obtain ⟨b, cap, h1, h2⟩ := h; exact ⟨b, cap, hφ _ _ h1, h2⟩
 | .ref id sz off n, v, h => by
  simp only [Rep] at h ⊢
  rcases h with ⟨h1, h2⟩ | ⟨b, cap, a, h1, h2⟩
  ·exact .inl ⟨hφ _ _ h1, h2⟩
  ·exact .inr ⟨b, cap, a, hφ _ _ h1, h2⟩
 | .view id off n, v, h => by simp only [Rep] at h ⊢; obtain ⟨b, cap, cp, a, h1, h2⟩ := h; exact ⟨b, cap, cp, a, hφ _ _ h1, h2⟩
 | .agg cs, v, h => by simp only [Rep] at h ⊢; obtain ⟨vs, h1, h2⟩ := h; exact ⟨vs, h1, RepL.mono hI hφ cs _ h2⟩
 | .tup cs, v, h => by simp only [Rep] at h ⊢; obtain ⟨vs, h1, h2⟩ := h; exact ⟨vs, h1, RepL.mono hI hφ cs _ h2⟩
 | .fnc f cs, v, h => by simp only [Rep] at h ⊢; obtain ⟨vs, h1, h2⟩ := h; exact ⟨vs, h1, RepL.mono hI hφ cs _ h2⟩
 | .bnd f q cs, v, h => by simp only [Rep] at h ⊢; obtain ⟨us, vs, h1, h0, h2⟩ := h; exact ⟨us, vs, h1, h0, RepL.mono hI hφ cs _ h2⟩
 | .mapr id, v, h => by simp only [Rep] at h ⊢; obtain ⟨b, cap, h1, h2⟩ := h; exact ⟨b, cap, hφ _ _ h1, h2⟩
theorem RepL.mono {c c' : Ctx} {w w' : World} (hI : zaT c c' w w') (hφ : Goes c c') : ∀ (as : List AV) (vs : List Value), RepL c w as vs → RepL c' w' as vs
 | [], [], _ => by simp [RepL]
 | a :: as, v :: vs, h => by simp only [RepL] at h ⊢; exact ⟨Rep.mono hI hφ a v h.1, RepL.mono hI hφ as vs h.2⟩
 | [], _ :: _, h => by simp [RepL] at h
 | _ :: _, [], h => by simp [RepL] at h
end
mutual
theorem Rep.purge {c c' : Ctx} {w w' : World} {k : List Nat} (hI : zaT c c' w w') (hφ : zcU k c c') : ∀ (a : AV) (v : Value), Rep c w a v → Rep c' w' (purge k a) v
 | .undef, _, _ => by simp [YtppnccjeggnllaaGreatVm.purge, Rep]
 | .pv p, v, h => by simp only [YtppnccjeggnllaaGreatVm.purge, Rep] at h ⊢; exact RepP.mono hI p v h
 | .pptr cs off, v, h => by
  simp only [YtppnccjeggnllaaGreatVm.purge, Rep] at h ⊢
  obtain ⟨b, o, hv, hb, hc⟩ := h
  exact ⟨b, o, hv, (hI b hb).1, z4.mono hI hb cs o hc⟩
 | .ptr id off, v, h => by
  simp only [YtppnccjeggnllaaGreatVm.purge, Rep] at h ⊢
  obtain ⟨b, cap, h1, h2⟩ := h
  split
  ·simp [Rep]
  ·rename_i hne; simp only [Rep]; exact ⟨b, cap, hφ _ _ hne h1, h2⟩
 | .ref id sz off n, v, h => by
  simp only [YtppnccjeggnllaaGreatVm.purge, Rep] at h ⊢
  split
  ·simp [Rep]
  ·rename_i hne
   simp only [Rep]
   rcases h with ⟨h1, h2⟩ | ⟨b, cap, a, h1, h2⟩
   ·exact .inl ⟨hφ _ _ hne h1, h2⟩
   ·exact .inr ⟨b, cap, a, hφ _ _ hne h1, h2⟩
 | .view id off n, v, h => by
  simp only [YtppnccjeggnllaaGreatVm.purge, Rep] at h ⊢
  obtain ⟨b, cap, cp, a, h1, h2⟩ := h
  split
  ·simp [Rep]
  ·rename_i hne; simp only [Rep]; exact ⟨b, cap, cp, a, hφ _ _ hne h1, h2⟩
 | .agg cs, v, h => by simp only [YtppnccjeggnllaaGreatVm.purge, Rep] at h ⊢; obtain ⟨vs, h1, h2⟩ := h; exact ⟨vs, h1, RepL.purge hI hφ cs _ h2⟩
 | .tup cs, v, h => by simp only [YtppnccjeggnllaaGreatVm.purge, Rep] at h ⊢; obtain ⟨vs, h1, h2⟩ := h; exact ⟨vs, h1, RepL.purge hI hφ cs _ h2⟩
 | .fnc f cs, v, h => by simp only [YtppnccjeggnllaaGreatVm.purge, Rep] at h ⊢; obtain ⟨vs, h1, h2⟩ := h; exact ⟨vs, h1, RepL.purge hI hφ cs _ h2⟩
 | .bnd f q cs, v, h => by simp only [YtppnccjeggnllaaGreatVm.purge, Rep] at h ⊢; obtain ⟨us, vs, h1, h0, h2⟩ := h; exact ⟨us, vs, h1, h0, RepL.purge hI hφ cs _ h2⟩
 | .mapr id, v, h => by
  simp only [YtppnccjeggnllaaGreatVm.purge, Rep] at h ⊢
  obtain ⟨b, cap, h1, h2⟩ := h
  split
  ·simp [Rep]
  ·rename_i hne; simp only [Rep]; exact ⟨b, cap, hφ _ _ hne h1, h2⟩
theorem RepL.purge {c c' : Ctx} {w w' : World} {k : List Nat} (hI : zaT c c' w w') (hφ : zcU k c c') : ∀ (as : List AV) (vs : List Value), RepL c w as vs → RepL c' w' (zcB k as) vs
 | [], [], _ => by simp [zcB, RepL]
 | a :: as, v :: vs, h => by simp only [zcB, RepL] at h ⊢; exact ⟨Rep.purge hI hφ a v h.1, RepL.purge hI hφ as vs h.2⟩
 | [], _ :: _, h => by simp [RepL] at h
 | _ :: _, [], h => by simp [RepL] at h
end
end Go.Proofs.YtppnccjeggnllaaGreatVm

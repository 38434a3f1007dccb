import Derived.Test.YtppnccjeggnllaaGreatVmD
namespace Go.Proofs.YtppnccjeggnllaaGreatVm
open Go Go.RowKit
set_option linter.all false
section
variable {P : Program} {c : Ctx} {w : World} {nx : Nat} {o : Oper} {ρ : Operand → Value} {ev : Operand → Option AV} {H : Heap} {cond : Prop} {v : AV} {new : Option VObj}
theorem zhc {op : Op} (hm : zb9 c w op ev ρ) {x : Option Operand} (hx : ∀ y, x = some y → y ∈ op.operands.toList) {n : Option Int} (h : optI ev x = some n) :
  (n = none ∧ x.map ρ = none) ∨ ∃ k m, n = some m ∧ x.map ρ = some (.int k m) := by
 cases x with
 | none => simp only [optI] at h; obtain rfl := inj1 h; exact .inl ⟨rfl, rfl⟩
 | some y =>
  simp only [optI, Option.map_eq_some_iff] at h
  obtain ⟨m, h1, rfl⟩ := h
  obtain ⟨k, hk⟩ := zgX hm (hx y rfl) h1
  exact .inr ⟨k, m, rfl, by simp [hk]⟩
theorem zdf {k : IntKind} {i : Int} {y : Nat} {code : BoundsCode} (h0 : 0 ≤ i) (h1 : i ≤ y) : (Instr.sliceBound (.int k i) y code).run P w = .ok i.toNat w := by
 simp [Instr.sliceBound, asIntOf, h0, h1]
theorem zc0 (isS : Bool) (len cap : Nat) (lo hi mx : Option Value) (l h m : Option Int)
  (hl : (l = none ∧ lo = none) ∨ ∃ k n, l = some n ∧ lo = some (.int k n)) (hh : (h = none ∧ hi = none) ∨ ∃ k n, h = some n ∧ hi = some (.int k n))
  (hm : (m = none ∧ mx = none) ∨ ∃ k n, m = some n ∧ mx = some (.int k n))
  (h1 : 0 ≤ l.getD 0) (h2 : l.getD 0 ≤ h.getD len) (h3 : h.getD len ≤ m.getD cap) (h4 : m.getD cap ≤ cap) (h5 : m = none ∨ h ≠ none) :
  (Instr.sliceBounds isS len cap lo hi mx).run P w = .ok ((l.getD 0).toNat, (h.getD len).toNat, (m.getD cap).toNat) w := by
 unfold Instr.sliceBounds
 rcases hm with ⟨rfl, rfl⟩ | ⟨k3, m, rfl, rfl⟩
 ·rcases hh with ⟨rfl, rfl⟩ | ⟨k2, h, rfl, rfl⟩
  ·rcases hl with ⟨rfl, rfl⟩ | ⟨k1, l, rfl, rfl⟩
   ·simp
   ·simp only [Option.getD_some, Option.getD_none] at *
    simp only [Sem.run_bind, Sem.run_pure, Result.andThen_ok, zdf h1 h2]; simp
  ·simp only [Option.getD_some, Option.getD_none] at *
   rcases hl with ⟨rfl, rfl⟩ | ⟨k1, l, rfl, rfl⟩
   ·simp only [Option.getD_none] at *
    simp only [Sem.run_bind, Sem.run_pure, Result.andThen_ok, zdf h2 h3]; simp
   ·simp only [Option.getD_some] at *
    have h6 : 0 ≤ h := by omega
    simp only [Sem.run_bind, Sem.run_pure, Result.andThen_ok, zdf h6 h3, zdf (y := h.toNat) h1 (by omega)]; try simp
 ·rcases hh with ⟨rfl, rfl⟩ | ⟨k2, h, rfl, rfl⟩
  ·simp at h5
  ·simp only [Option.getD_some] at *
   rcases hl with ⟨rfl, rfl⟩ | ⟨k1, l, rfl, rfl⟩
   ·simp only [Option.getD_none] at *
    have h6 : 0 ≤ m := by omega
    simp only [Sem.run_bind, Sem.run_pure, Result.andThen_ok, zdf h6 h4, zdf (y := m.toNat) h2 (by omega)]; simp
   ·simp only [Option.getD_some] at *
    have h6 : 0 ≤ m := by omega
    have h7 : 0 ≤ h := by omega
    simp only [Sem.run_bind, Sem.run_pure, Result.andThen_ok, zdf h6 h4, zdf (y := m.toNat) h7 (by omega), zdf (y := h.toNat) h1 (by omega)]; try simp
theorem zm7 {t : TypeId} {x : Operand} {lo hi mx : Option Operand} {a : AV} {l h m : Option Int} (ho : o.op = .slice t x lo hi mx) (hm : zb9 c w o.op ev ρ) (hx : ev x = some a)
  (hl : optI ev lo = some l) (hh : optI ev hi = some h) (hmx : optI ev mx = some m) (hs : zjX P t a l h m = some (cond, v)) (hc : cond) : zaC P c w nx o ρ v none := by
 have hr := hm x (by simp [ho, Op.operands]) _ hx
 have rl := zhc hm (x := lo) (fun y hy => by subst hy; simp [ho, Op.operands]) hl
 have rh := zhc hm (x := hi) (fun y hy => by subst hy; simp [ho, Op.operands]) hh
 have rm := zhc hm (x := mx) (fun y hy => by subst hy; simp [ho, Op.operands]) hmx
 have hexec : execOp ρ o = (do pure (.value (← Instr.sliceAt t (ρ x) (lo.map ρ) (hi.map ρ) (mx.map ρ))) : Sem Next) := by simp [execOp, ho]
 have fin : ∀ {u : Value}, (Instr.sliceAt t (ρ x) (lo.map ρ) (hi.map ρ) (mx.map ρ)).run P w = .ok u w → Rep c w v u → zaC P c w nx o ρ v none := fun h1 h2 => zP (by rw [hexec, Sem.run_bind, h1]; rfl) h2
 unfold zjX at hs
 split at hs
 ·rename_i s
  split at hs
  case isFalse => simp at hs
  rename_i ht
  obtain ⟨ht, hmn⟩ := ht
  subst hmn
  obtain ⟨rfl, rfl⟩ := z9 hs
  obtain ⟨h1, h2, h3⟩ := hc
  simp only [Rep, RepP] at hr
  have hu := zds ht
  have hb := zc0 (P := P) (w := w) false s.length s.length _ _ none l h none rl rh (.inl ⟨rfl, rfl⟩) h1 h2 (by simpa using h3) (by simp) (.inl rfl)
  have hmn : mx.map ρ = none := by rcases rm with ⟨_, h⟩ | ⟨_, _, h, _⟩; exact h; cases h
  refine fin (u := .string ((⟨s.toArray⟩ : ByteArray).extract (l.getD 0).toNat (h.getD s.length).toNat)) ?_ ?_
  ·rw [hr, hmn]
   simp only [Instr.sliceAt, Instr.slice, Sem.run_bind, run_underlying hu, Result.andThen_ok]
   have hsz : (⟨s.toArray⟩ : ByteArray).size = s.length := by simp [ByteArray.size]
   simp only [hsz, hb, Option.isSome_none, Bool.false_eq_true, if_false, Sem.run_pure, Result.andThen_ok, Sem.run_bind]
  ·simp only [Rep, RepP, Value.string.injEq]
   apply ByteArray.ext
   simp only [ByteArray.data_extract, ← Array.toList_inj, Array.toList_extract, List.extract_eq_take_drop]
 ·rename_i n full cs
  split at hs
  case h_2 => simp at hs
  rename_i e he
  split at hs
  case h_2 => simp at hs
  rename_i sz hsz
  have hu := z7 he
  simp only [Rep, RepP] at hr
  obtain ⟨ad, cap, hv, hnc, hcm, hfull, h4⟩ := hr
  have addrs : ∀ {k m : Nat}, (cs.drop (k * sz)).take m = [] ∨ ∃ b off, (if True then ad.map (·.add (k * sz)) else ad) = some ⟨b, off, none⟩ ∧ c.I b ∧ z4 c w b off ((cs.drop (k * sz)).take m) := by
   intro k m
   rcases h4 with ⟨_, rfl⟩ | ⟨b, off, rfl, hb, hcs⟩
   ·left; simp
   ·right
    exact ⟨b, off + k * sz, by simp [za9], hb, zde (zcG hcs)⟩
  split at hs
  ·obtain ⟨rfl, rfl⟩ := z9 hs
   obtain ⟨h1, h2, h3⟩ := hc
   have hmn : mx.map ρ = none := by rcases rm with ⟨_, h⟩ | ⟨_, _, h, _⟩; exact h; cases h
   have hb := zc0 (P := P) (w := w) true n cap _ _ none l h none rl rh (.inl ⟨rfl, rfl⟩) h1 h2 (by simp; omega) (by simp) (.inl rfl)
   refine fin (u := .slice (if cap = (l.getD 0).toNat then ad else ad.map (·.add ((l.getD 0).toNat * sz))) ((h.getD n).toNat - (l.getD 0).toNat) (cap - (l.getD 0).toNat)) ?_ ?_
   ·rw [hv, hmn]
    simp only [Instr.sliceAt, Instr.slice, Sem.run_bind, run_underlying hu, Result.andThen_ok, hb, zaY hsz, Sem.run_pure]
    simp
   ·simp only [Rep, RepP]
    refine ⟨_, _, rfl, by omega, by omega, fun hf => ?_, ?_⟩
    ·simp at hf
     have := hfull hf.1
     omega
    ·by_cases hz : (h.getD n).toNat - (l.getD 0).toNat = 0
     ·left; exact ⟨hz, by rw [hz]; simp⟩
     ·have hne : cap ≠ (l.getD 0).toNat := by omega
      rw [if_neg hne]
      rcases h4 with ⟨h5, _⟩ | ⟨b, off, rfl, hb, hcs⟩
      ·omega
      ·right
       exact ⟨b, off + (l.getD 0).toNat * sz, by simp [za9], hb, zde (zcG hcs)⟩
  ·rename_i m'
   obtain ⟨rfl, rfl⟩ := z9 hs
   obtain ⟨h1, h2, h3, h6, h7⟩ := hc
   have hb := zc0 (P := P) (w := w) true n cap _ _ _ l h (some m') rl rh rm h1 h2 (by simpa using h3) (by simp; omega) (.inr h7)
   refine fin (u := .slice (if m'.toNat = (l.getD 0).toNat then ad else ad.map (·.add ((l.getD 0).toNat * sz))) ((h.getD n).toNat - (l.getD 0).toNat) (m'.toNat - (l.getD 0).toNat)) ?_ ?_
   ·rw [hv]
    simp only [Instr.sliceAt, Instr.slice, Sem.run_bind, run_underlying hu, Result.andThen_ok, hb, zaY hsz, Sem.run_pure]
    simp
   ·simp only [Rep, RepP]
    refine ⟨_, _, rfl, by omega, by omega, fun hf => ?_, ?_⟩
    ·simp at hf
     omega
    ·by_cases hz : (h.getD n).toNat - (l.getD 0).toNat = 0
     ·left; exact ⟨hz, by rw [hz]; simp⟩
     ·have hne : m'.toNat ≠ (l.getD 0).toNat := by omega
      rw [if_neg hne]
      rcases h4 with ⟨h5, _⟩ | ⟨b, off, rfl, hb, hcs⟩
      ·omega
      ·right
       exact ⟨b, off + (l.getD 0).toNat * sz, by simp [za9], hb, zde (zcG hcs)⟩
 ·rename_i id sz off n
  split at hs
  case h_2 => simp at hs
  rename_i e he
  split at hs
  case isFalse => simp at hs
  rename_i hsz
  obtain ⟨hsz, hmn⟩ := hsz
  subst hmn
  have hu := z7 he
  obtain ⟨rfl, rfl⟩ := z9 hs
  obtain ⟨h1, h2, h3⟩ := hc
  have hmn : mx.map ρ = none := by rcases rm with ⟨_, h⟩ | ⟨_, _, h, _⟩; exact h; cases h
  simp only [Rep] at hr
  rcases hr with ⟨hφ, rfl, rfl, ad, hv⟩ | ⟨b, cap, ad, hφ, hv, h5, h6, h7⟩
  ·have hb := zc0 (P := P) (w := w) true 0 0 _ _ none l h none rl rh (.inl ⟨rfl, rfl⟩) h1 h2 (by simpa using h3) (by simp) (.inl rfl)
   have e1 : (l.getD 0).toNat = 0 := by omega
   have e2 : (h.getD ((0 : Nat) : Int)).toNat = 0 := by omega
   refine fin (u := .slice ad 0 0) ?_ ?_
   ·rw [hv, hmn]
    simp only [Instr.sliceAt, Instr.slice, Sem.run_bind, run_underlying hu, Result.andThen_ok, hb, zaY hsz, Sem.run_pure, e1, e2]
    simp
   ·rw [e1, e2]
    simp only [Rep]
    exact .inl ⟨hφ, by simp, by simp, _, rfl⟩
  ·have hb := zc0 (P := P) (w := w) true n (cap - off) _ _ none l h none rl rh (.inl ⟨rfl, rfl⟩) h1 h2 (by simp; omega) (by simp) (.inl rfl)
   refine fin (u := .slice (if cap - off = (l.getD 0).toNat then ad else ad.map (·.add ((l.getD 0).toNat * sz))) ((h.getD n).toNat - (l.getD 0).toNat) (cap - off - (l.getD 0).toNat)) ?_ ?_
   ·rw [hv, hmn]
    simp only [Instr.sliceAt, Instr.slice, Sem.run_bind, run_underlying hu, Result.andThen_ok, hb, zaY hsz, Sem.run_pure]
    simp
   ·simp only [Rep]
    refine .inr ⟨b, cap, _, hφ, by rw [Nat.sub_sub], by omega, h6, ?_⟩
    by_cases hz : cap - off = (l.getD 0).toNat
    ·right; omega
    ·rw [if_neg hz]
     rcases h7 with rfl | h7
     ·left; simp [za9, Nat.add_mul]
     ·omega
 ·rename_i id off
  split at hs
  case h_2 => simp at hs
  rename_i n e he
  split at hs
  case h_2 => simp at hs
  rename_i sz hsz
  split at hs
  case isFalse => simp at hs
  rename_i hmn
  subst hmn
  have hu := zeT he
  obtain ⟨rfl, rfl⟩ := z9 hs
  obtain ⟨h1, h2, h3, h4⟩ := hc
  have hmn : mx.map ρ = none := by rcases rm with ⟨_, h⟩ | ⟨_, _, h, _⟩; exact h; cases h
  simp only [Rep] at hr
  obtain ⟨b, cap, hφ, hv⟩ := hr
  have hb := zc0 (P := P) (w := w) false n n _ _ none l h none rl rh (.inl ⟨rfl, rfl⟩) h1 h2 (by simpa using h3) (by simp) (.inl rfl)
  refine fin (u := .slice (some (if n = (l.getD 0).toNat then ⟨b, off, none⟩ else (⟨b, off, none⟩ : Addr).add ((l.getD 0).toNat * sz))) ((h.getD n).toNat - (l.getD 0).toNat) (n - (l.getD 0).toNat)) ?_ ?_
  ·rw [hv, hmn]
   simp only [Instr.sliceAt, Sem.run_bind, run_underlying hu, Result.andThen_ok, Instr.sureAddr, hb, zaY hsz, Sem.run_pure]
   simp
  ·simp only [Rep]
   refine ⟨b, cap, _, _, hφ, rfl, by omega, by omega, ?_⟩
   by_cases hz : n = (l.getD 0).toNat
   ·right; omega
   ·rw [if_neg hz, za9]; left; rfl
 ·simp at hs
theorem zos : ∀ {as : List AV} {vs : List Value} {i : Nat} {a : AV} {v : Value}, RepL c w as vs → Rep c w a v → RepL c w (as.set i a) (vs.set i v)
 | [], [], _, _, _, _, _ => by simp [RepL]
 | x :: as, y :: vs, 0, a, v, h, h2 => by simp only [RepL, List.set_cons_zero] at h ⊢; exact ⟨h2, h.2⟩
 | x :: as, y :: vs, i + 1, a, v, h, h2 => by simp only [RepL, List.set_cons_succ] at h ⊢; exact ⟨h.1, zos h.2 h2⟩
 | [], _ :: _, _, _, _, h, _ => by simp [RepL] at h
 | _ :: _, [], _, _, _, h, _ => by simp [RepL] at h
def zfo : List Value → Nat → List Value → List Value
 | cs, _, [] => cs
 | cs, i, v :: vs => zfo (cs.set i v) (i + 1) vs
theorem zbb : ∀ (vs cs : List Value) (i : Nat), (zfo cs i vs).length = cs.length
 | [], _, _ => rfl
 | v :: vs, cs, i => by simp [zfo, zbb vs]
theorem zeI : ∀ {xs : List AV} {us : List Value} {as : List AV} {vs : List Value} {i : Nat}, RepL c w as vs → RepL c w xs us → RepL c w (zat as i xs) (zfo vs i us)
 | [], [], _, _, _, h, _ => h
 | x :: xs, u :: us, as, vs, i, h, h2 => by
  simp only [RepL] at h2
  simp only [zat, zfo]
  exact zeI (zos h h2.1) h2.2
 | [], _ :: _, _, _, _, _, h => by simp [RepL] at h
 | _ :: _, [], _, _, _, _, h => by simp [RepL] at h
theorem zix (off : Nat) : ∀ (us : List Value) (k : Nat) (cs : Array Value), ((us.zipIdx k).foldl (fun cs (x : Value × Nat) => cs.setIfInBounds (off + x.2) x.1) cs).toList = zfo cs.toList (off + k) us
 | [], _, _ => rfl
 | u :: us, k, cs => by
  simp only [List.zipIdx_cons, List.foldl_cons, zfo]
  rw [zix off us (k + 1)]
  rw [Array.toList_setIfInBounds, Nat.add_assoc]
theorem zgB (place : Nat → Option (Nat × Nat)) : ∀ (ps : List (Nat × AV)) (qs : List (Nat × Value)) (as : List AV) (arr : Array Value) (bs : List AV),
  RepL c w as arr.toList → ps.map (·.1) = qs.map (·.1) → RepL c w (ps.map (·.2)) (qs.map (·.2)) → zeZ place as ps = some bs →
  ∃ out, Instr.fill place arr qs = some out ∧ RepL c w bs out.toList
 | [], [], as, arr, bs, h, _, _, hf => by simp only [zeZ] at hf; obtain rfl := inj1 hf; exact ⟨arr, rfl, h⟩
 | (i, a) :: ps, (j, v) :: qs, as, arr, bs, h, hi, hr, hf => by
  simp only [List.map_cons, List.cons.injEq] at hi
  obtain ⟨rfl, hi⟩ := hi
  simp only [List.map_cons, RepL] at hr
  simp only [zeZ] at hf
  split at hf
  case h_2 => simp at hf
  rename_i off s hp
  split at hf
  case isFalse => simp at hf
  rename_i hc
  obtain ⟨h1, h2, h3⟩ := hc
  have hcells := zfD h1 hr.1
  have hl1 := zW hcells
  have hl2 := zW h
  simp only [Array.length_toList] at hl1 hl2
  simp only [Instr.fill, hp]
  rw [if_neg (by simp; omega)]
  refine zgB place ps qs _ _ bs ?_ hi hr.2 hf
  rw [← Array.foldl_toList, Array.toList_zipIdx, zix off v.cells.toList 0 arr, Nat.add_zero]
  exact zeI h hcells
 | [], _ :: _, _, _, _, _, hi, _, _ => by simp at hi
 | _ :: _, [], _, _, _, _, hi, _, _ => by simp at hi
theorem zfg : ∀ {xs : List (Nat × Operand)} {as : List (Nat × AV)}, (∀ x ∈ xs.map (·.2), ∀ v, ev x = some v → Rep c w v (ρ x)) → zbY ev xs = some as →
  as.map (·.1) = (xs.map fun (i, x) => (i, ρ x)).map (·.1) ∧ RepL c w (as.map (·.2)) ((xs.map fun (i, x) => (i, ρ x)).map (·.2))
 | [], as, _, h => by simp only [zbY] at h; obtain rfl := inj1 h; simp [RepL]
 | (i, x) :: xs, as, hm, h => by
  simp only [zbY] at h
  split at h
  case h_2 => simp at h
  rename_i a bs h1 h2
  obtain rfl := inj1 h
  have := zfg (xs := xs) (fun y hy => hm y (by simp only [List.map_cons, List.mem_cons]; exact .inr hy)) h2
  simp only [List.map_cons, RepL, List.cons.injEq, true_and]
  exact ⟨this.1, hm x (by simp) a h1, this.2⟩
theorem zjy (fs : Array Field) (h : ∀ f ∈ fs.toList, ∃ s, tsz P f.type = some s) :
  (fs.mapM (m := Sem) fun f => do pure (f.offset, ← sizeOf f.type)).run P w = .ok (fs.map fun f => (f.offset, (tsz P f.type).getD 0)) w := by
 rw [Array.mapM_eq_mapM_toList]
 simp only [Sem.run_map]
 have : ∀ l : List Field, (∀ f ∈ l, ∃ s, tsz P f.type = some s) → (l.mapM (m := Sem) fun f => do pure (f.offset, ← sizeOf f.type)).run P w = .ok (l.map fun f => (f.offset, (tsz P f.type).getD 0)) w := by
  intro l
  induction l with
  | nil => intro _; rfl
  | cons f l ih =>
   intro h
   obtain ⟨s, hs⟩ := h f (by simp)
   simp only [List.mapM_cons, Sem.run_bind, zaY hs, Result.andThen_ok, Sem.run_pure, ih (fun g hg => h g (by simp [hg])), List.map_cons, hs, Option.getD_some]
 rw [this _ h]
 simp [← Array.toList_inj]
theorem znd {t : TypeId} {parts : Array (Nat × Operand)} {ps : List (Nat × AV)} (ho : o.op = .build t parts) (hm : zb9 c w o.op ev ρ) (hp : zbY ev parts.toList = some ps) (hz : zlM P t = true)
  (h : znM P t ps = some v) : zaC P c w nx o ρ v none := by
 obtain ⟨hi, hr⟩ := zfg (ρ := ρ) (xs := parts.toList) (fun x hx v hv => hm x (by simp [ho, Op.operands]; simpa using hx) v hv) hp
 have hexec : execOp ρ o = (do pure (.value (← Instr.build t (parts.map fun (i, x) => (i, ρ x)))) : Sem Next) := by simp [execOp, ho]
 have fin : ∀ {u : Value}, (Instr.build t (parts.map fun (i, x) => (i, ρ x))).run P w = .ok u w → Rep c w v u → zaC P c w nx o ρ v none := fun h1 h2 => zP (by rw [hexec, Sem.run_bind, h1]; rfl) h2
 unfold znM at h
 split at h
 ·rename_i zs fs hzs hu
  simp only [Option.map_eq_some_iff] at h
  obtain ⟨bs, hf, rfl⟩ := h
  obtain ⟨z, hz1, hz2⟩ := zgJ hzs c w
  have hsz : ∀ f ∈ fs.toList, ∃ s, tsz P f.type = some s := by
   intro f hf
   unfold zlM at hz
   rw [hu] at hz
   simp only [List.all_eq_true] at hz
   exact Option.isSome_iff_exists.1 (hz f hf)
  have hplace : (fun i => (fs.map fun f => (f.offset, (tsz P f.type).getD 0))[i]?) = places P fs := by
   funext i
   unfold places
   simp only [Array.getElem?_map]
   cases hfi : fs[i]? with
   | none => rfl
   | some f =>
    obtain ⟨s, hs⟩ := hsz f (by simpa using Array.mem_of_getElem? hfi)
    simp [hs]
  obtain ⟨out, h1, h2⟩ := zgB (places P fs) ps (parts.toList.map fun (i, x) => (i, ρ x)) _ z.cells bs hz2 hi hr hf
  refine fin (u := .agg out) ?_ ⟨_, rfl, h2⟩
  simp only [Instr.build, Sem.run_bind, hz1, Result.andThen_ok, Sem.run_pure, run_underlying hu, zjy fs hsz]
  rw [show (fun x => (fs.map fun f => (f.offset, (tsz P f.type).getD 0))[x]?) = places P fs from hplace]
  simp only [Array.toList_map]
  rw [h1]; rfl
 ·rename_i zs n e hzs hu
  split at h
  case h_2 => simp at h
  rename_i s hs
  simp only [Option.map_eq_some_iff] at h
  obtain ⟨bs, hf, rfl⟩ := h
  obtain ⟨z, hz1, hz2⟩ := zgJ hzs c w
  obtain ⟨out, h1, h2⟩ := zgB _ ps (parts.toList.map fun (i, x) => (i, ρ x)) _ z.cells bs hz2 hi hr hf
  refine fin (u := .agg out) ?_ ⟨_, rfl, h2⟩
  simp only [Instr.build, Sem.run_bind, hz1, Result.andThen_ok, Sem.run_pure, run_underlying hu, zaY hs]
  simp only [Array.toList_map]
  rw [h1]; rfl
 ·simp at h
theorem zfy : ∀ {vs : List Value} {ps : List PV}, zdB vs = some ps → vs.length = ps.length
 | [], ps, h => by simp [zdB] at h; subst h; rfl
 | v :: vs, ps, h => by
  simp only [zdB] at h
  split at h <;> simp at h
  rename_i p qs h1 h2
  subst h
  simp [zfy h2]
theorem zeG {t : TypeId} {zs : List PV} (h : zbZ P t = some zs) : ∃ i z, P.info? t = some i ∧ i.zero = some z ∧ z.cells.size = zs.length ∧ zdB z.cells.toList = some zs := by
 unfold zbZ at h
 cases hi : P.info? t with
 | none => simp [hi] at h
 | some i =>
  simp only [hi, Option.bind_some] at h
  cases hz : i.zero with
  | none => simp [hz] at h
  | some z =>
   simp only [hz, Option.bind_some] at h
   exact ⟨i, z, rfl, hz, by simpa using zfy h, h⟩
theorem zhh {zs : List PV} {z : Array Value} (hz : RepL c w (zs.map .pv) z.toList) : ∀ (n : Nat), RepL c w ((zaK zs n).map .pv) ((List.range (n * z.size)).map fun i => z[i % z.size]!)
 | 0 => by simp [zaK, RepL]
 | n + 1 => by
  have hlen : z.size = zs.length := by have := zW hz; simp at this; omega
  by_cases h0 : z.size = 0
  ·have h1 : zs = [] := List.eq_nil_of_length_eq_zero (by omega)
   have h2 : ∀ n, zaK zs n = [] := fun n => by induction n with
    | zero => rfl
    | succ n ih => simp only [zaK, ih]; rw [h1]; rfl
   rw [h2, h0]; simp [RepL]
  ·have e : (List.range ((n + 1) * z.size)).map (fun i => z[i % z.size]!) = z.toList ++ (List.range (n * z.size)).map (fun i => z[i % z.size]!) := by
    rw [Nat.add_mul, Nat.one_mul, Nat.add_comm (n * z.size), List.range_add, List.map_append, List.map_map]
    congr 1
    ·apply List.ext_getElem
     ·simp
     ·intro i h1 h2
      simp at h1
      simp [Nat.mod_eq_of_lt h1, h1]
    ·apply List.map_congr_left
     intro i _
     simp
   rw [e]
   simp only [zaK, List.map_append]
   exact zaF hz (zhh hz n)
end
end Go.Proofs.YtppnccjeggnllaaGreatVm

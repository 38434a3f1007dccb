import Derived.Test.YtppnccjeggnllaaGreatVmFd
namespace Go.Proofs.YtppnccjeggnllaaGreatVm
open Go Go.RowKit
set_option linter.all false
noncomputable section
abbrev RunT := FS → Option (Exit × FS)
def zrp (f : RunT) (n : Nat) : RunT := Nat.rec (motive := fun _ => RunT) (fun _ => none) (fun _ ih fs => match f fs with
 | some (e, fs1) => match e with
  | .normal => ih fs1
  | _ => some (e, fs1)
 | none => none) n
def zaB (P : Program) (call : zcN) (N : Nat) (x : Code) : RunT :=
 Code.rec (motive := fun _ => RunT)
  (fun fs => some (.normal, fs))
  (fun _ ops dr fs => match dr with
   | false => match opsF P call ops ops.toList fs with
    | some fs1 => some (.normal, fs1)
    | none => none
   | true => match zfa P call ops fs with
    | some fs1 => some (.normal, fs1)
    | none => none)
  (fun _ _ ix iy fs => match ix fs with
   | some (e, fs1) => match e with
    | .normal => iy fs1
    | _ => some (e, fs1)
   | none => none)
  (fun c _ _ ix iy fs => match fs.ev c with
   | some (.pv (.bool b)) => match b with
    | true => ix fs
    | false => iy fs
   | _ => none)
  (fun id _ ix fs => match ix fs with
   | some (e, fs1) => match e with
    | .exit id' => match Nat.beq id' id with
     | true => some (.normal, fs1)
     | false => some (.exit id', fs1)
    | _ => some (e, fs1)
   | none => none)
  (fun _ ix => zrp ix N)
  (fun _ _ _ _ _ _ _ => none)
  (fun id fs => some (.exit id, fs))
  (fun _ ix fs => match ix fs with
   | some (e, fs1) => match e with
    | .goto _ => none
    | _ => some (e, fs1)
   | none => none)
  (fun _ fs => some (.normal, fs))
  (fun _ _ => none)
  (fun fs => some (.ret, fs))
  (fun _ _ => none) x
section
variable {P : Program} {call : zcN} {l0 : Tri Nat} {n0 : Nat} {h0 : Tri (Nat × VObj)} {m0 : Nat}
theorem zkd {f : RunT} {n : Nat} {fs : FS} : zrp f (n + 1) fs = match f fs with
 | some (e, fs1) => match e with
  | .normal => zrp f n fs1
  | _ => some (e, fs1)
 | none => none := rfl
theorem zbT (hcall : zbQ P call) {N : Nat} : ∀ (x : Code) {Q : Exit → St → Prop} {fs fs' : FS} {S : St} {e : Exit}, FWf fs l0 n0 h0 m0 → FOk fs S → zaB P call N x fs = some (e, fs') → (∀ S', FWf fs' l0 n0 h0 m0 → FOk fs' S' → Q e S') → zaG P x Q S
 | .skip, Q, fs, fs', S, e, hw, hs, h, hQ => by obtain ⟨rfl, rfl⟩ := inj2 (show some (Exit.normal, fs) = _ from h); exact zt (hQ S hw hs)
 | .label _, Q, fs, fs', S, e, hw, hs, h, hQ => by obtain ⟨rfl, rfl⟩ := inj2 (show some (Exit.normal, fs) = _ from h); exact zg1 (hQ S hw hs)
 | .region _ ops dr, Q, fs, fs', S, e, hw, hs, h, hQ => by
  cases dr with
  | false =>
   have h' : (match opsF P call ops ops.toList fs with
    | some fs1 => some (Exit.normal, fs1)
    | none => none) = some (e, fs') := h
   split at h'
   case h_2 => cases h'
   rename_i fs1 h1
   obtain ⟨rfl, rfl⟩ := inj2 h'
   exact ze7 rfl (zlc hcall hw hs h1 hQ)
  | true =>
   have h' : (match zfa P call ops fs with
    | some fs1 => some (Exit.normal, fs1)
    | none => none) = some (e, fs') := h
   split at h'
   case h_2 => cases h'
   rename_i fs1 h1
   obtain ⟨rfl, rfl⟩ := inj2 h'
   exact zmV hcall hw hs h1 hQ
 | .seq x y, Q, fs, fs', S, e, hw, hs, h, hQ => by
  have h' : (match zaB P call N x fs with
   | some (e, fs1) => match e with
    | .normal => zaB P call N y fs1
    | _ => some (e, fs1)
   | none => none) = some (e, fs') := h
  split at h'
  case h_2 => cases h'
  rename_i e1 fs1 h1
  refine zm (zbT hcall x hw hs h1 (fun S' w' s' => ?_))
  split at h'
  ·exact zu (zbT hcall y w' s' h' hQ)
  ·rename_i hne
   obtain ⟨rfl, rfl⟩ := inj2 h'
   unfold seqK
   cases e1 with
   | normal => exact absurd rfl hne
   | _ => exact hQ S' w' s'
 | .cond c x y, Q, fs, fs', S, e, hw, hs, h, hQ => by
  have h' : (match fs.ev c with
   | some (.pv (.bool b)) => match b with
    | true => zaB P call N x fs
    | false => zaB P call N y fs
   | _ => none) = some (e, fs') := h
  rw [evF hs] at h'
  split at h'
  case h_2 => cases h'
  rename_i b hc
  cases b with
  | true => exact zK hc (zbT hcall x hw hs h' hQ)
  | false => exact zda hc (zbT hcall y hw hs h' hQ)
 | .block id x, Q, fs, fs', S, e, hw, hs, h, hQ => by
  have h' : (match zaB P call N x fs with
   | some (e, fs1) => match e with
    | .exit id' => match Nat.beq id' id with
     | true => some (.normal, fs1)
     | false => some (.exit id', fs1)
    | _ => some (e, fs1)
   | none => none) = some (e, fs') := h
  split at h'
  case h_2 => cases h'
  rename_i e1 fs1 h1
  refine zw (zbT hcall x hw hs h1 (fun S' w' s' => ?_))
  unfold blkK
  split at h'
  ·rename_i id'
   split at h'
   ·rename_i hb
    obtain ⟨rfl, rfl⟩ := inj2 h'
    simp only
    rw [if_pos (Nat.eq_of_beq_eq_true hb)]
    exact hQ S' w' s'
   ·rename_i hb
    obtain ⟨rfl, rfl⟩ := inj2 h'
    simp only
    rw [if_neg (fun he => by subst he; rw [Nat.beq_refl] at hb; cases hb)]
    exact hQ S' w' s'
  ·rename_i hne
   obtain ⟨rfl, rfl⟩ := inj2 h'
   cases e1 with
   | exit id' => exact absurd rfl (hne id')
   | _ => exact hQ S' w' s'
 | .loop x, Q, fs, fs', S, e, hw, hs, h, hQ => by
  refine z1 (fun p : Nat × St => p.2) (fun p => ∃ g, zrp (zaB P call N x) p.1 g = some (e, fs') ∧ FWf g l0 n0 h0 m0 ∧ FOk g p.2) (fun p => p.1) (N, S) ⟨fs, h, hw, hs⟩ (fun B c w a hs => ⟨c, hs⟩) (fun p hp => ?_)
  obtain ⟨n, S1⟩ := p
  obtain ⟨g, hg, gw, gs⟩ := hp
  simp only at hg gs ⊢
  cases n with
  | zero => cases hg
  | succ n =>
   rw [zkd] at hg
   split at hg
   case h_2 => cases hg
   rename_i e1 g1 h1
   refine zbT hcall x gw gs h1 (fun S' w' s' => ?_)
   split at hg
   ·exact zQ (n, S') ⟨g1, hg, w', s'⟩ (Nat.lt_succ_self n) (fun B c w a hs => ⟨c, hs⟩)
   ·rename_i hne
    obtain ⟨rfl, rfl⟩ := inj2 hg
    unfold lupK
    cases e1 with
    | normal => exact absurd rfl hne
    | _ => exact hQ S' w' s'
 | .scope x, Q, fs, fs', S, e, hw, hs, h, hQ => by
  have h' : (match zaB P call N x fs with
   | some (e, fs1) => match e with
    | .goto _ => none
    | _ => some (e, fs1)
   | none => none) = some (e, fs') := h
  split at h'
  case h_2 => cases h'
  rename_i e1 fs1 h1
  refine zgN (zbT hcall x hw hs h1 (fun S' w' s' => ?_))
  unfold scpK
  split at h'
  ·cases h'
  ·rename_i hne
   obtain ⟨rfl, rfl⟩ := inj2 h'
   cases e1 with
   | goto l => exact absurd rfl (hne l)
   | _ => exact hQ S' w' s'
 | .exit id, Q, fs, fs', S, e, hw, hs, h, hQ => by obtain ⟨rfl, rfl⟩ := inj2 (show some (Exit.exit id, fs) = _ from h); exact zS (hQ S hw hs)
 | .ret, Q, fs, fs', S, e, hw, hs, h, hQ => by obtain ⟨rfl, rfl⟩ := inj2 (show some (Exit.ret, fs) = _ from h); exact zl (hQ S hw hs)
 | .rangeFunc _ _ _ _, _, _, _, _, _, _, _, h, _ => by cases (show (none : Option (Exit × FS)) = _ from h)
 | .goto _, _, _, _, _, _, _, _, h, _ => by cases (show (none : Option (Exit × FS)) = _ from h)
 | .refuse _, _, _, _, _, _, _, _, h, _ => by cases (show (none : Option (Exit × FS)) = _ from h)
end
section
variable {P : Program} {call : zcN} {l0 : Tri Nat} {n0 : Nat} {h0 : Tri (Nat × VObj)} {m0 : Nat} {ops : Array Oper}
theorem zpl {fs fs' : FS} {o : Oper} (hn : zbc l0 n0 h0 m0 fs) (h : zpr P o fs = some fs') : zbc l0 n0 h0 m0 fs' := by
 obtain ⟨hw, S, hs⟩ := hn
 obtain ⟨dst, op, type, pos, after, guard⟩ := o
 unfold zpr at h
 simp only at h
 split at h
 case h_2 => cases h
 split at h
 case h_2 => cases h
 split at h
 case h_2 => cases h
 split at h
 case h_2 => cases h
 split at h
 case h_2 => cases h
 split at h
 case h_2 => cases h
 obtain ⟨h1, h2⟩ := zhD hw hs h
 exact ⟨h1, _, h2⟩
theorem zgM (hcall : zbQ P call) : ∀ {l : List Oper} {fs fs' : FS}, zbc l0 n0 h0 m0 fs → opsF P call ops l fs = some fs' → zbc l0 n0 h0 m0 fs'
 | [], fs, fs', hn, h => by obtain rfl := inj1 (show some fs = some fs' from h); exact hn
 | o :: r, fs, fs', hn, h => by
  have h' : (match zpt P o fs with
   | some fs1 => opsF P call ops r fs1
   | none => match opF P call ops o fs with
    | some fs1 => opsF P call ops r fs1
    | none => none) = some fs' := h
  split at h'
  ·rename_i fs1 h1
   exact zgM hcall (zpl hn (zkE h1)) h'
  ·split at h'
   case h_2 => cases h'
   rename_i fs1 h1
   exact zgM hcall (znF hcall hn h1) h'
theorem zhZ (hcall : zbQ P call) {fs' : FS} : ∀ {n : Nat} {l : List zfE}, zfu P call ops n l = some fs' → (∀ y ∈ l, zbc l0 n0 h0 m0 y.2) → zbc l0 n0 h0 m0 fs'
 | 0, l, h, hl => by
  unfold zfu at h
  split at h
  ·split at h
   ·obtain rfl := inj1 h
    exact hl _ (by simp)
   ·cases h
  ·cases h
  ·contradiction
 | n + 1, l, h, hl => by
  simp only [zfu] at h
  split at h
  case h_2 => cases h
  rename_i l' hl'
  obtain ⟨_, _, h9⟩ := ziG hcall hl' hl (fun y hy => by cases hy)
  exact zhZ hcall h h9
theorem zkv (hcall : zbQ P call) {fs fs' : FS} (hn : zbc l0 n0 h0 m0 fs) (h : zfa P call ops fs = some fs') : zbc l0 n0 h0 m0 fs' := by
 unfold zfa at h
 split at h
 case h_2 => cases h
 split at h
 ·rename_i g hg
  obtain rfl := inj1 h
  exact ((zoh hcall hg) hn).1
 ·exact zhZ hcall h (fun y hy => by rw [List.mem_singleton.1 hy]; exact hn)
theorem zbv (hcall : zbQ P call) {N : Nat} : ∀ (x : Code) {fs fs' : FS} {e : Exit}, zbc l0 n0 h0 m0 fs → zaB P call N x fs = some (e, fs') → zbc l0 n0 h0 m0 fs'
 | .skip, fs, fs', e, hn, h => by obtain ⟨rfl, rfl⟩ := inj2 (show some (Exit.normal, fs) = _ from h); exact hn
 | .label _, fs, fs', e, hn, h => by obtain ⟨rfl, rfl⟩ := inj2 (show some (Exit.normal, fs) = _ from h); exact hn
 | .region _ ops dr, fs, fs', e, hn, h => by
  cases dr with
  | false =>
   have h' : (match opsF P call ops ops.toList fs with
    | some fs1 => some (Exit.normal, fs1)
    | none => none) = some (e, fs') := h
   split at h'
   case h_2 => cases h'
   rename_i fs1 h1
   obtain ⟨rfl, rfl⟩ := inj2 h'
   exact zgM hcall hn h1
  | true =>
   have h' : (match zfa P call ops fs with
    | some fs1 => some (Exit.normal, fs1)
    | none => none) = some (e, fs') := h
   split at h'
   case h_2 => cases h'
   rename_i fs1 h1
   obtain ⟨rfl, rfl⟩ := inj2 h'
   exact zkv hcall hn h1
 | .seq x y, fs, fs', e, hn, h => by
  have h' : (match zaB P call N x fs with
   | some (e, fs1) => match e with
    | .normal => zaB P call N y fs1
    | _ => some (e, fs1)
   | none => none) = some (e, fs') := h
  split at h'
  case h_2 => cases h'
  rename_i e1 fs1 h1
  have h2 := zbv hcall x hn h1
  split at h'
  ·exact zbv hcall y h2 h'
  ·obtain ⟨rfl, rfl⟩ := inj2 h'; exact h2
 | .cond c x y, fs, fs', e, hn, h => by
  have h' : (match fs.ev c with
   | some (.pv (.bool b)) => match b with
    | true => zaB P call N x fs
    | false => zaB P call N y fs
   | _ => none) = some (e, fs') := h
  split at h'
  case h_2 => cases h'
  rename_i b hc
  cases b with
  | true => exact zbv hcall x hn h'
  | false => exact zbv hcall y hn h'
 | .block id x, fs, fs', e, hn, h => by
  have h' : (match zaB P call N x fs with
   | some (e, fs1) => match e with
    | .exit id' => match Nat.beq id' id with
     | true => some (.normal, fs1)
     | false => some (.exit id', fs1)
    | _ => some (e, fs1)
   | none => none) = some (e, fs') := h
  split at h'
  case h_2 => cases h'
  rename_i e1 fs1 h1
  have h2 := zbv hcall x hn h1
  split at h'
  ·split at h'
   ·obtain ⟨rfl, rfl⟩ := inj2 h'; exact h2
   ·obtain ⟨rfl, rfl⟩ := inj2 h'; exact h2
  ·obtain ⟨rfl, rfl⟩ := inj2 h'; exact h2
 | .loop x, fs, fs', e, hn, h => by
  have key : ∀ (n : Nat) {g : FS}, zbc l0 n0 h0 m0 g → zrp (zaB P call N x) n g = some (e, fs') → zbc l0 n0 h0 m0 fs' := by
   intro n
   induction n with
   | zero => intro g hg h; cases h
   | succ n ih =>
    intro g hg h
    rw [zkd] at h
    split at h
    case h_2 => cases h
    rename_i e1 g1 h1
    have h2 := zbv hcall x hg h1
    split at h
    ·exact ih h2 h
    ·obtain ⟨rfl, rfl⟩ := inj2 h; exact h2
  exact key N hn h
 | .scope x, fs, fs', e, hn, h => by
  have h' : (match zaB P call N x fs with
   | some (e, fs1) => match e with
    | .goto _ => none
    | _ => some (e, fs1)
   | none => none) = some (e, fs') := h
  split at h'
  case h_2 => cases h'
  rename_i e1 fs1 h1
  have h2 := zbv hcall x hn h1
  split at h'
  ·cases h'
  ·obtain ⟨rfl, rfl⟩ := inj2 h'; exact h2
 | .exit id, fs, fs', e, hn, h => by obtain ⟨rfl, rfl⟩ := inj2 (show some (Exit.exit id, fs) = _ from h); exact hn
 | .ret, fs, fs', e, hn, h => by obtain ⟨rfl, rfl⟩ := inj2 (show some (Exit.ret, fs) = _ from h); exact hn
 | .rangeFunc _ _ _ _, _, _, _, _, h => by cases (show (none : Option (Exit × FS)) = _ from h)
 | .goto _, _, _, _, _, h => by cases (show (none : Option (Exit × FS)) = _ from h)
 | .refuse _, _, _, _, _, h => by cases (show (none : Option (Exit × FS)) = _ from h)
end
def zsN (now : Nat) : List AV → Nat → Tri (Nat × AV) → Option (Tri (Nat × AV))
 | [], _, T => some T
 | a :: as, k, T => match Nat.blt k 65535 with
  | true => zsN now as (Nat.succ k) (Tri.put (now, a) 16 T (Nat.succ k))
  | false => none
def zoc (A : List AV) (nt : Nat) (fs : FS) : Option FS := match zsN fs.now A 0 .lf with
 | some T => some { T := T, H := fs.H, nx := fs.nx, last := fs.last, now := fs.now, mv := [], c := (A.length + (nt - A.length), fs.nx), wr := 65535 }
 | none => none
def zs1 (P : Program) (fs : FS) : ResultVar → Option AV
 | .tmp t => fs.tg t
 | .cell a t => match fs.tg a with
  | some (.ptr id off) => match fs.hg id with
   | some (.box cs) => match zeR P t cs.length off, zdn P t cs off with
    | true, some (_, v) => some v
    | _, _ => none
   | _ => none
  | _ => none
def ztS (P : Program) (fs : FS) (l : List ResultVar) : Option (List AV) :=
 List.rec (motive := fun _ => Option (List AV)) (some []) (fun r _ ih => match zs1 P fs r with
  | some v => match ih with
   | some vs => some (v :: vs)
   | none => none
  | none => none) l
def ziz (P : Program) (fn : Func) (fs : FS) : Option (AV × FS) := match ztS P fs fn.results.toList with
 | some vs => match blwT fs.nx (zig vs) with
  | true => some (zig vs, fs)
  | false => none
 | none => none
def zql : AV → Option Nat
 | .pv (.slc n _ _) => some n
 | .ref _ _ _ n => some n
 | .view _ _ n => some n
 | _ => none
theorem zpv {c : Ctx} {w : World} {x : AV} {v : Value} {n : Nat} (hr : Rep c w x v) (h : zql x = some n) : ∃ a cap, v = .slice a n cap ∧ (a = none → n = 0) := by
 unfold zql at h
 split at h
 ·obtain rfl := inj1 h
  simp only [Rep, RepP] at hr
  obtain ⟨a, cap, h1, _, _, _, h2⟩ := hr
  refine ⟨a, cap, h1, fun e => ?_⟩
  rcases h2 with ⟨h3, _⟩ | ⟨b, off, h3, _⟩
  ·exact h3
  ·rw [e] at h3; cases h3
 ·obtain rfl := inj1 h
  simp only [Rep] at hr
  rcases hr with ⟨_, _, h1, a, h2⟩ | ⟨b, cap, a, _, h1, h2, _, h3⟩
  ·exact ⟨a, 0, by rw [h1]; exact h2, fun _ => h1⟩
  ·refine ⟨a, _, h1, fun e => ?_⟩
   rcases h3 with h3 | h3
   ·rw [e] at h3; cases h3
   ·omega
 ·obtain rfl := inj1 h
  simp only [Rep] at hr
  obtain ⟨b, cap, cp, a, _, h1, _, _, h3⟩ := hr
  refine ⟨a, cp, h1, fun e => ?_⟩
  rcases h3 with h3 | h3
  ·rw [e] at h3; cases h3
  ·exact h3
 ·cases h
def zq0 (P : Program) (fs : FS) (o : Oper) : Option (Tmp × Bool) := match o.op with
 | .binOp bo t x y _ => match bo with
  | .eql => match o.dst, o.guard with
   | some d, none => match zff y && tslc P t && Nat.blt d fs.nt with
    | true => match fs.ev x with
     | some v => match zql v with
      | some n => some (d, Nat.beq n 0)
      | none => none
     | none => none
    | false => none
   | _, _ => none
  | _ => none
 | _ => none
theorem zpZ {P : Program} {fs : FS} {S : St} {ops : Array Oper} {r : List Oper} {o : Oper} {d : Tmp} {z : Bool} {Q : St → Prop} (hs : FOk fs S) (h : zq0 P fs o = some (d, z)) (next : ∀ b, (b = true → z = true) → OpsS P ops r (S.applyR (some d) (.pv (.bool b)) none) Q) : OpsS P ops (o :: r) S Q := by
 obtain ⟨dst, op, type, pos, after, guard⟩ := o
 unfold zq0 at h
 simp only at h
 split at h
 case h_2 => cases h
 rename_i bo t x y yt
 split at h
 case h_2 => cases h
 split at h
 case h_2 => cases h
 rename_i d'
 split at h
 case h_2 => cases h
 rename_i hb
 simp only [Bool.and_eq_true] at hb
 split at h
 case h_2 => cases h
 rename_i v hx
 split at h
 case h_2 => cases h
 rename_i n hn
 simp only [Option.some.injEq, Prod.mk.injEq] at h
 obtain ⟨rfl, rfl⟩ := h
 rw [evF hs] at hx
 intro B c w a R hR hr
 have hy : y = .const (.slice none 0 0) := by
  have h0 := hb.1.1
  unfold zff at h0
  split at h0
  ·rfl
  ·simp at h0
 subst hy
 obtain ⟨e, hu⟩ := zeO hb.1.2
 obtain ⟨ad, cap, hv, h0⟩ := zpv (zcD hr hx) hn
 have hbit : ∃ b : Bool, (b = true → Nat.beq n 0 = true) ∧ zaC P c w S.nx { dst := some d', op := .binOp .eql t x (.const (.slice none 0 0)) yt, type := type, pos := pos, after := after, guard := none } a.eval (.pv (.bool b)) none := by
  have k1 : zl8 (Value.slice ad n cap) = true := by cases ad <;> rfl
  have k2 : zq8 (Value.slice ad n cap) = true := by cases ad <;> rfl
  have k3 := run_equal_slice_nil (P := P) w t e ad n cap hu
  have k4 := zcK (P := P) (w := w) .eql t x (.const (.slice none 0 0)) (.slice ad n cap) (.slice none 0 0) k1
  have k5 := (zim k3 k2).1
  refine ⟨ad.isNone, fun hb => ?_, zP (v' := .bool ad.isNone) ?_ (by simp [Rep, RepP])⟩
  ·cases ad with
   | none => rw [h0 rfl]; rfl
   | some b => cases hb
  ·have hc : a.eval (.const (.slice none 0 0)) = .slice none 0 0 := rfl
   simp [execOp, hv, hc, k4, k5]
 obtain ⟨b, hb0, hb1⟩ := hbit
 unfold wpList
 rw [if_pos (zce (ops := ops) hr.t (b := true) (by unfold zbP; rfl))]
 left
 obtain ⟨v', w', c', hrun, hg', hr'⟩ := hb1
 unfold Oper.wp
 rw [hrun]
 exact next b hb0 B c' w' _ R hR (zhp (o := { dst := some d', op := .binOp .eql t x (.const (.slice none 0 0)) yt, type := type, pos := pos, after := after, guard := none }) hr (by simp only [zdq]; rw [hs.nt]; simpa [Nat.blt_eq] using hb.2) hg' hr')
theorem zis {P : Program} {call : zcN} {l0 : Tri Nat} {n0 : Nat} {h0 : Tri (Nat × VObj)} {m0 : Nat} {ops : Array Oper} (hcall : zbQ P call) {r2 : List Oper} {Q : St → Prop} : ∀ {l : List Oper} {fs fs' : FS} {S : St}, FWf fs l0 n0 h0 m0 → FOk fs S → opsF P call ops l fs = some fs' → (∀ S', FWf fs' l0 n0 h0 m0 → FOk fs' S' → OpsS P ops r2 S' Q) → OpsS P ops (l ++ r2) S Q
 | [], fs, fs', S, hw, hs, h, hQ => by obtain rfl := inj1 (show some fs = some fs' from h); exact hQ S hw hs
 | o :: r, fs, fs', S, hw, hs, h, hQ => by
  have h' : (match zpt P o fs with
   | some fs1 => opsF P call ops r fs1
   | none => match opF P call ops o fs with
    | some fs1 => opsF P call ops r fs1
    | none => none) = some fs' := h
  rw [List.cons_append]
  split at h'
  ·rename_i fs1 h1
   exact znV hw hs (zkE h1) (fun S' w' s' => zis hcall w' s' h' hQ)
  ·split at h'
   case h_2 => cases h'
   rename_i fs1 h1
   have h2 := zol hcall hw hs h1 0
   refine ziO (j := 0) ?_
   simp only [zY, opWp] at h2 ⊢
   refine ⟨h2.1, ?_⟩
   have h3 := h2.2
   split at h3
   ·exact zeV (fun S1 hS => zis hcall hS.1 hS.2 h' hQ) h3
   ·exact zis hcall h3.1 h3.2 h' hQ
   ·exact h3.elim
def endF (P : Program) (fn : Func) (r : Option (Exit × FS)) : Option (AV × FS) := match r with
 | some (e, g) => match e with
  | .ret => ziz P fn g
  | .normal => ziz P fn g
  | _ => none
 | none => none
def zuA (a b : FS) : Bool := triB (fun p q => voB (fpO (zcZ a.last p.1) p.2) (fpO (zcZ b.last q.1) q.2)) a.H b.H && Nat.beq a.nx b.nx && (a.mv == b.mv)
theorem zn4 {a b : FS} (h : zuA a b = true) : zbF a = zbF b ∧ a.mv = b.mv := by
 unfold zuA at h
 simp only [Bool.and_eq_true] at h
 obtain ⟨⟨h1, h2⟩, h3⟩ := h
 refine ⟨?_, eq_of_beq h3⟩
 unfold zbF
 rw [Nat.eq_of_beq_eq_true h2]
 refine List.map_congr_left (fun i _ => ?_)
 unfold FS.hg
 rcases zg0 (n := Nat.succ i) h1 with ⟨e1, e2⟩ | ⟨x, y, e1, e2, e3⟩
 ·rw [e1, e2]
 ·rw [e1, e2]; simp only; rw [ztu e3]
def zto (P : Program) (call : zcN) (N : Nat) (fn : Func) (code : Code) (fs0 : FS) : Option (AV × FS) := match code with
 | .seq r0 (.seq (.seq (.region _ ops false) (.cond c x y)) z) => match zaB P call N r0 fs0 with
  | some (.normal, fs1) => match ops.toList.reverse with
   | o :: r => match opsF P call ops r.reverse fs1 with
    | some fs2 => match zq0 P fs2 o with
     | some (d, zb) => match putT fs2 (some d) (.pv (.bool false)) with
      | some fa => match endF P fn (zaB P call N (.seq (.cond c x y) z) fa) with
       | some (v, g) => match zb with
        | false => some (v, g)
        | true => match putT fs2 (some d) (.pv (.bool true)) with
         | some fb => match endF P fn (zaB P call N (.seq (.cond c x y) z) fb) with
          | some (v', g') => match avB v' v && zuA g' g with
           | true => some (v, g)
           | false => none
          | none => none
         | none => none
       | none => none
      | none => none
     | none => none
    | none => none
   | [] => none
  | _ => none
 | _ => none
abbrev zo2 := zcN → zcN
def noSp : zo2 := fun _ _ _ _ => none
def zrm (P : Program) (sp : zo2) : Prop := ∀ call, zbQ P call → zbQ P (sp call)
theorem zua {P : Program} : zrm P noSp := fun _ _ _ _ _ _ _ _ _ _ _ h => by cases h
def zlw (P : Program) (tab : FuncId → Option Func) (sp : zo2) (N : Nat) (n : Nat) : zcN :=
 Nat.rec (motive := fun _ => zcN) (fun _ _ _ => none) (fun _ ih f A fs => match sp ih f A fs with
  | some r => some r
  | none => match tab f with
   | some fn => match fn.body with
    | some code => match zoc A fn.ntmps fs with
     | some fs0 => match endF P fn (zaB P ih N code fs0) with
      | some r => some r
      | none => zto P ih N fn code fs0
     | none => none
    | none => none
   | none => none) n
section
variable {P : Program} {l0 : Tri Nat} {n0 : Nat} {h0 : Tri (Nat × VObj)} {m0 : Nat}
theorem zmk {now : Nat} : ∀ {A : List AV} {k : Nat} {T T' : Tri (Nat × AV)}, zsN now A k T = some T' → ∀ t, T'.get (Nat.succ t) = if k ≤ t ∧ t < k + A.length then (A[t - k]?).map fun v => (now, v) else T.get (Nat.succ t)
 | [], k, T, T', h, t => by obtain rfl := inj1 h; rw [if_neg (by simp)]
 | a :: as, k, T, T', h, t => by
  simp only [zsN] at h
  split at h
  case h_2 => cases h
  rename_i hb
  rw [zmk h t, Tri.get_put (by omega) (lt16 hb) (by omega)]
  simp only [List.length_cons]
  by_cases e : t = k
  ·rw [if_neg (by omega), if_pos (by omega), if_pos (by omega), e]; simp
  ·by_cases e2 : k ≤ t ∧ t < k + (as.length + 1)
   ·rw [if_pos e2, if_pos (by omega), show t - k = (t - Nat.succ k) + 1 by omega]; simp
   ·rw [if_neg e2, if_neg (by omega), if_neg (by omega)]
theorem zki : ∀ {A : List AV} {k t : Nat}, tget (zkS k A) t = if k ≤ t then A[t - k]? else none
 | [], k, t => by simp [zkS, tget]
 | a :: as, k, t => by
  simp only [zkS, tget]
  by_cases e : k = t
  ·subst e; simp
  ·rw [if_neg e, zki]
   by_cases h : k ≤ t
   ·rw [if_pos h, if_pos (by omega), show t - k = (t - (k + 1)) + 1 by omega]; simp
   ·rw [if_neg h, if_neg (by omega)]
theorem zkg {m : Nat} : ∀ {vs : List AV} {i : Nat} {v : AV}, zau m vs = true → vs[i]? = some v → zao m v = true
 | v :: vs, 0, w, h, e => by simp only [zau, Bool.and_eq_true] at h; simp at e; subst e; exact h.1
 | v :: vs, i + 1, w, h, e => by simp only [zau, Bool.and_eq_true] at h; exact zkg h.2 (by simpa using e)
theorem zpO {A : List AV} {nt : Nat} {fs fs0 : FS} (hd : ∀ i, i < fs.nx ↔ ∃ p, fs.H.get (Nat.succ i) = some p) (hb : ∀ i p, fs.H.get (Nat.succ i) = some p → zbC fs.nx p.2 = true ∧ p.1 ≤ fs.now) (hl : ∀ i, zcQ fs.last i ≤ fs.now) (hA : zau fs.nx A = true) (h : zoc A nt fs = some fs0) : FWf fs0 fs.last fs.now fs.H fs.nx ∧ FOk fs0 (zqM A (zbF fs) nt) := by
 unfold zoc at h
 split at h
 case h_2 => cases h
 rename_i T hT
 obtain rfl := inj1 h
 have hg := zmk hT
 refine ⟨⟨hd, fun k p hk => ?_, hb, hl, Nat.le_refl _, fun i _ => .inr ⟨by simp, rfl⟩, Nat.le_refl _, fun i _ _ => rfl, rfl⟩, ⟨fun k => ?_, fun i => ?_, zaR, rfl, rfl, zaR⟩⟩
 ·have hk' : T.get (Nat.succ k) = some p := hk
  rw [hg] at hk'
  split at hk'
  ·simp only [Option.map_eq_some_iff] at hk'
   obtain ⟨v, h1, rfl⟩ := hk'
   exact ⟨zkg hA h1, Nat.le_refl _⟩
  ·cases hk'
 ·show tget (zkS 0 A) k = _
  rw [zki, if_pos (Nat.zero_le _)]
  unfold FS.tg
  simp only
  rw [hg]
  by_cases e : k < A.length
  ·rw [if_pos ⟨Nat.zero_le _, by omega⟩]
   have : A[k - 0]? = some A[k] := by simp
   rw [this]
   simp only [Option.map_some]
   rw [zgL hl (Nat.le_refl _), zib, zjo]
  ·rw [if_neg (by omega), List.getElem?_eq_none (by omega)]
   rfl
 ·show hget (idx 0 (zbF fs)) i = _
  rw [zbG, if_pos (Nat.zero_le _), Nat.sub_zero, zcb hd]
  rfl
theorem zts {fs : FS} {S : St} (hs : FOk fs S) {r : ResultVar} {v : AV} (h : zs1 P fs r = some v) : ∃ c, resA P S r = some (c, v) ∧ c := by
 cases r with
 | tmp t =>
  refine ⟨True, ?_, trivial⟩
  simp only [resA]
  rw [hs.t t, show fs.tg t = some v from h]
  rfl
 | cell a t =>
  simp only [zs1] at h
  simp only [resA]
  rw [hs.t a]
  split at h
  case h_2 => cases h
  rename_i id off ha
  rw [ha]
  simp only
  rw [hs.h id]
  split at h
  case h_2 => cases h
  rename_i cs hg
  rw [hg]
  simp only
  split at h
  case h_2 => cases h
  rename_i h1 h2
  obtain rfl := inj1 h
  exact ⟨_, h2, zkx h2 h1⟩
theorem znT {fs : FS} {S : St} (hs : FOk fs S) : ∀ {l : List ResultVar} {vs : List AV}, ztS P fs l = some vs → ∃ c, resL P S l = some (c, vs) ∧ c
 | [], vs, h => by obtain rfl := inj1 (show some [] = some vs from h); exact ⟨True, rfl, trivial⟩
 | r :: rs, vs, h => by
  have h' : (match zs1 P fs r with
   | some v => match ztS P fs rs with
    | some vs => some (v :: vs)
    | none => none
   | none => none) = some vs := h
  split at h'
  case h_2 => cases h'
  rename_i v h1
  split at h'
  case h_2 => cases h'
  rename_i vs' h2
  obtain rfl := inj1 h'
  obtain ⟨c1, e1, k1⟩ := zts hs h1
  obtain ⟨c2, e2, k2⟩ := znT hs h2
  refine ⟨c1 ∧ c2, ?_, k1, k2⟩
  simp only [resL, e1, e2]
theorem zhs {fn : Func} {fs g : FS} {S : St} {out : AV} {m : Nat} (hw : FWf fs l0 n0 h0 m) (hs : FOk fs S) (h : ziz P fn fs = some (out, g)) : g = fs ∧ zao fs.nx out = true ∧ ∃ fz new cs vs cf v, zgn P fn m S out (zbF fs) (lowB m fs.mv) fz new cs vs cf v := by
 unfold ziz at h
 split at h
 case h_2 => cases h
 rename_i vs hr
 split at h
 case h_2 => cases h
 rename_i hb
 simp only [Option.some.injEq, Prod.mk.injEq] at h
 obtain ⟨rfl, rfl⟩ := h
 rw [zrj] at hb
 refine ⟨rfl, hb, ?_⟩
 obtain ⟨cs, h1, h2⟩ := znT hs hr
 obtain ⟨cf, f1, f2⟩ := znz S.H (zig vs)
 have hm : m ≤ fs.nx := by rw [← hw.lq]; exact hw.lo
 have hsig : ∀ i, i < fs.nx → sig m ((List.range fs.nx).drop m) i = i := fun i hi => by
  unfold sig
  split
  ·rfl
  ·rw [List.getD_eq_getElem?_getD, List.getElem?_drop, show m + (i - m) = i by omega, List.getElem?_range hi]; rfl
 refine ⟨[], (List.range fs.nx).drop m, cs, vs, cf, zig vs, h1, h2, f1, f2, by simp, ztr hsig hb, by rw [zaR]; exact hb, fun x hx => ?_, ?_, fun x hx => ?_, ?_, fun i o hi => ?_⟩
 ·rw [hs.mv] at hx
  rcases Nat.lt_or_ge x m with h3 | h3
  ·exact .inl (zdW.2 ⟨hx, h3⟩)
  ·exact .inr h3
 ·exact List.nodup_range.sublist (List.drop_sublist _ _)
 ·obtain ⟨j, hj, rfl⟩ := List.mem_iff_getElem.1 hx
  simp
 ·simp [zaR]; omega
 ·rw [zcb hw.dense] at hi
  have hlt : i < fs.nx := by
   refine (hw.dense i).2 ?_
   unfold FS.hg at hi
   split at hi
   ·exact ⟨_, by assumption⟩
   ·cases hi
  have hbo : zbC fs.nx o = true := by
   unfold FS.hg at hi
   split at hi
   ·rename_i p hp
    obtain rfl := inj1 hi
    rw [zgQ]
    exact zgz _ (hw.bh i p hp).1
   ·cases hi
  rw [hsig i hlt, zpG hsig hbo, zaR]
  exact ⟨by rw [hs.h, hi], hbo⟩
theorem zle {call : zcN} (hcall : zbQ P call) {N : Nat} {fn : Func} {code : Code} {fs0 : FS} {S : St} {out : AV} {g : FS} {m : Nat} (hw : FWf fs0 l0 n0 h0 m) (hs : FOk fs0 S) (h : endF P fn (zaB P call N code fs0) = some (out, g)) : zbc l0 n0 h0 m g ∧ zao g.nx out = true ∧ zaG P code (zas P fn m out (zbF g) (lowB m g.mv)) S := by
 unfold endF at h
 split at h
 case h_2 => cases h
 rename_i e g1 hr
 have key : ∀ {e : Exit}, (e = .ret ∨ e = .normal) → zaB P call N code fs0 = some (e, g1) → ziz P fn g1 = some (out, g) → zbc l0 n0 h0 m g ∧ zao g.nx out = true ∧ zaG P code (zas P fn m out (zbF g) (lowB m g.mv)) S := fun {e} he hr ha => by
  have hg : zbc l0 n0 h0 m g1 := zbv hcall code ⟨hw, S, hs⟩ hr
  obtain ⟨gw, S1, gs⟩ := hg
  obtain ⟨rfl, a1, _⟩ := zhs gw gs ha
  refine ⟨⟨gw, S1, gs⟩, a1, zbT hcall code hw hs hr (fun S' w' s' => ?_)⟩
  obtain ⟨_, _, b2⟩ := zhs w' s' ha
  rcases he with rfl | rfl
  ·exact b2
  ·exact b2
 split at h
 ·exact key (.inl rfl) hr h
 ·exact key (.inr rfl) hr h
 ·cases h
theorem zkC {call : zcN} (hcall : zbQ P call) {N : Nat} {fn : Func} {x z : Code} {fs0 : FS} {S : St} {out : AV} {g : FS} {m : Nat} (hw : FWf fs0 l0 n0 h0 m) (hs : FOk fs0 S) (h : endF P fn (zaB P call N (.seq x z) fs0) = some (out, g)) : zbc l0 n0 h0 m g ∧ zao g.nx out = true ∧ zaG P x (seqK P z (zas P fn m out (zbF g) (lowB m g.mv))) S := by
 have h0 := zle hcall hw hs h
 refine ⟨h0.1, h0.2.1, ?_⟩
 have e : zaB P call N (.seq x z) fs0 = (match zaB P call N x fs0 with
   | some (e, fs1) => match e with
    | .normal => zaB P call N z fs1
    | _ => some (e, fs1)
   | none => none) := rfl
 cases h1 : zaB P call N x fs0 with
 | none => rw [e, h1] at h; cases h
 | some r =>
  obtain ⟨e1, f1⟩ := r
  refine zbT hcall x hw hs h1 (fun S' w' s' => ?_)
  rw [e, h1] at h
  cases e1 with
  | normal => exact zu (zle hcall w' s' h).2.2
  | ret =>
   obtain ⟨rfl, _, b2⟩ := zhs w' s' h
   unfold seqK; exact b2
  | _ => cases h
theorem zsR {call : zcN} (hcall : zbQ P call) {N : Nat} {fn : Func} {code : Code} {fs0 : FS} {S : St} {out : AV} {g : FS} {m : Nat} (hw : FWf fs0 l0 n0 h0 m) (hs : FOk fs0 S) (h : zto P call N fn code fs0 = some (out, g)) : zbc l0 n0 h0 m g ∧ zao g.nx out = true ∧ zaG P code (zas P fn m out (zbF g) (lowB m g.mv)) S := by
 unfold zto at h
 split at h
 case h_2 => cases h
 rename_i r0 k ops c x y z
 split at h
 case h_2 => cases h
 rename_i fs1 h1
 split at h
 case h_2 => cases h
 rename_i o r ho
 split at h
 case h_2 => cases h
 rename_i fs2 h2
 split at h
 case h_2 => cases h
 rename_i d zb hn
 split at h
 case h_2 => cases h
 rename_i fa ha
 split at h
 case h_2 => cases h
 rename_i v1 g1 he
 have n1 : zbc l0 n0 h0 m fs1 := zbv hcall r0 ⟨hw, S, hs⟩ h1
 have n2 : zbc l0 n0 h0 m fs2 := zgM hcall n1 h2
 have hl : ops.toList = r.reverse ++ [o] := by
  have := congrArg List.reverse ho
  simpa using this
 have fin : (∀ S2, FWf fs2 l0 n0 h0 m → FOk fs2 S2 → ∀ b, (b = true → zb = true) → zaG P (.cond c x y) (seqK P z (zas P fn m out (zbF g) (lowB m g.mv))) (S2.applyR (some d) (.pv (.bool b)) none)) → zaG P (.seq r0 (.seq (.seq (.region k ops false) (.cond c x y)) z)) (zas P fn m out (zbF g) (lowB m g.mv)) S := fun hall => by
  refine zm (zbT hcall r0 hw hs h1 (fun S1 w1 s1 => zu ?_))
  refine zm (zm (ze7 hl ?_))
  refine zis hcall w1 s1 h2 (fun S2 w2 s2 => ?_)
  exact zpZ s2 hn (fun b hb => zoG (zu (hall S2 w2 s2 b hb)))
 obtain ⟨w2, S2, s2⟩ := n2
 obtain ⟨pw, ps⟩ := zdc w2 s2 ha
 obtain ⟨e1, e2, _⟩ := zle hcall pw ps he
 split at h
 ·simp only [Option.some.injEq, Prod.mk.injEq] at h
  obtain ⟨rfl, rfl⟩ := h
  refine ⟨e1, e2, fin (fun S2 w2 s2 b hb => ?_)⟩
  cases b with
  | true => cases hb rfl
  | false =>
   obtain ⟨pw, ps⟩ := zdc w2 s2 ha
   exact (zkC hcall pw ps he).2.2
 ·split at h
  case h_2 => cases h
  rename_i fb hb'
  split at h
  case h_2 => cases h
  rename_i v2 g2 he2
  split at h
  case h_2 => cases h
  rename_i hsm
  simp only [Bool.and_eq_true] at hsm
  simp only [Option.some.injEq, Prod.mk.injEq] at h
  obtain ⟨rfl, rfl⟩ := h
  refine ⟨e1, e2, fin (fun S2 w2 s2 b hb => ?_)⟩
  cases b with
  | true =>
   obtain ⟨pw, ps⟩ := zdc w2 s2 hb'
   have := (zkC hcall pw ps he2).2.2
   rw [znX hsm.1, (zn4 hsm.2).1, (zn4 hsm.2).2] at this
   exact this
  | false =>
   obtain ⟨pw, ps⟩ := zdc w2 s2 ha
   exact (zkC hcall pw ps he).2.2
theorem zgR {tab : FuncId → Option Func} (ht : ∀ f fn, tab f = some fn → P.funcs[f]? = some fn) {sp : zo2} (hp : zrm P sp) {N : Nat} : ∀ n, zbQ P (zlw P tab sp N n)
 | 0 => fun f A fs out g _ _ _ _ h => by cases (show (none : Option (AV × FS)) = _ from h)
 | n + 1 => fun f A fs out g hd hb hl hA h => by
  have h' : (match sp (zlw P tab sp N n) f A fs with
   | some r => some r
   | none => match tab f with
    | some fn => match fn.body with
     | some code => match zoc A fn.ntmps fs with
      | some fs0 => match endF P fn (zaB P (zlw P tab sp N n) N code fs0) with
       | some r => some r
       | none => zto P (zlw P tab sp N n) N fn code fs0
      | none => none
     | none => none
    | none => none) = some (out, g) := h
  split at h'
  ·rename_i r hr
   obtain rfl := inj1 h'
   exact hp _ (zgR ht hp n) f A fs out g hd hb hl hA hr
  split at h'
  case h_2 => cases h'
  rename_i fn hf
  split at h'
  case h_2 => cases h'
  rename_i code hc
  split at h'
  case h_2 => cases h'
  rename_i fs0 h0
  obtain ⟨w0, s0⟩ := zpO hd hb hl hA h0
  split at h'
  ·rename_i r hr
   obtain rfl := inj1 h'
   obtain ⟨⟨e1, _⟩, e2, e3⟩ := zle (zgR ht hp n) w0 s0 hr
   exact ⟨e1, e2, zx (ht f fn hf) hc (by rw [zaR]; exact e3)⟩
  ·obtain ⟨⟨e1, _⟩, e2, e3⟩ := zsR (zgR ht hp n) w0 s0 h'
   exact ⟨e1, e2, zx (ht f fn hf) hc (by rw [zaR]; exact e3)⟩
end
def tabF : List (Nat × Func) → FuncId → Option Func
 | [], _ => none
 | (k, fn) :: r, f => match Nat.beq k f with
  | true => some fn
  | false => tabF r f
theorem zq6 {P : Program} : ∀ {l : List (Nat × Func)}, (∀ x ∈ l, P.funcs[x.1]? = some x.2) → ∀ f fn, tabF l f = some fn → P.funcs[f]? = some fn
 | [], _, f, fn, h => by cases h
 | (k, g) :: r, hl, f, fn, h => by
  simp only [tabF] at h
  split at h
  ·rename_i e
   have := Nat.eq_of_beq_eq_true e
   subst this
   obtain rfl := inj1 h
   exact hl (k, g) (by simp)
  ·exact zq6 (fun x hx => hl x (List.mem_cons_of_mem _ hx)) f fn h
def fs00 : FS := { T := .lf, H := .lf, nx := 0, last := .lf, now := 0, mv := [], c := (0, 0), wr := 65535 }
def zqW (P : Program) (l : List (Nat × Func)) (sp : zo2) (N n f : Nat) (v : AV) : Bool := match zlw P (tabF l) sp N n f [] fs00 with
 | some (out, _) => avB out v
 | none => false
theorem zoL {P : Program} {l : List (Nat × Func)} {sp : zo2} {N n f : Nat} {v : AV} (hl : ∀ x ∈ l, P.funcs[x.1]? = some x.2) (hp : zrm P sp) (h : zqW P l sp N n f v = true) : ∃ Hout, Ok P f [] [] v Hout [] := by
 unfold zqW at h
 split at h
 case h_2 => cases h
 rename_i out g hr
 obtain ⟨_, _, h3⟩ := zgR (zq6 hl) hp n f [] fs00 out g (fun i => ⟨fun h => absurd h (Nat.not_lt_zero i), fun ⟨p, h⟩ => by cases h⟩) (fun i p h => by cases h) (fun i => Nat.le_refl 0) rfl hr
 rw [znX h] at h3
 have e : lowB fs00.nx g.mv = [] := by
  cases hq : lowB fs00.nx g.mv with
  | nil => rfl
  | cons x r =>
   have : x ∈ lowB fs00.nx g.mv := by rw [hq]; simp
   exact absurd (zdW.1 this).2 (Nat.not_lt_zero x)
 rw [e] at h3
 exact ⟨zbF g, h3⟩
end
end Go.Proofs.YtppnccjeggnllaaGreatVm

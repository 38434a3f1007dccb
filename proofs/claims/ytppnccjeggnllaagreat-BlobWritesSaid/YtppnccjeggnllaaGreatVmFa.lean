import Derived.Test.YtppnccjeggnllaaGreatVmCn
namespace Go.Proofs.YtppnccjeggnllaaGreatVm
open Go Go.RowKit
set_option linter.all false
noncomputable section
inductive Tri (α : Type) where
 | lf
 | nd (v : Option α) (l r : Tri α)
def Tri.get {α : Type} (tr : Tri α) : Nat → Option α :=
 Tri.rec (motive := fun _ => Nat → Option α) (fun _ => none) (fun v _ _ gl gr n => Bool.rec (Bool.rec (gr (Nat.div n 2)) (gl (Nat.div n 2)) (Nat.beq (Nat.mod n 2) 0)) v (Nat.beq n 1)) tr
def Tri.put {α : Type} (v : α) (f : Nat) : Tri α → Nat → Tri α :=
 Nat.rec (motive := fun _ => Tri α → Nat → Tri α) (fun tr _ => tr)
  (fun _ ih tr n => Tri.casesOn (motive := fun _ => Tri α) tr
   (Bool.rec (Bool.rec (.nd none .lf (ih .lf (Nat.div n 2))) (.nd none (ih .lf (Nat.div n 2)) .lf) (Nat.beq (Nat.mod n 2) 0)) (.nd (some v) .lf .lf) (Nat.beq n 1))
   (fun w l r => Bool.rec (Bool.rec (.nd w l (ih r (Nat.div n 2))) (.nd w (ih l (Nat.div n 2)) r) (Nat.beq (Nat.mod n 2) 0)) (.nd (some v) l r) (Nat.beq n 1))) f
def Tri.V {α : Type} : Tri α → Option α
 | .lf => none
 | .nd v _ _ => v
def Tri.L {α : Type} : Tri α → Tri α
 | .lf => .lf
 | .nd _ l _ => l
def Tri.R {α : Type} : Tri α → Tri α
 | .lf => .lf
 | .nd _ _ r => r
section
variable {α : Type} {v : Option α} {l r : Tri α} {n : Nat}
theorem Tri.get_nd : (Tri.nd v l r).get n = if n = 1 then v else if n % 2 = 0 then l.get (n / 2) else r.get (n / 2) := by
 show Bool.rec (motive := fun _ => Option α) (Bool.rec (motive := fun _ => Option α) (r.get (n / 2)) (l.get (n / 2)) (Nat.beq (n % 2) 0)) v (Nat.beq n 1) = _
 by_cases h : n = 1
 ·subst h; rfl
 ·rw [if_neg h]
  have h1 : Nat.beq n 1 = false := by cases hb : Nat.beq n 1; rfl; exact absurd (Nat.eq_of_beq_eq_true hb) h
  rw [h1]
  by_cases h2 : n % 2 = 0
  ·rw [if_pos h2, h2]; rfl
  ·rw [if_neg h2]
   have h3 : Nat.beq (n % 2) 0 = false := by cases hb : Nat.beq (n % 2) 0; rfl; exact absurd (Nat.eq_of_beq_eq_true hb) h2
   rw [h3]
theorem Tri.put_succ {x : α} {f : Nat} {tr : Tri α} : Tri.put x (f + 1) tr n = if n = 1 then .nd (some x) tr.L tr.R else
  if n % 2 = 0 then .nd tr.V (Tri.put x f tr.L (n / 2)) tr.R
  else .nd tr.V tr.L (Tri.put x f tr.R (n / 2)) := by
 have hb1 : (n = 1 ∧ Nat.beq n 1 = true) ∨ (n ≠ 1 ∧ Nat.beq n 1 = false) := by
  cases hb : Nat.beq n 1
  ·exact .inr ⟨fun e => (by subst e; cases hb), rfl⟩
  ·exact .inl ⟨Nat.eq_of_beq_eq_true hb, rfl⟩
 have hb2 : (n % 2 = 0 ∧ Nat.beq (n % 2) 0 = true) ∨ (n % 2 ≠ 0 ∧ Nat.beq (n % 2) 0 = false) := by
  cases hb : Nat.beq (n % 2) 0
  ·exact .inr ⟨fun e => (by rw [e] at hb; cases hb), rfl⟩
  ·exact .inl ⟨Nat.eq_of_beq_eq_true hb, rfl⟩
 cases tr with
 | lf =>
  show Bool.rec (motive := fun _ => Tri α) (Bool.rec (motive := fun _ => Tri α) (Tri.nd none .lf (Tri.put x f .lf (n / 2))) (.nd none (Tri.put x f .lf (n / 2)) .lf) (Nat.beq (n % 2) 0)) (.nd (some x) .lf .lf) (Nat.beq n 1) = _
  rcases hb1 with ⟨h1, h2⟩ | ⟨h1, h2⟩
  ·rw [h2, if_pos h1]; rfl
  ·rw [h2, if_neg h1]
   rcases hb2 with ⟨h3, h4⟩ | ⟨h3, h4⟩
   ·rw [h4, if_pos h3]; rfl
   ·rw [h4, if_neg h3]; rfl
 | nd w l r =>
  show Bool.rec (motive := fun _ => Tri α) (Bool.rec (motive := fun _ => Tri α) (Tri.nd w l (Tri.put x f r (n / 2))) (.nd w (Tri.put x f l (n / 2)) r) (Nat.beq (n % 2) 0)) (.nd (some x) l r) (Nat.beq n 1) = _
  rcases hb1 with ⟨h1, h2⟩ | ⟨h1, h2⟩
  ·rw [h2, if_pos h1]; rfl
  ·rw [h2, if_neg h1]
   rcases hb2 with ⟨h3, h4⟩ | ⟨h3, h4⟩
   ·rw [h4, if_pos h3]; rfl
   ·rw [h4, if_neg h3]; rfl
theorem Tri.get_put {x : α} : ∀ {f : Nat} {tr : Tri α} {n m : Nat}, 1 ≤ n → n < 2 ^ f → 1 ≤ m → (Tri.put x f tr n).get m = if m = n then some x else tr.get m
 | 0, tr, n, m, h1, h2, _ => by simp at h2; omega
 | f + 1, tr, n, m, h1, h2, h3 => by
  have e2 : m ≠ 1 → m % 2 = 0 → tr.L.get (m / 2) = tr.get m := fun h h' => by cases tr with | lf => rfl | nd w l r => rw [Tri.get_nd, if_neg h, if_pos h']; rfl
  have e3 : m ≠ 1 → m % 2 ≠ 0 → tr.R.get (m / 2) = tr.get m := fun h h' => by cases tr with | lf => rfl | nd w l r => rw [Tri.get_nd, if_neg h, if_neg h']; rfl
  have e0 : m = 1 → tr.V = tr.get m := fun h => by rw [h]; cases tr with | lf => rfl | nd w l r => rw [Tri.get_nd, if_pos rfl]; rfl
  have hn2 : n / 2 < 2 ^ f := by rw [Nat.pow_succ] at h2; omega
  rw [Tri.put_succ]
  by_cases hn : n = 1
  ·rw [if_pos hn, Tri.get_nd]
   by_cases hm : m = 1
   ·rw [if_pos hm, if_pos (show m = n by omega)]
   ·rw [if_neg hm, if_neg (show ¬ m = n by omega)]
    by_cases hp : m % 2 = 0
    ·rw [if_pos hp]; exact e2 hm hp
    ·rw [if_neg hp]; exact e3 hm hp
  ·rw [if_neg hn]
   by_cases hq : n % 2 = 0
   ·rw [if_pos hq, Tri.get_nd]
    by_cases hm : m = 1
    ·rw [if_pos hm, if_neg (show ¬ m = n by omega)]; exact e0 hm
    ·rw [if_neg hm]
     by_cases hp : m % 2 = 0
     ·rw [if_pos hp, Tri.get_put (f := f) (by omega) hn2 (by omega), e2 hm hp]
      by_cases e : m = n
      ·rw [if_pos e, if_pos (show m / 2 = n / 2 by omega)]
      ·rw [if_neg e, if_neg (show ¬ m / 2 = n / 2 by omega)]
     ·rw [if_neg hp, if_neg (show ¬ m = n by omega)]; exact e3 hm hp
   ·rw [if_neg hq, Tri.get_nd]
    by_cases hm : m = 1
    ·rw [if_pos hm, if_neg (show ¬ m = n by omega)]; exact e0 hm
    ·rw [if_neg hm]
     by_cases hp : m % 2 = 0
     ·rw [if_pos hp, if_neg (show ¬ m = n by omega)]; exact e2 hm hp
     ·rw [if_neg hp, Tri.get_put (f := f) (by omega) hn2 (by omega), e3 hm hp]
      by_cases e : m = n
      ·rw [if_pos e, if_pos (show m / 2 = n / 2 by omega)]
      ·rw [if_neg e, if_neg (show ¬ m / 2 = n / 2 by omega)]
end
mutual
def purS (st : Nat → Bool) : AV → AV
 | .undef => .undef
 | .pv p => .pv p
 | .pptr cs off => .pptr cs off
 | .ptr id off => bif st id then .undef else .ptr id off
 | .ref id sz off n => bif st id then .undef else .ref id sz off n
 | .view id off n => bif st id then .undef else .view id off n
 | .agg cs => .agg (zfd st cs)
 | .tup cs => .tup (zfd st cs)
 | .fnc f cs => .fnc f (zfd st cs)
 | .bnd f q cs => .bnd f q (zfd st cs)
 | .mapr id => bif st id then .undef else .mapr id
def zfd (st : Nat → Bool) : List AV → List AV
 | [] => []
 | a :: as => purS st a :: zfd st as
end
def zi3 (st : Nat → Bool) : VObj → VObj
 | .row e sz cs => .row e sz cs
 | .box cs => .box (zfd st cs)
 | .mp es => .mp es
 | .arow e sz cs => .arow e sz (zfd st cs)
def mapR {α β : Type} (f : α → β) (l : List α) : List β := List.rec (motive := fun _ => List β) [] (fun x _ ih => f x :: ih) l
theorem zk5 {α β : Type} (f : α → β) : ∀ l : List α, mapR f l = l.map f
 | [] => rfl
 | x :: l => by show f x :: mapR f l = _; rw [zk5 f l]; rfl
theorem zgF (st : Nat → Bool) : ∀ l : List AV, zfd st l = l.map (purS st)
 | [] => rfl
 | x :: l => by simp only [zfd, List.map_cons, zgF st l]
def fp0 (st : Nat → Bool) (v : AV) : AV := match v with
 | .undef => .undef
 | .pv p => .pv p
 | .pptr cs off => .pptr cs off
 | .ptr id off => bif st id then .undef else .ptr id off
 | .ref id sz off n => bif st id then .undef else .ref id sz off n
 | .view id off n => bif st id then .undef else .view id off n
 | .mapr id => bif st id then .undef else .mapr id
 | v => purS st v
def fp1 (st : Nat → Bool) (v : AV) : AV := match v with
 | .undef => .undef
 | .pv p => .pv p
 | .pptr cs off => .pptr cs off
 | .ptr id off => bif st id then .undef else .ptr id off
 | .ref id sz off n => bif st id then .undef else .ref id sz off n
 | .view id off n => bif st id then .undef else .view id off n
 | .mapr id => bif st id then .undef else .mapr id
 | .agg cs => .agg (mapR (fp0 st) cs)
 | v => purS st v
def fp2 (st : Nat → Bool) (v : AV) : AV := match v with
 | .undef => .undef
 | .pv p => .pv p
 | .pptr cs off => .pptr cs off
 | .ptr id off => bif st id then .undef else .ptr id off
 | .ref id sz off n => bif st id then .undef else .ref id sz off n
 | .view id off n => bif st id then .undef else .view id off n
 | .mapr id => bif st id then .undef else .mapr id
 | .agg cs => .agg (mapR (fp0 st) cs)
 | .tup cs => .tup (mapR (fp1 st) cs)
 | .fnc f cs => .fnc f (mapR (fp0 st) cs)
 | .bnd f q cs => .bnd f q (mapR (fp0 st) cs)
def fpO (st : Nat → Bool) (o : VObj) : VObj := match o with
 | .row e sz cs => .row e sz cs
 | .box cs => .box (mapR (fp0 st) cs)
 | .mp es => .mp es
 | .arow e sz cs => .arow e sz (mapR (fp0 st) cs)
theorem zqL (st : Nat → Bool) : fp0 st = purS st := by funext v; cases v <;> rfl
theorem zu3 (st : Nat → Bool) : fp1 st = purS st := by
 funext v; cases v <;> first | rfl | (simp only [fp1, purS, zk5, zqL, zgF])
theorem zib (st : Nat → Bool) : fp2 st = purS st := by
 funext v; cases v <;> first | rfl | (simp only [fp2, purS, zk5, zqL, zu3, zgF])
theorem zgQ (st : Nat → Bool) : fpO st = zi3 st := by
 funext v; cases v <;> first | rfl | (simp only [fpO, zi3, zk5, zqL, zgF])
mutual
theorem zlm {st st' : Nat → Bool} {m : Nat} (h : ∀ i, i < m → st i = st' i) : ∀ {v : AV}, zao m v = true → purS st v = purS st' v
 | .undef, _ => rfl
 | .pv _, _ => rfl
 | .pptr _ _, _ => rfl
 | .ptr id _, hb => by simp only [zao, decide_eq_true_eq] at hb; simp only [purS, h id hb]
 | .ref id _ _ _, hb => by simp only [zao, decide_eq_true_eq] at hb; simp only [purS, h id hb]
 | .view id _ _, hb => by simp only [zao, decide_eq_true_eq] at hb; simp only [purS, h id hb]
 | .mapr id, hb => by simp only [zao, decide_eq_true_eq] at hb; simp only [purS, h id hb]
 | .agg cs, hb => by simp only [purS, zeM h (vs := cs) hb]
 | .tup cs, hb => by simp only [purS, zeM h (vs := cs) hb]
 | .fnc _ cs, hb => by simp only [purS, zeM h (vs := cs) hb]
 | .bnd _ _ cs, hb => by simp only [purS, zeM h (vs := cs) hb]
theorem zeM {st st' : Nat → Bool} {m : Nat} (h : ∀ i, i < m → st i = st' i) : ∀ {vs : List AV}, zau m vs = true → zfd st vs = zfd st' vs
 | [], _ => rfl
 | v :: vs, hb => by simp only [zau, Bool.and_eq_true] at hb; simp only [zfd, zlm h hb.1, zeM h hb.2]
end
theorem zqC {st st' : Nat → Bool} {m : Nat} (h : ∀ i, i < m → st i = st' i) {o : VObj} (hb : zbC m o = true) : zi3 st o = zi3 st' o := by
 cases o <;> first | rfl | simp only [zi3, zeM h hb]
mutual
theorem zhz (st : Nat → Bool) (ks : List Nat) : ∀ v : AV, purge ks (purS st v) = purS (fun i => memB i ks || st i) v
 | .undef => rfl
 | .pv _ => rfl
 | .pptr _ _ => rfl
 | .ptr id _ => by
  cases h : st id
  ·by_cases hm : id ∈ ks
   ·simp [purS, purge, h, hm, zdi.2 hm]
   ·have hb : memB id ks = false := by cases hb : memB id ks; rfl; exact absurd (zdi.1 hb) hm
    simp [purS, purge, h, hm, hb]
  ·simp [purS, purge, h]
 | .ref id _ _ _ => by
  cases h : st id
  ·by_cases hm : id ∈ ks
   ·simp [purS, purge, h, hm, zdi.2 hm]
   ·have hb : memB id ks = false := by cases hb : memB id ks; rfl; exact absurd (zdi.1 hb) hm
    simp [purS, purge, h, hm, hb]
  ·simp [purS, purge, h]
 | .view id _ _ => by
  cases h : st id
  ·by_cases hm : id ∈ ks
   ·simp [purS, purge, h, hm, zdi.2 hm]
   ·have hb : memB id ks = false := by cases hb : memB id ks; rfl; exact absurd (zdi.1 hb) hm
    simp [purS, purge, h, hm, hb]
  ·simp [purS, purge, h]
 | .mapr id => by
  cases h : st id
  ·by_cases hm : id ∈ ks
   ·simp [purS, purge, h, hm, zdi.2 hm]
   ·have hb : memB id ks = false := by cases hb : memB id ks; rfl; exact absurd (zdi.1 hb) hm
    simp [purS, purge, h, hm, hb]
  ·simp [purS, purge, h]
 | .agg cs => by simp only [purS, purge, zdt st ks cs]
 | .tup cs => by simp only [purS, purge, zdt st ks cs]
 | .fnc _ cs => by simp only [purS, purge, zdt st ks cs]
 | .bnd _ _ cs => by simp only [purS, purge, zdt st ks cs]
theorem zdt (st : Nat → Bool) (ks : List Nat) : ∀ vs : List AV, zcB ks (zfd st vs) = zfd (fun i => memB i ks || st i) vs
 | [] => rfl
 | v :: vs => by simp only [zfd, zcB, zhz st ks v, zdt st ks vs]
end
theorem zmC (st : Nat → Bool) (ks : List Nat) (o : VObj) : zdN ks (zi3 st o) = zi3 (fun i => memB i ks || st i) o := by
 cases o <;> first | rfl | simp only [zi3, zdN, zdt]
mutual
theorem zjo : ∀ v : AV, purS (fun _ => false) v = v
 | .undef => rfl
 | .pv _ => rfl
 | .pptr _ _ => rfl
 | .ptr _ _ => rfl
 | .ref _ _ _ _ => rfl
 | .view _ _ _ => rfl
 | .mapr _ => rfl
 | .agg cs => by simp only [purS, zd2 cs]
 | .tup cs => by simp only [purS, zd2 cs]
 | .fnc _ cs => by simp only [purS, zd2 cs]
 | .bnd _ _ cs => by simp only [purS, zd2 cs]
theorem zd2 : ∀ vs : List AV, zfd (fun _ => false) vs = vs
 | [] => rfl
 | v :: vs => by simp only [zfd, zjo v, zd2 vs]
end
theorem zkn (o : VObj) : zi3 (fun _ => false) o = o := by cases o <;> first | rfl | simp only [zi3, zd2]
mutual
theorem zfR {m n : Nat} (h : m ≤ n) : ∀ {v : AV}, zao m v = true → zao n v = true
 | .undef, _ => rfl
 | .pv _, _ => rfl
 | .pptr _ _, _ => rfl
 | .ptr id _, hb => by simp only [zao, decide_eq_true_eq] at hb ⊢; omega
 | .ref id _ _ _, hb => by simp only [zao, decide_eq_true_eq] at hb ⊢; omega
 | .view id _ _, hb => by simp only [zao, decide_eq_true_eq] at hb ⊢; omega
 | .mapr id, hb => by simp only [zao, decide_eq_true_eq] at hb ⊢; omega
 | .agg cs, hb => zdz h (vs := cs) hb
 | .tup cs, hb => zdz h (vs := cs) hb
 | .fnc _ cs, hb => zdz h (vs := cs) hb
 | .bnd _ _ cs, hb => zdz h (vs := cs) hb
theorem zdz {m n : Nat} (h : m ≤ n) : ∀ {vs : List AV}, zau m vs = true → zau n vs = true
 | [], _ => rfl
 | v :: vs, hb => by simp only [zau, Bool.and_eq_true] at hb ⊢; exact ⟨zfR h hb.1, zdz h hb.2⟩
end
theorem zmF {m n : Nat} (h : m ≤ n) {o : VObj} (hb : zbC m o = true) : zbC n o = true := by
 cases o <;> first | rfl | exact zdz h hb
mutual
theorem zoJ {m : Nat} (st : Nat → Bool) : ∀ {v : AV}, zao m v = true → zao m (purS st v) = true
 | .undef, _ => rfl
 | .pv _, _ => rfl
 | .pptr _ _, _ => rfl
 | .ptr id _, hb => by cases h : st id <;> simp only [purS, h, cond_true, cond_false] <;> first | exact hb | rfl
 | .ref id _ _ _, hb => by cases h : st id <;> simp only [purS, h, cond_true, cond_false] <;> first | exact hb | rfl
 | .view id _ _, hb => by cases h : st id <;> simp only [purS, h, cond_true, cond_false] <;> first | exact hb | rfl
 | .mapr id, hb => by cases h : st id <;> simp only [purS, h, cond_true, cond_false] <;> first | exact hb | rfl
 | .agg cs, hb => zdA st (vs := cs) hb
 | .tup cs, hb => zdA st (vs := cs) hb
 | .fnc _ cs, hb => zdA st (vs := cs) hb
 | .bnd _ _ cs, hb => zdA st (vs := cs) hb
theorem zdA {m : Nat} (st : Nat → Bool) : ∀ {vs : List AV}, zau m vs = true → zau m (zfd st vs) = true
 | [], _ => rfl
 | v :: vs, hb => by simp only [zau, Bool.and_eq_true, zfd] at hb ⊢; exact ⟨zoJ st hb.1, zdA st hb.2⟩
end
theorem zgz {m : Nat} (st : Nat → Bool) {o : VObj} (hb : zbC m o = true) : zbC m (zi3 st o) = true := by
 cases o <;> first | rfl | exact zdA st hb
def blw (m : Nat) (v : AV) : Bool := match v with
 | .undef => true
 | .pv _ => true
 | .pptr _ _ => true
 | .ptr id _ => Nat.blt id m
 | .ref id _ _ _ => Nat.blt id m
 | .view id _ _ => Nat.blt id m
 | .mapr id => Nat.blt id m
 | v => zao m v
def blwL (m : Nat) (l : List AV) : Bool := List.rec (motive := fun _ => Bool) true (fun x _ ih => Bool.rec false ih (blw m x)) l
def blwV (m : Nat) (v : AV) : Bool := match v with
 | .agg cs => blwL m cs
 | .fnc _ cs => blwL m cs
 | v => blw m v
def zqY (m : Nat) (l : List AV) : Bool := List.rec (motive := fun _ => Bool) true (fun x _ ih => Bool.rec false ih (blwV m x)) l
def blwT (m : Nat) (v : AV) : Bool := match v with
 | .tup cs => zqY m cs
 | v => blwV m v
def blwO (m : Nat) (o : VObj) : Bool := match o with
 | .row _ _ _ => true
 | .mp _ => true
 | .box cs => blwL m cs
 | .arow _ _ cs => blwL m cs
theorem zeC {a b : Nat} : Nat.blt a b = decide (a < b) := by
 cases h : Nat.blt a b
 ·refine (decide_eq_false (fun hl => ?_)).symm
  have : Nat.blt a b = true := by rw [Nat.blt_eq]; exact hl
  rw [this] at h; cases h
 ·refine (decide_eq_true ?_).symm
  rw [Nat.blt_eq] at h; exact h
theorem zty {m : Nat} {v : AV} : blw m v = zao m v := by cases v <;> first | rfl | exact zeC
theorem zkY {m : Nat} : ∀ {l : List AV}, blwL m l = zau m l
 | [] => rfl
 | x :: l => by
  show Bool.rec (motive := fun _ => Bool) false (blwL m l) (blw m x) = _
  rw [zkY, zty]
  cases h : zao m x <;> simp [zau, h]
theorem zq1 {m : Nat} {v : AV} : blwV m v = zao m v := by
 cases v with
 | agg cs => exact zkY
 | fnc f cs => exact zkY
 | _ => simp only [blwV, zty]
theorem zit {m : Nat} : ∀ {l : List AV}, zqY m l = zau m l
 | [] => rfl
 | x :: l => by
  show Bool.rec (motive := fun _ => Bool) false (zqY m l) (blwV m x) = _
  rw [zit, zq1]
  cases h : zao m x <;> simp [zau, h]
theorem zrj {m : Nat} {v : AV} : blwT m v = zao m v := by
 cases v with
 | tup cs => exact zit
 | _ => simp only [blwT, zq1]
theorem zqe {m : Nat} {o : VObj} : blwO m o = zbC m o := by cases o <;> first | rfl | exact zkY
def zcd (hg : Nat → Option VObj) : AV → Option (Nat × List PV)
 | .pv (.slc n _ cs) => some (n, cs)
 | .pv (.nnl n cs) => some (n, cs)
 | .pv (.str s) => some (s.length, s.map fun b => .int .u8 b.toNat)
 | .ref id sz off n => match hg id with
  | some (.row _ sz' cs) => if sz' = sz then some (n, (cs.drop (off * sz)).take (n * sz)) else none
  | _ => none
 | .view id off n => match hg id with
  | some (.box cs) => (pvs ((cs.drop off).take n)).map fun ps => (n, ps)
  | _ => none
 | _ => none
def zhb (P : Program) (hg : Nat → Option VObj) (nx : Nat) (b : Builtin) (ts : List TypeId) (vs : List AV) : Option (Prop × AV × Option VObj) :=
 match b, ts, vs with
 | .len, t :: _, [v] => (lenA P t v).map fun n => (True, .pv (.int .i64 n), none)
 | .min, _, v :: r => (ziQ (fun a b => decide (a < b)) v r).map fun x => (True, x, none)
 | .max, _, v :: r => (ziQ (fun a b => decide (b < a)) v r).map fun x => (True, x, none)
 | .append, [t, u], [.pv (.slc n true cs), x] => match za1 P t, zcd hg x with
  | some e, some (m, new) => match tsz P e, zcy P e, zbZ P e with
   | some sz, some by', some zs => if tsub P u e = true then
     some (0 < sz ∧ zs.length = sz ∧ cs.length = n * sz ∧ new.length = m * sz ∧ (n = 0 ∨ 0 < m) ∧ n + m ≤ zaW ∧ by' ≤ 1024, .ref nx sz 0 (n + m), some (.row e sz (cs ++ new))) else none
   | _, _, _ => none
  | _, _ => none
 | _, _, _ => none
def zcR (P : Program) (ev : Operand → Option AV) (hg : Nat → Option VObj) (nx : Nat) (op : Op) (ty : TypeId) : Option (Prop × AV × Option VObj) :=
 let plain (r : Option (Prop × AV)) : Option (Prop × AV × Option VObj) := r.map fun x => (x.1, x.2, none)
 match op with
 | .move x => (ev x).map fun v => (True, v, none)
 | .assign x => match zff x with
  | true => match za1 P ty with
   | some e => match tsz P e with
    | some sz => some (True, .ref nx sz 0 0, some (.row e sz []))
    | none => none
   | none => none
  | false => (ev x).map fun v => (True, v, none)
 | .pick c a b => match ev c with
  | some (.pv (.bool t)) => (if t then ev a else ev b).map fun v => (True, v, none)
  | _ => none
 | .alloc t => (zbZ P t).map fun zs => (True, .ptr nx 0, some (.box (zs.map .pv)))
 | .box _ x => match ev x with
  | some v => if told v = true ∧ (zam v).all one = true then some (True, .ptr nx 0, some (.box (zam v))) else none
  | none => none
 | .build t parts => match zbY ev parts.toList with
  | some ps => if zlM P t = true then (znM P t ps).map fun v => (True, v, none) else none
  | none => none
 | .buildSlice t len parts => if (decide (len = 0) && parts.isEmpty) = true then
   match za1 P t with
   | some e => match tsz P e, zbZ P e with
    | some sz, some zs => some (0 < sz ∧ zs.length = sz, .pv (.slc 0 true []), none)
    | _, _ => none
   | none => none
  else match za1 P t, zbY ev parts.toList with
  | some e, some ps => match tsz P e, zbZ P e with
   | some sz, some zs => match zeZ (fun i => some (i * sz, sz)) ((zaK zs len).map .pv) ps with
    | some cs => match pvs cs with
     | some qs => some (0 < sz ∧ zs.length = sz ∧ len * sz ≤ 16777216, .ref nx sz 0 len, some (.row e sz qs))
     | none => some (0 < sz ∧ zs.length = sz ∧ len * sz ≤ 16777216, .view nx 0 len, some (.box cs))
    | none => none
   | _, _ => none
  | _, _ => none
 | .load t a => match ev a with
  | some (.ptr id off) => match hg id with
   | some (.box cs) => plain (zdn P t cs off)
   | some (.row _ _ cs) => plain (zgt P t cs off)
   | _ => none
  | some (.pptr cs off) => plain (zgt P t cs off)
  | _ => none
 | .nilCheck x => match ev x with
  | some (.ptr id off) => some (True, .ptr id off, none)
  | some (.pptr cs off) => some (True, .pptr cs off, none)
  | some (.fnc f cs) => some (True, .fnc f cs, none)
  | _ => none
 | .binOp o t x y _ => match zff y with
  | true => match ev x with
   | some a => plain (zjQ P o t a)
   | none => none
  | false => match ev x, ev y with
   | some a, some b => plain (bin P o t a b)
   | _, _ => none
 | .unOp o _ x => match ev x with
  | some a => (un o a).map fun v => (True, v, none)
  | none => none
 | .convert s d x => match ev x with
  | some (.pv (.slc n _ cs)) => if tstr P d = true ∧ zlo P s = true then
    match zba cs with
    | some bs => some (cs.length = n, .pv (.str bs), none)
    | none => none
   else none
  | some (.ref id sz off n) => if tstr P d = true ∧ zlo P s = true ∧ sz = 1 then
    match zcd hg (.ref id sz off n) with
    | some (m, cs) => match zba cs with
     | some bs => some (cs.length = m, .pv (.str bs), none)
     | none => none
    | none => none
   else none
  | some a => if (P.underlying s).isSome = true then plain (conv P s d a) else none
  | none => none
 | .makeFunc (.func f) first caps => if first.size = 0 then (evs ev caps.toList).map fun vs => (True, .fnc f vs, none) else match evs ev first.toList, evs ev caps.toList with
  | some us, some vs => some (True, .bnd f us.length (us ++ vs), none)
  | _, _ => none
 | .fieldAddr t x f => match ev x, tfld P t f with
  | some (.ptr id o), some (off, ft) => match tsz P ft with
   | some s => some (s ≠ 0, .ptr id (o + off), none)
   | none => none
  | some (.pptr cs o), some (off, ft) => match tsz P ft with
   | some s => some (s ≠ 0, .pptr cs (o + off), none)
   | none => none
  | _, _ => none
 | .field t x f => match ev x, tfld P t f with
  | some (.agg cs), some (off, ft) => plain (zdn P ft cs off)
  | _, _ => none
 | .indexAddr t x i => match ev x, intA (ev i) with
  | some a, some n => plain (zha P t a n)
  | _, _ => none
 | .index t x i => match ev x, intA (ev i) with
  | some a, some n => plain (zkk P t a n)
  | _, _ => none
 | .slice t x lo hi mx => match ev x, optI ev lo, optI ev hi, optI ev mx with
  | some a, some l, some h, some m => plain (zjX P t a l h m)
  | _, _, _, _ => none
 | .sliceToArrayPointer t x => match ev x, tarr P t with
  | some (.pv (.slc n _ cs)), some (m, _) => some (m ≤ n ∧ cs ≠ [], .pptr cs 0, none)
  | _, _ => none
 | .makeSlice t l c => match za1 P t, intA (ev l), intA (ev c) with
  | some e, some n, some m => match tsz P e, zcy P e, zbZ P e with
   | some sz, some by', some zs => some (n = m ∧ 0 ≤ n ∧ n ≤ 4611686018427387904 ∧ (by' : Int) * n ≤ 281474976710656 ∧ 0 < sz ∧ zs.length = sz, .ref nx sz 0 n.toNat, some (.row e sz (zaK zs n.toNat)))
   | _, _, _ => none
  | _, _, _ => none
 | .makeMap t none => match tmap P t with
  | some _ => some (True, .mapr nx, some (.mp []))
  | none => none
 | .lookup t x k false => match ev x, ev k with
  | some (.mapr id), some kv => match hg id with
   | some (.mp es) => plain (zoR P t es kv)
   | _ => none
  | _, _ => none
 | .extract x k => match ev x with
  | some (.tup vs) => match vs[k]? with
   | some v => some (True, v, none)
   | none => none
  | _ => none
 | .call c => match c.callee with
  | .builtin b => match evs ev c.args.toList with
   | some vs => zhb P hg nx b c.argTypes.toList vs
   | none => none
  | _ => none
 | _ => none
def zn9 (P : Program) (hg : Nat → Option VObj) (ts : List TypeId) (vs : List AV) : Bool := match ts, vs with
 | [t, _], [.pv (.slc n true cs), x] => match za1 P t, zcd hg x with
  | some e, some (m, new) => match tsz P e, zcy P e, zbZ P e with
   | some sz, some by', some zs => Nat.ble 1 sz && Nat.beq zs.length sz && Nat.beq cs.length (n * sz) && Nat.beq new.length (m * sz) && (Nat.beq n 0 || Nat.ble 1 m) && Nat.ble (n + m) zaW && Nat.ble by' 1024
   | _, _, _ => false
  | _, _ => false
 | _, _ => false
def zfj (P : Program) (ev : Operand → Option AV) (hg : Nat → Option VObj) (op : Op) : Bool := match op with
 | .buildSlice t len parts => match za1 P t with
  | some e => match tsz P e, zbZ P e with
   | some sz, some zs => Nat.ble 1 sz && Nat.beq zs.length sz && ((decide (len = 0) && parts.isEmpty) || (Nat.ble (len * sz) 16777216 && match zbY ev parts.toList with
    | some ps => match zeZ (fun i => some (i * sz, sz)) ((zaK zs len).map .pv) ps with
     | some cs => (pvs cs).isSome
     | none => false
    | none => false))
   | _, _ => false
  | none => false
 | .load t a => match ev a with
  | some (.ptr id off) => match hg id with
   | some (.box cs) => zeR P t cs.length off
   | some (.row _ _ cs) => zeR P t cs.length off
   | _ => false
  | some (.pptr cs off) => zeR P t cs.length off
  | _ => false
 | .binOp o t x y _ => match zff y with
  | true => match ev x with
   | some (.pv .nils) => true
   | some (.pv (.nnl _ _)) => true
   | some (.pv (.slc n _ cs)) => !cs.isEmpty && Nat.ble 1 n
   | _ => false
  | false => match ev x, ev y with
   | some a, some b => binB o a b
   | _, _ => false
 | .convert s d x => match ev x with
  | some (.pv (.slc n _ cs)) => Nat.beq cs.length n
  | some (.ref id sz off n) => match zcd hg (.ref id sz off n) with
   | some (m, cs) => Nat.beq cs.length m
   | none => false
  | some (.pv (.int _ _)) => true
  | some (.pv (.str _)) => true
  | _ => false
 | .fieldAddr t x f => match tfld P t f with
  | some (_, ft) => match tsz P ft with
   | some s => !(Nat.beq s 0)
   | none => false
  | none => false
 | .field t x f => match ev x, tfld P t f with
  | some (.agg cs), some (off, ft) => zeR P ft cs.length off
  | _, _ => false
 | .indexAddr t x i => match ev x, intA (ev i) with
  | some a, some n => zi4 P t a n
  | _, _ => false
 | .index t x i => match ev x, intA (ev i) with
  | some a, some n => zlj P t a n
  | _, _ => false
 | .slice t x lo hi mx => match ev x, optI ev lo, optI ev hi, optI ev mx with
  | some a, some l, some h, some m => znN P t a l h m
  | _, _, _, _ => false
 | .sliceToArrayPointer t x => match ev x, tarr P t with
  | some (.pv (.slc n _ cs)), some (m, _) => Nat.ble m n && !cs.isEmpty
  | _, _ => false
 | .makeSlice t l c => match za1 P t, intA (ev l), intA (ev c) with
  | some e, some n, some m => match tsz P e, zcy P e, zbZ P e with
   | some sz, some by', some zs => decide (n = m) && decide (0 ≤ n) && decide (n ≤ 4611686018427387904) && decide ((by' : Int) * n ≤ 281474976710656) && Nat.ble 1 sz && Nat.beq zs.length sz
   | _, _, _ => false
  | _, _, _ => false
 | .call c => match c.callee with
  | .builtin b => match b with
   | .len => true
   | .min => true
   | .max => true
   | .append => match evs ev c.args.toList with
    | some vs => zn9 P hg c.argTypes.toList vs
    | none => false
   | _ => false
  | _ => false
 | .move _ => true
 | .assign _ => true
 | .pick _ _ _ => true
 | .alloc _ => true
 | .box _ _ => true
 | .build _ _ => true
 | .nilCheck _ => true
 | .unOp _ _ _ => true
 | .makeFunc _ _ _ => true
 | .makeMap _ _ => true
 | .lookup _ _ _ _ => true
 | .extract _ _ => true
 | _ => false
def zk4 (hg : Nat → Option VObj) (id : Nat) : Option (TypeId × Nat × List AV) := match hg id with
 | some (.row e (sz + 1) cs) => some (e, sz + 1, cs.map .pv)
 | some (.arow e (sz + 1) cs) => some (e, sz + 1, cs)
 | _ => none
def zmm (hg : Nat → Option VObj) : AV → Option (Nat × List AV)
 | .ref id sz off n => match zk4 hg id with
  | some (_, sz', cs) => if sz' = sz then some (n, (cs.drop (off * sz)).take (n * sz)) else none
  | none => none
 | .view id off n => match hg id with
  | some (.box cs) => some (n, (cs.drop off).take n)
  | _ => none
 | v => (zcd hg v).map fun r => (r.1, r.2.map .pv)
def zny (P : Program) (ev : Operand → Option AV) (hg : Nat → Option VObj) (nx : Nat) (op : Op) : Option (Bool × AV × VObj) :=
 match op with
 | .buildSlice t len parts => match za1 P t, zbY ev parts.toList with
  | some e, some ps => match tsz P e, zbZ P e with
   | some sz, some zs => match zeZ (fun i => some (i * sz, sz)) ((zaK zs len).map .pv) ps with
    | some cs => some (Nat.ble 1 sz && Nat.beq zs.length sz && Nat.ble (len * sz) 16777216, .ref nx sz 0 len, .arow e sz cs)
    | none => none
   | _, _ => none
  | _, _ => none
 | .call c => match c.callee, evs ev c.args.toList, c.argTypes.toList with
  | .builtin .append, some [.pv (.slc n true cs), x], [t, u] => match za1 P t, zmm hg x with
   | some e, some (m, new) => match tsz P e with
    | some sz => some (zjl P t u e sz sz m new && Nat.beq cs.length (n * sz) && (Nat.beq n 0 || Nat.ble 1 m) && Nat.ble (n + m) zaW, .ref nx sz 0 (n + m), .arow e sz (cs.map .pv ++ new))
    | none => none
   | _, _ => none
  | _, _, _ => none
 | .makeChan t x => match ev x, zl6 P t with
  | some (.pv (.int _ n)), some e => match zcy P e with
   | some by' => some (decide (0 ≤ n) && decide (n ≤ 65536) && Nat.ble by' 1024, .mapr nx, .arow n.toNat 0 [])
   | none => none
  | _, _ => none
 | _ => none
theorem zc4 (H : Heap) (x : AV) : zaU H x = zcd (hget H) x := by
 cases x <;> first | rfl | skip
theorem zlR (P : Program) (H : Heap) (nx : Nat) (b : Builtin) (ts : List TypeId) (vs : List AV) : zcT P H nx b ts vs = zhb P (hget H) nx b ts vs := by
 have e : zaU H = zcd (hget H) := funext (zc4 H)
 unfold zcT zhb
 rw [e]
 rfl
theorem zg4 (P : Program) (ev : Operand → Option AV) (H : Heap) (nx : Nat) (op : Op) (ty : TypeId) : zcv P ev H nx op ty = zcR P ev (hget H) nx op ty := by
 have e : zaU H = zcd (hget H) := funext (zc4 H)
 have e2 : zcT P H = zhb P (hget H) := by funext a b c d; exact zlR P H a b c d
 unfold zcv zcR
 rw [e, e2]
 cases op <;> rfl
theorem zpH (P : Program) (H : Heap) (ts : List TypeId) (vs : List AV) : zph P H ts vs = zn9 P (hget H) ts vs := by
 have e : zaU H = zcd (hget H) := funext (zc4 H)
 unfold zph zn9
 rw [e]
 rfl
theorem zjr (P : Program) (ev : Operand → Option AV) (H : Heap) (op : Op) : zsn P ev H op = zfj P ev (hget H) op := by
 have e : zaU H = zcd (hget H) := funext (zc4 H)
 have e2 : zph P H = zn9 P (hget H) := by funext a b; exact zpH P H a b
 unfold zsn zfj
 rw [e, e2]
 cases op <;> rfl
theorem zsJ (H : Heap) (id : Nat) : hrow H id = zk4 (hget H) id := rfl
theorem zl5 (H : Heap) (x : AV) : zid H x = zmm (hget H) x := by
 have e : zaU H = zcd (hget H) := funext (zc4 H)
 have e2 : hrow H = zk4 (hget H) := funext (zsJ H)
 unfold zid zmm
 rw [e, e2]
 cases x <;> rfl
theorem zoM (P : Program) (ev : Operand → Option AV) (H : Heap) (nx : Nat) (op : Op) : zlW P ev H nx op = zny P ev (hget H) nx op := by
 have e : zid H = zmm (hget H) := funext (zl5 H)
 unfold zlW zny
 rw [e]
 cases op <;> rfl
end
end Go.Proofs.YtppnccjeggnllaaGreatVm

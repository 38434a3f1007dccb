import Derived.Test.YtppnccjeggnllaaGreatVmC
import Derived.Laws.StructEq
import Derived.Laws.Cover3
import Derived.Laws.Pointers
namespace Go.Proofs.YtppnccjeggnllaaGreatVm
open Go Go.RowKit
set_option linter.all false
def vk : SK → Value → Bool
 | .int k, .int k' _ => decide (k = k')
 | .bool, .bool _ => true
 | .str, .string _ => true
 | _, _ => false
def KL : List SK → List Value → Bool
 | [], [] => true
 | k :: ks, v :: vs => vk k v && KL ks vs
 | _, _ => false
def veq : Value → Value → Bool
 | .int _ a, .int _ b => a == b
 | .bool a, .bool b => a == b
 | .string a, .string b => a.toList == b.toList
 | _, _ => false
def veqL : List Value → List Value → Bool
 | [], [] => true
 | a :: as, b :: bs => veq a b && veqL as bs
 | _, _ => false
def asV (isA : Bool) (xs : List Value) : Value := if isA then .agg xs.toArray else xs.headD undef
theorem zi0 : ∀ {ks : List SK} {vs : List Value}, KL ks vs = true → vs.length = ks.length
 | [], [], _ => rfl
 | _ :: ks, _ :: vs, h => by simp only [KL, Bool.and_eq_true] at h; simp [zi0 h.2]
 | [], _ :: _, h => by simp [KL] at h
 | _ :: _, [], h => by simp [KL] at h
theorem zej : ∀ {ks r : List SK} {vs : List Value}, KL (ks ++ r) vs = true → KL ks (vs.take ks.length) = true ∧ KL r (vs.drop ks.length) = true
 | [], r, vs, h => by simpa [KL] using h
 | k :: ks, r, v :: vs, h => by
  simp only [List.cons_append, KL, Bool.and_eq_true] at h
  have := zej (ks := ks) h.2
  simp only [List.length_cons, List.take_succ_cons, List.drop_succ_cons, KL, Bool.and_eq_true]
  exact ⟨⟨h.1, this.1⟩, this.2⟩
 | k :: ks, r, [], h => by simp [KL] at h
theorem zgp : ∀ (n : Nat) (xs ys : List Value), xs.length = ys.length → veqL xs ys = (veqL (xs.take n) (ys.take n) && veqL (xs.drop n) (ys.drop n))
 | 0, xs, ys, _ => by simp [veqL]
 | n + 1, [], [], _ => by simp [veqL]
 | n + 1, x :: xs, y :: ys, h => by
  simp only [List.take_succ_cons, List.drop_succ_cons, veqL]
  rw [zgp n xs ys (by simpa using h), Bool.and_assoc]
 | n + 1, [], _ :: _, h => by simp at h
 | n + 1, _ :: _, [], h => by simp at h
section
variable {P : Program} {w : World}
theorem zik {t : TypeId} {isA : Bool} {n : Nat} (ha : tagg P t = some isA) (hs : tsz P t = some n) (X : Array Value) (off : Nat) (hle : off + n ≤ X.size) (h1 : isA = false → n = 1) :
  (part t X off).run P w = .ok (asV isA ((X.toList.drop off).take n)) w := by
 cases isA with
 | true => simp [part, zer ha, zaY hs, asV, ← Array.toList_inj, List.extract_eq_take_drop]
 | false =>
  obtain rfl := h1 rfl
  have hlt : off < X.size := by omega
  have hd : (X.toList.drop off).take 1 = [X[off]] := by
   rw [List.drop_eq_getElem_cons (by simpa using hlt)]; simp
  simp [part, zer ha, asV, hd, hlt]
theorem zhU {d D : Nat} (ih : ∀ t ks, zmd P d t = some ks → ∀ xs ys, KL ks xs = true → KL ks ys = true →
   ∃ isA, tagg P t = some isA ∧ tsz P t = some ks.length ∧ (isA = false → ks.length = 1) ∧ (Op.equalIn D t (asV isA xs) (asV isA ys)).run P w = .ok (veqL xs ys) w) :
  ∀ (fs : List Field) (off : Nat) (ks : List SK), zlQ P (zmd P d) off fs = some ks → ∀ X Y : Array Value, X.size = off + ks.length → Y.size = off + ks.length →
   KL ks (X.toList.drop off) = true → KL ks (Y.toList.drop off) = true → (Op.eqFields D X Y fs).run P w = .ok (veqL (X.toList.drop off) (Y.toList.drop off)) w
 | [], off, ks, h, X, Y, hX, hY, _, _ => by
  simp only [zlQ] at h
  obtain rfl := inj1 h
  have e1 : X.toList.drop off = [] := by simp at hX ⊢; omega
  have e2 : Y.toList.drop off = [] := by simp at hY ⊢; omega
  simp [Op.eqFields, e1, e2, veqL]
 | f :: fs, off, ks, h, X, Y, hX, hY, kX, kY => by
  simp only [zlQ] at h
  split at h
  case isFalse => simp at h
  rename_i hf
  split at h
  case h_2 => simp at h
  rename_i k1 hk1
  split at h
  case h_2 => simp at h
  rename_i k2 hk2
  obtain rfl := inj1 h
  obtain ⟨hfo, hfn⟩ := hf
  simp only [List.length_append] at hX hY
  obtain ⟨aX, bX⟩ := zej kX
  obtain ⟨aY, bY⟩ := zej kY
  obtain ⟨isA, ha, hs, hone, heq⟩ := ih _ _ hk1 _ _ aX aY
  have hrest := zhU ih fs (off + k1.length) k2 hk2 X Y (by omega) (by omega) (by rw [← List.drop_drop]; exact bX) (by rw [← List.drop_drop]; exact bY)
  rw [zgp k1.length _ _ (by simp; omega)]
  rw [List.drop_drop, List.drop_drop]
  have pX := zik (P := P) (w := w) ha hs X f.offset (by omega) hone
  have pY := zik (P := P) (w := w) ha hs Y f.offset (by omega) hone
  rw [hfo] at pX pY
  rw [Op.eqFields, if_pos hfn]
  simp only [Sem.run_bind, hfo, pX, pY, heq, Result.andThen_ok]
  cases veqL ((X.toList.drop off).take k1.length) ((Y.toList.drop off).take k1.length) with
  | false => simp
  | true => simpa using hrest
theorem znW {D : Nat} {e : TypeId} {n : Nat} {ks : List SK} {isA : Bool} (ha : tagg P e = some isA) (hs : tsz P e = some ks.length) (hone : isA = false → ks.length = 1)
  (ih : ∀ xs ys, KL ks xs = true → KL ks ys = true → (Op.equalIn D e (asV isA xs) (asV isA ys)).run P w = .ok (veqL xs ys) w) :
  ∀ (m i : Nat) (X Y : Array Value), X.size = (i + m) * ks.length → Y.size = (i + m) * ks.length → KL (List.replicate m ks).flatten (X.toList.drop (i * ks.length)) = true → KL (List.replicate m ks).flatten (Y.toList.drop (i * ks.length)) = true →
   ((forIn (m := Sem) (List.range' i m) ((none : Option Bool), ()) (fun (j : Nat) (_ : Option Bool × Unit) => do
    let b ← Op.equalIn D e (← part e X (j * ks.length)) (← part e Y (j * ks.length))
    if (!b) = true then pure (ForInStep.done (some false, ())) else pure (ForInStep.yield (none, ()))))).run P w =
   .ok (if veqL (X.toList.drop (i * ks.length)) (Y.toList.drop (i * ks.length)) then (none, ()) else (some false, ())) w
 | 0, i, X, Y, hX, hY, _, _ => by
  have e1 : X.toList.drop (i * ks.length) = [] := by simp at hX ⊢; omega
  have e2 : Y.toList.drop (i * ks.length) = [] := by simp at hY ⊢; omega
  simp [e1, e2, veqL]
 | m + 1, i, X, Y, hX, hY, kX, kY => by
  simp only [List.replicate_succ, List.flatten_cons] at kX kY
  obtain ⟨aX, bX⟩ := zej kX
  obtain ⟨aY, bY⟩ := zej kY
  have hm : (i + 1) * ks.length = i * ks.length + ks.length := by rw [Nat.add_mul, Nat.one_mul]
  have hsz : (i + (m + 1)) * ks.length = i * ks.length + ks.length + m * ks.length := by rw [Nat.add_mul, Nat.add_mul]; omega
  have pX := zik (P := P) (w := w) ha hs X (i * ks.length) (by omega) hone
  have pY := zik (P := P) (w := w) ha hs Y (i * ks.length) (by omega) hone
  have hr := znW (n := n) ha hs hone ih m (i + 1) X Y (by rw [hX]; congr 1; omega) (by rw [hY]; congr 1; omega) (by rw [hm, ← List.drop_drop]; exact bX) (by rw [hm, ← List.drop_drop]; exact bY)
  rw [zgp ks.length _ _ (by simp; omega), List.drop_drop, List.drop_drop, ← hm]
  rw [List.range'_succ, List.forIn_cons]
  simp only [Sem.run_bind, pX, pY, ih _ _ aX aY, Result.andThen_ok]
  cases veqL ((X.toList.drop (i * ks.length)).take ks.length) ((Y.toList.drop (i * ks.length)).take ks.length) with
  | false => simp
  | true => simpa using hr
theorem zkF : ∀ (d : Nat) (t : TypeId) (ks : List SK), zmd P d t = some ks → ∀ D, d ≤ D → ∀ xs ys : List Value, KL ks xs = true → KL ks ys = true →
  ∃ isA, tagg P t = some isA ∧ tsz P t = some ks.length ∧ (isA = false → ks.length = 1) ∧ (Op.equalIn D t (asV isA xs) (asV isA ys)).run P w = .ok (veqL xs ys) w
 | 0, t, ks, h, _, _, _, _, _, _ => by simp [zmd] at h
 | d + 1, t, ks, h, D, hD, xs, ys, kx, ky => by
  obtain ⟨D, rfl⟩ : ∃ m, D = m + 1 := ⟨D - 1, by omega⟩
  have ih := fun t ks h xs ys kx ky => zkF d t ks h D (by omega) xs ys kx ky
  have lx := zi0 kx
  have ly := zi0 ky
  simp only [zmd] at h
  split at h
  ·rename_i hu
   split at h
   case isFalse => simp at h
   rename_i hs
   obtain rfl := inj1 h
   refine ⟨false, by simp [tagg, hu], hs, fun _ => rfl, ?_⟩
   match xs, ys, kx, ky with
   | [x], [y], kx, ky =>
    simp [KL] at kx ky
    cases x <;> simp [vk] at kx
    cases y <;> simp [vk] at ky
    simp [asV, veqL, veq, run_equalIn_bool _ _ _ _ _ hu]
   | [], _, kx, _ => simp [KL] at kx
   | _ :: _ :: _, _, kx, _ => simp [KL] at kx
   | [_], [], _, ky => simp [KL] at ky
   | [_], _ :: _ :: _, _, ky => simp [KL] at ky
  ·rename_i k hu
   split at h
   case isFalse => simp at h
   rename_i hs
   obtain rfl := inj1 h
   refine ⟨false, by simp [tagg, hu], hs, fun _ => rfl, ?_⟩
   match xs, ys, kx, ky with
   | [x], [y], kx, ky =>
    simp [KL] at kx ky
    cases x <;> simp [vk] at kx
    cases y <;> simp [vk] at ky
    subst kx; subst ky
    simp [asV, veqL, veq, run_equalIn_int _ _ _ _ _ _ _ hu]
   | [], _, kx, _ => simp [KL] at kx
   | _ :: _ :: _, _, kx, _ => simp [KL] at kx
   | [_], [], _, ky => simp [KL] at ky
   | [_], _ :: _ :: _, _, ky => simp [KL] at ky
  ·rename_i hu
   split at h
   case isFalse => simp at h
   rename_i hs
   obtain rfl := inj1 h
   refine ⟨false, by simp [tagg, hu], hs, fun _ => rfl, ?_⟩
   match xs, ys, kx, ky with
   | [x], [y], kx, ky =>
    simp [KL] at kx ky
    cases x <;> simp [vk] at kx
    cases y <;> simp [vk] at ky
    simp [asV, veqL, veq, run_equalIn_string _ _ _ _ _ hu]
   | [], _, kx, _ => simp [KL] at kx
   | _ :: _ :: _, _, kx, _ => simp [KL] at kx
   | [_], [], _, ky => simp [KL] at ky
   | [_], _ :: _ :: _, _, ky => simp [KL] at ky
  ·rename_i fs hu
   split at h
   case isTrue => simp at h
   rename_i hp
   split at h
   case h_2 => simp at h
   rename_i ks' hk
   split at h
   case isFalse => simp at h
   rename_i hs
   obtain rfl := inj1 h
   refine ⟨true, by simp [tagg, hu], hs, (fun h => by cases h), ?_⟩
   have hf : P.fieldsOf t = fs := by simp [Program.fieldsOf, hu]
   have := zhU (P := P) (w := w) ih fs.toList 0 ks' hk xs.toArray ys.toArray (by simpa using lx) (by simpa using ly) (by simpa using kx) (by simpa using ky)
   simp only [asV, if_true]
   rw [run_equalIn_struct (P := P) w D t _ _ (by rw [hf]; exact hu) (by simpa using hp), hf]
   simpa using this
  ·rename_i n e hu
   split at h
   case h_2 => simp at h
   rename_i ke hke
   split at h
   case isFalse => simp at h
   rename_i hs
   obtain rfl := inj1 h
   obtain ⟨hs1, hs2⟩ := hs
   have hl : ((List.replicate n ke).flatten).length = n * ke.length := by simp
   refine ⟨true, by simp [tagg, hu], by rw [hl]; exact hs1, (fun h => by cases h), ?_⟩
   simp only [asV, if_true]
   by_cases hn : n = 0
   ·subst hn
    simp at lx ly
    subst lx; subst ly
    simp [Op.equalIn, run_underlying hu, zaY hs2, veqL]
   ·obtain ⟨m, rfl⟩ : ∃ m, n = m + 1 := ⟨n - 1, by omega⟩
    have kx' := kx
    have ky' := ky
    simp only [List.replicate_succ, List.flatten_cons] at kx' ky'
    obtain ⟨isA, ha, hs3, hone, _⟩ := ih e ke hke _ _ (zej kx').1 (zej ky').1
    have hloop := znW (P := P) (w := w) (D := D) (n := m + 1) ha hs2 hone (fun xs ys kx ky => by
      obtain ⟨isA', ha', _, _, h'⟩ := ih e ke hke xs ys kx ky
      rw [ha] at ha'; cases ha'; exact h') (m + 1) 0 xs.toArray ys.toArray (by simp only [List.size_toArray, Nat.zero_add]; rw [lx, hl]) (by simp only [List.size_toArray, Nat.zero_add]; rw [ly, hl]) (by simpa using kx) (by simpa using ky)
    simp only [Op.equalIn, Sem.run_bind, run_underlying hu, Result.andThen_ok, zaY hs2]
    simp only [Nat.zero_mul, List.drop_zero] at hloop
    have hr : ∀ (f : Nat → Option Bool × Unit → Sem (ForInStep (Option Bool × Unit))), forIn (m := Sem) [:m + 1] ((none : Option Bool), ()) f = forIn (List.range' 0 (m + 1)) ((none : Option Bool), ()) f := fun f => by
     rw [Std.Legacy.Range.forIn_eq_forIn_range']
     simp [Std.Legacy.Range.size]
    rw [hr, hloop]
    simp only [Result.andThen_ok]
    cases veqL xs ys <;> simp
  ·simp at h
theorem zq3 (s : List UInt8) : (⟨s.toArray⟩ : ByteArray).toList = s := by rw [ByteArray.toList_eq]
variable {c : Ctx}
theorem zpC {a : AV} {v : Value} {k : SK} (h : zrv a = some k) (hr : Rep c w a v) : vk k v = true := by
 unfold zrv at h
 split at h
 ·obtain rfl := inj1 h; simp only [Rep, RepP] at hr; subst hr; simp [vk]
 ·obtain rfl := inj1 h; simp only [Rep, RepP] at hr; subst hr; simp [vk]
 ·obtain rfl := inj1 h; simp only [Rep, RepP] at hr; subst hr; simp [vk]
 ·simp at h
theorem zhJ : ∀ {as : List AV} {vs : List Value} {ks : List SK}, zeB as = some ks → RepL c w as vs → KL ks vs = true
 | [], [], ks, h, _ => by simp only [zeB] at h; obtain rfl := inj1 h; rfl
 | a :: as, v :: vs, ks, h, hr => by
  simp only [zeB] at h
  simp only [RepL] at hr
  split at h
  ·rename_i k ks' h1 h2
   obtain rfl := inj1 h
   simp only [KL, Bool.and_eq_true]
   exact ⟨zpC h1 hr.1, zhJ h2 hr.2⟩
  ·simp at h
 | [], _ :: _, _, _, hr => by simp [RepL] at hr
 | _ :: _, [], _, _, hr => by simp [RepL] at hr
theorem zoU {a b : AV} {v u : Value} {r : Bool} (h : zrG a b = some r) (h1 : Rep c w a v) (h2 : Rep c w b u) : veq v u = r := by
 unfold zrG at h
 split at h
 ·split at h
  ·obtain rfl := inj1 h; simp only [Rep, RepP] at h1 h2; subst h1; subst h2; simp [veq]
  ·simp at h
 ·obtain rfl := inj1 h; simp only [Rep, RepP] at h1 h2; subst h1; subst h2; simp [veq]
 ·obtain rfl := inj1 h; simp only [Rep, RepP] at h1 h2; subst h1; subst h2; simp [veq]
 ·simp at h
theorem zjw : ∀ {as bs : List AV} {vs us : List Value} {r : Bool}, ze1 as bs = some r → RepL c w as vs → RepL c w bs us → veqL vs us = r
 | [], [], [], [], r, h, _, _ => by simp only [ze1] at h; obtain rfl := inj1 h; rfl
 | a :: as, b :: bs, v :: vs, u :: us, r, h, h1, h2 => by
  simp only [ze1] at h
  simp only [RepL] at h1 h2
  split at h
  ·rename_i x y e1 e2
   obtain rfl := inj1 h
   simp only [veqL, zoU e1 h1.1 h2.1, zjw e2 h1.2 h2.2]
  ·simp at h
 | [], _ :: _, _, _, _, h, _, _ => by simp [ze1] at h
 | _ :: _, [], _, _, _, h, _, _ => by simp [ze1] at h
 | [], _, _ :: _, _, _, _, h1, _ => by simp [RepL] at h1
 | _ :: _, _, [], _, _, _, h1, _ => by simp [RepL] at h1
 | _, [], _, _ :: _, _, _, _, h2 => by simp [RepL] at h2
 | _, _ :: _, _, [], _, _, _, h2 => by simp [RepL] at h2
def zl8 : Value → Bool
 | .nilIface => false
 | .agg _ => false
 | _ => true
theorem zcK (op : BinOp) (t : TypeId) (x y : Operand) (a b : Value) (h : zl8 a = true) : (eqGuard op t x y a b).run P w = .ok () w := by
 unfold eqGuard
 cases a <;> simp_all [zl8] <;> (cases op <;> simp)
theorem zfM {t : TypeId} (h : tptr P t = true) : ∃ e, P.underlying t = some (.pointer e) := by
 unfold tptr at h
 split at h
 ·rename_i e hu; exact ⟨e, hu⟩
 ·simp at h
def zq8 : Value → Bool
 | .int _ _ => false
 | .string _ => false
 | .float _ _ => false
 | .complex _ _ _ => false
 | _ => true
theorem zim {t : TypeId} {a b : Value} {r : Bool} (h : (Op.equal t a b).run P w = .ok r w) (hn : zq8 a = true) :
  (binOp .eql t a b).run P w = .ok (.bool r) w ∧ (binOp .neq t a b).run P w = .ok (.bool !r) w := by
 constructor <;> (unfold binOp; cases a <;> simp_all [zq8])
theorem zrI (d : Nat) {t e : TypeId} (hu : P.underlying t = some (.pointer e)) (b : Option Addr) : (Op.equalIn (d + 1) t (.pointer none) (.pointer b)).run P w = .ok b.isNone w := by
 simp [Op.equalIn, run_underlying hu]
theorem zqm (d : Nat) {t e : TypeId} (hu : P.underlying t = some (.pointer e)) (a : Addr) : (Op.equalIn (d + 1) t (.pointer (some a)) (.pointer none)).run P w = .ok false w := by
 simp [Op.equalIn, run_underlying hu]
theorem zpR {t : TypeId} {a b : AV} {va vb : Value} {cond : Prop} {r : Bool} (x y : Operand) (h : eqA P t a b = some (cond, r)) (hc : cond) (ha : Rep c w a va) (hb : Rep c w b vb) :
  (∀ op, (eqGuard op t x y va vb).run P w = .ok () w) ∧ (binOp .eql t va vb).run P w = .ok (.bool r) w ∧ (binOp .neq t va vb).run P w = .ok (.bool !r) w := by
 have fin : zl8 va = true → (Op.equal t va vb).run P w = .ok r w → zq8 va = true → _ :=
  fun h1 h2 h3 => (⟨fun op => zcK op t x y va vb h1, zim h2 h3⟩ : (∀ op, (eqGuard op t x y va vb).run P w = .ok () w) ∧ (binOp .eql t va vb).run P w = .ok (.bool r) w ∧ (binOp .neq t va vb).run P w = .ok (.bool !r) w)
 unfold eqA at h
 split at h
 ·split at h
  ·rename_i hu
   obtain ⟨rfl, rfl⟩ := z9 h
   simp only [Rep, RepP] at ha hb
   subst ha; subst hb
   exact fin rfl (run_equal_bool _ _ _ _ hu) rfl
  ·simp at h
 ·split at h
  ·rename_i ht
   obtain ⟨rfl, rfl⟩ := z9 h
   obtain ⟨e, hu⟩ := zfM ht
   simp only [Rep, RepP] at ha hb
   subst ha; subst hb
   exact fin rfl (zrI 9999 hu none) rfl
  ·simp at h
 ·split at h
  ·rename_i ht
   obtain ⟨rfl, rfl⟩ := z9 h
   obtain ⟨e, hu⟩ := zfM ht
   simp only [Rep, RepP] at ha hb
   obtain ⟨bb, cap, _, hb⟩ := hb
   subst ha; subst hb
   exact fin rfl (zrI 9999 hu _) rfl
  ·simp at h
 ·split at h
  ·rename_i ht
   obtain ⟨rfl, rfl⟩ := z9 h
   obtain ⟨e, hu⟩ := zfM ht
   simp only [Rep, RepP] at ha hb
   obtain ⟨bb, cap, _, ha⟩ := ha
   subst ha; subst hb
   exact fin rfl (zqm 9999 hu _) rfl
  ·simp at h
 ·split at h
  ·rename_i ht
   obtain ⟨rfl, rfl⟩ := z9 h
   obtain ⟨e, hu⟩ := zfM ht
   simp only [Rep, RepP] at ha hb
   obtain ⟨bb, cap, ha, _⟩ := ha
   subst ha; subst hb
   exact fin rfl (zqm 9999 hu _) rfl
  ·simp at h
 ·rename_i xs ys
  split at h
  case h_2 => simp at h
  rename_i ks ka kb r' he hka hkb hr
  split at h
  case isFalse => simp at h
  rename_i hk
  obtain ⟨rfl, rfl⟩ := z9 h
  obtain ⟨rfl, rfl, hta⟩ := hk
  simp only [Rep] at ha hb
  obtain ⟨vs, rfl, hl1⟩ := ha
  obtain ⟨us, rfl, hl2⟩ := hb
  unfold eqOk at he
  split at he
  ·simp at he
  ·rename_i hg
   obtain ⟨isA, hia, _, _, heq⟩ := zkF (P := P) (w := w) 20 t ks he 10000 (by omega) vs.toList us.toList (zhJ hka hl1) (zhJ hkb hl2)
   rw [zjw hr hl1 hl2] at heq
   cases isA with
   | false => rw [hta] at hia; cases hia
   | true =>
    simp only [asV, if_true] at heq
    refine ⟨fun op => run_eqGuard_agg (P := P) (w := w) op t x y vs us (by simpa using hg), ?_, ?_⟩
    ·rw [run_eql_struct]; simp [heq]
    ·rw [run_neq_struct]; simp [heq]
 ·simp at h
theorem ztb {t : TypeId} {k : IntKind} {n : Int} (op : BinOp) (x y : Operand) (b : Value) : (eqGuard op t x y (.int k n) b).run P w = .ok () w := zcK op t x y _ _ rfl
theorem zqD {op : BinOp} {t : TypeId} {k : IntKind} {a b : Int} {cond : Prop} {v : AV} (h : zo7 op k a b = some (cond, v)) (hc : cond) (hs : op ≠ .shl) (hs' : op ≠ .shr) :
  ∃ u, (binOp op t (.int k a) (.int k b)).run P w = .ok u w ∧ Rep c w v u := by
 cases op <;> simp only [zo7] at h <;> (first | (simp at h; done) | obtain ⟨rfl, rfl⟩ := z9 h) <;> simp only [Rep, RepP, exists_eq_right] <;> simp [binOp, Op.intArith, Op.intDiv, Op.intBits, Op.intCmp] <;> simp_all
theorem zq7 {op : BinOp} {t : TypeId} {a b : List UInt8} {cond : Prop} {v : AV} (h : zsW op a b = some (cond, v)) (hc : cond) :
  ∃ u, (binOp op t (.string ⟨a.toArray⟩) (.string ⟨b.toArray⟩)).run P w = .ok u w ∧ Rep c w v u := by
 cases op <;> simp only [zsW] at h <;> (first | (simp at h; done) | obtain ⟨rfl, rfl⟩ := z9 h) <;> simp only [Rep, RepP, exists_eq_right] <;> simp only [binOp, Op.stringOp, zq3]
 case add =>
  have h1 : ¬ (((ByteArray.size ⟨a.toArray⟩ + ByteArray.size ⟨b.toArray⟩ : Nat) : Int) > IntKind.i64.max) := by
   simp only [ByteArray.size, List.size_toArray]
   unfold maxLen at hc
   have : IntKind.i64.max = 9223372036854775807 := by decide
   rw [this]; omega
  rw [if_neg h1, Sem.run_pure]
  congr 2
 all_goals rfl
theorem zuq {op : BinOp} {t : TypeId} {x y : AV} {vx vy : Value} {cond : Prop} {v : AV} (ox oy : Operand) (h : bin P op t x y = some (cond, v)) (hc : cond) (hx : Rep c w x vx) (hy : Rep c w y vy) :
  (eqGuard op t ox oy vx vy).run P w = .ok () w ∧ ∃ u, (binOp op t vx vy).run P w = .ok u w ∧ Rep c w v u := by
 unfold bin at h
 split at h
 ·rename_i k a k' b
  simp only [Rep, RepP] at hx hy
  subst hx; subst hy
  refine ⟨ztb op ox oy _, ?_⟩
  split at h
  ·obtain ⟨rfl, rfl⟩ := z9 h
   exact ⟨_, by simp [binOp, Op.shift, show ¬ b < 0 by omega], rfl⟩
  ·obtain ⟨rfl, rfl⟩ := z9 h
   exact ⟨_, by simp [binOp, Op.shift, show ¬ b < 0 by omega], rfl⟩
  ·rename_i n1 n2
   split at h
   case isFalse => simp at h
   rename_i hk
   subst hk
   exact zqD h hc (fun e => n1 e) (fun e => n2 e)
 ·rename_i a b
  simp only [Rep, RepP] at hx hy
  subst hx; subst hy
  exact ⟨zcK op t ox oy _ _ rfl, zq7 h hc⟩
 ·split at h
  ·simp only [Option.map_eq_some_iff, Prod.mk.injEq] at h
   obtain ⟨⟨c1, r⟩, h1, h2, h3⟩ := h
   simp only at h2 h3; subst h2 h3
   obtain ⟨h4, h5, _⟩ := zpR ox oy h1 hc hx hy
   exact ⟨h4 _, _, h5, rfl⟩
  ·simp only [Option.map_eq_some_iff, Prod.mk.injEq] at h
   obtain ⟨⟨c1, r⟩, h1, h2, h3⟩ := h
   simp only at h2 h3; subst h2 h3
   obtain ⟨h4, _, h5⟩ := zpR ox oy h1 hc hx hy
   exact ⟨h4 _, _, h5, rfl⟩
  ·simp at h
theorem zpy {op : BinOp} {t : TypeId} {x : AV} {vx : Value} {cond : Prop} {v : AV} (ox oy : Operand) (h : zjQ P op t x = some (cond, v)) (hc : cond) (hx : Rep c w x vx) :
  (eqGuard op t ox oy vx (.slice none 0 0)).run P w = .ok () w ∧ ∃ u, (binOp op t vx (.slice none 0 0)).run P w = .ok u w ∧ Rep c w v u := by
 unfold zjQ at h
 split at h
 case isFalse => simp at h
 rename_i ht
 obtain ⟨e, hu⟩ := zeO ht
 have key : ∀ {cond : Prop} {r : Bool}, zpg x = some (cond, r) → cond → zl8 vx = true ∧ zq8 vx = true ∧ (Op.equal t vx (.slice none 0 0)).run P w = .ok r w := by
  intro cond r h hc
  unfold zpg at h
  split at h
  ·obtain ⟨rfl, rfl⟩ := z9 h
   simp only [Rep, RepP] at hx; obtain ⟨cap, rfl⟩ := hx
   exact ⟨rfl, rfl, run_equal_slice_nil w t e none 0 cap hu⟩
  ·obtain ⟨rfl, rfl⟩ := z9 h
   simp only [Rep, RepP] at hx
   obtain ⟨b, cap, rfl, _⟩ := hx
   exact ⟨rfl, rfl, run_equal_slice_nil w t e (some b) _ _ hu⟩
  ·obtain ⟨rfl, rfl⟩ := z9 h
   simp only [Rep, RepP] at hx
   obtain ⟨a, cap, rfl, _, _, _, h4⟩ := hx
   rcases h4 with ⟨_, h4⟩ | ⟨b, off, rfl, _⟩
   ·exact absurd h4 hc.1
   ·exact ⟨rfl, rfl, run_equal_slice_nil w t e _ _ _ hu⟩
  ·simp at h
 split at h
 ·simp only [Option.map_eq_some_iff, Prod.mk.injEq] at h
  obtain ⟨⟨c1, r⟩, h1, h2, h3⟩ := h
  simp only at h2 h3; subst h2 h3
  obtain ⟨k1, k2, k3⟩ := key h1 hc
  exact ⟨zcK _ t ox oy _ _ k1, _, (zim k3 k2).1, rfl⟩
 ·simp only [Option.map_eq_some_iff, Prod.mk.injEq] at h
  obtain ⟨⟨c1, r⟩, h1, h2, h3⟩ := h
  simp only at h2 h3; subst h2 h3
  obtain ⟨k1, k2, k3⟩ := key h1 hc
  exact ⟨zcK _ t ox oy _ _ k1, _, (zim k3 k2).2, rfl⟩
 ·simp at h
variable {nx : Nat} {o : Oper} {ρ : Operand → Value} {ev : Operand → Option AV} {cond : Prop} {v : AV}
theorem zna {op : BinOp} {t yt : TypeId} {x y : Operand} {a b : AV} (ho : o.op = .binOp op t x y yt) (hm : zb9 c w o.op ev ρ) (hx : ev x = some a) (hy : ev y = some b)
  (h : bin P op t a b = some (cond, v)) (hc : cond) : zaC P c w nx o ρ v none := by
 obtain ⟨h1, u, h2, h3⟩ := zuq (P := P) x y h hc (hm x (by simp [ho, Op.operands]) _ hx) (hm y (by simp [ho, Op.operands]) _ hy)
 exact zP (v' := u) (by simp [execOp, ho, h1, h2]) h3
theorem zlp {op : BinOp} {t yt : TypeId} {x y : Operand} {a : AV} (ho : o.op = .binOp op t x y yt) (hm : zb9 c w o.op ev ρ) (hρ : ∀ v, ρ (.const v) = v) (hn : zff y = true) (hx : ev x = some a)
  (h : zjQ P op t a = some (cond, v)) (hc : cond) : zaC P c w nx o ρ v none := by
 have hy : y = .const (.slice none 0 0) := by
  unfold zff at hn
  split at hn
  ·rfl
  ·simp at hn
 subst hy
 obtain ⟨h1, u, h2, h3⟩ := zpy (P := P) x (.const (.slice none 0 0)) h hc (hm x (by simp [ho, Op.operands]) _ hx)
 exact zP (v' := u) (by simp [execOp, ho, hρ, h1, h2]) h3
theorem zpd {op : UnOp} {t : TypeId} {x : Operand} {a : AV} (ho : o.op = .unOp op t x) (hm : zb9 c w o.op ev ρ) (hx : ev x = some a) (h : un op a = some v) : zaC P c w nx o ρ v none := by
 have hr := hm x (by simp [ho, Op.operands]) _ hx
 unfold un at h
 split at h
 ·obtain rfl := inj1 h; simp only [Rep, RepP] at hr
  exact zP (v' := .int _ _) (by simp [execOp, ho, hr, Op.unary, Op.intArith]) rfl
 ·obtain rfl := inj1 h; simp only [Rep, RepP] at hr
  exact zP (v' := .int _ _) (by simp [execOp, ho, hr, Op.unary, Op.intBits]) rfl
 ·obtain rfl := inj1 h; simp only [Rep, RepP] at hr
  exact zP (v' := .bool _) (by simp [execOp, ho, hr, Op.unary]) rfl
 ·simp at h
end
end Go.Proofs.YtppnccjeggnllaaGreatVm

import Derived.Test.YtppnccjeggnllaaGreatVmQ
namespace Go.Proofs.YtppnccjeggnllaaGreatVm
open Go Go.RowKit
set_option linter.all false
def InR (n : Int) : Prop := -9223372036854775808 ≤ n ∧ n ≤ 9223372036854775807
theorem zqI {n : Int} (h : InR n) : IntKind.i64.wrap n = n := by
 unfold InR at h
 rw [IntKind.wrap_i64]; omega
theorem zb1 {n : Int} (h1 : -9223372036854775808 ≤ n) (h2 : n ≤ 9223372036854775807) : IntKind.i64.wrap n = n := zqI ⟨h1, h2⟩
abbrev I (n : Int) : AV := .pv (.int .i64 n)
abbrev B (b : Bool) : AV := .pv (.bool b)
abbrev i64 (n : Int) : PV := .int .i64 n
def encI (l : List Int) : List PV := l.map fun n => .int .i64 n
section
variable {α : Type} {enc : α → List PV} {s : Nat} {l : List α}
theorem zi (hs : ∀ x, (enc x).length = s) : ∀ l : List α, (l.flatMap enc).length = l.length * s
 | [] => by simp
 | x :: l => by rw [List.flatMap_cons, List.length_append, hs, zi hs l, List.length_cons, Nat.succ_mul, Nat.add_comm]
theorem zjH (hs : ∀ x, (enc x).length = s) : ∀ (l : List α) (i : Nat), (l.flatMap enc).drop (i * s) = (l.drop i).flatMap enc
 | l, 0 => by simp
 | [], i + 1 => by simp
 | x :: l, i + 1 => by
  rw [List.flatMap_cons, Nat.succ_mul, Nat.add_comm, ← List.drop_drop]
  rw [show (enc x ++ l.flatMap enc).drop s = l.flatMap enc by rw [← hs x]; simp]
  rw [zjH hs l i, List.drop_succ_cons]
theorem z2 (hs : ∀ x, (enc x).length = s) {i : Nat} {x : α} (hx : l[i]? = some x) : ((l.flatMap enc).drop (i * s)).take s = enc x := by
 rw [zjH hs]
 obtain ⟨hi, rfl⟩ := List.getElem?_eq_some_iff.1 hx
 rw [List.drop_eq_getElem_cons hi, List.flatMap_cons, ← hs l[i]]
 simp
theorem zja (hs : ∀ x, (enc x).length = s) {i o : Nat} {x : α} {p : PV} (hx : l[i]? = some x) (hp : (enc x)[o]? = some p) (ho : o < s) : (l.flatMap enc)[i * s + o]? = some p := by
 have h1 := z2 hs hx
 rw [← h1, List.getElem?_take, if_pos ho, List.getElem?_drop] at hp
 exact hp
theorem zap (hs : ∀ x, (enc x).length = s) {i : Nat} (hi : i < l.length) : i * s + s ≤ (l.flatMap enc).length := by
 rw [zi hs, ← Nat.succ_mul]
 exact Nat.mul_le_mul_right s hi
theorem zaj (hs : ∀ x, (enc x).length = s) (h0 : 0 < s) {i : Nat} (hi : i < l.length) : l.flatMap enc ≠ [] := by
 intro e
 have := zap (l := l) hs hi
 rw [e] at this
 simp at this
 omega
theorem zd0 (x : α) : (l ++ [x]).flatMap enc = l.flatMap enc ++ enc x := by simp
end
theorem zk (l : List Int) : (encI l).length = l.length * 1 := by simp [encI]
theorem zfJ {l : List Int} {i : Nat} {x : Int} (h : l[i]? = some x) : (encI l)[i * 1]? = some (.int .i64 x) := by simp [encI, h]
theorem zjf {l : List Int} {i : Nat} (h : i < l.length) : encI l ≠ [] := by
 intro e
 have := congrArg List.length e
 simp [encI] at this
 subst this
 simp at h
theorem zc6 (l : List Int) (x : Int) : encI (l ++ [x]) = encI l ++ [.int .i64 x] := by simp [encI]
theorem zl1 {l : List Int} : ∀ p ∈ encI l, zgU p = true := fun p h => by
 simp only [encI, List.mem_map] at h
 obtain ⟨x, _, rfl⟩ := h
 rfl
theorem Ok.slc1 {P : Program} {f : FuncId} {n : Nat} {full : Bool} {cs : List PV} {out : AV} {Hout : List VObj} {mv : List Nat} (h1 : n = 0 → cs = [] → Ok P f [.pv .nils] [] out Hout mv) (h2 : Ok P f [.pv (.nnl n cs)] [] out Hout mv) : Ok P f [.pv (.slc n full cs)] [] out Hout mv := by
 intro c w vals hargs hrel hnone
 match vals, hargs with
 | [v], hargs =>
  simp only [RepL, Rep, RepP, and_true] at hargs
  obtain ⟨a, cap, hv, hn, hm, hf, hc⟩ := hargs
  cases a with
  | none =>
   rcases hc with ⟨h3, h4⟩ | ⟨b, off, h3, _⟩
   ·exact h1 h3 h4 c w [v] (by simp only [RepL, Rep, RepP, and_true]; exact ⟨cap, by rw [hv, h3]⟩) hrel hnone
   ·cases h3
  | some b =>
   refine h2 c w [v] ?_ hrel hnone
   simp only [RepL, Rep, RepP, and_true]
   refine ⟨b, cap, hv, hn, hm, hc.imp id ?_⟩
   rintro ⟨k, off, h3, h4⟩
   exact ⟨k, off, by cases h3; rfl, h4⟩
 | [], h => simp [RepL] at h
 | _ :: _ :: _, h => simp [RepL] at h
section
variable {P : Program} {ops : Array Oper} {dr : Bool} {j : Nat} {d : Nat} {op : Op} {type : TypeId} {pos : String} {after : Array Edge} {r : List Oper} {T : Tm} {H : Heap} {nx : Nat} {mv : List Nat} {nt lo : Nat} {Q : St → Prop} {c : Prop} {v : AV}
theorem zl {o : BinOp} {t u : TypeId} {x y : Operand} {a b : AV} (hn : ziX y = false) (hx : St.ev ⟨T, H, nx, mv, nt, lo⟩ x = some a) (hy : St.ev ⟨T, H, nx, mv, nt, lo⟩ y = some b) (hb : bin P o t a b = some (c, v)) (hd : Nat.blt d nt = true) (hc : c)
  (h : zY P ops dr (j + 1) r ⟨(d, v) :: T, H, nx, mv, nt, lo⟩ Q) : zY P ops dr j ({ dst := some d, op := .binOp o t x y u, type := type, pos := pos, after := after, guard := none } :: r) ⟨T, H, nx, mv, nt, lo⟩ Q := by
 refine za (c := c) ?_ hd hc h
 simp only [zcp, hn, hx, hy, hb, Option.map_some]
theorem zcw {t u : TypeId} {x y : Operand} {xs ys : List AV} {ks : List SK} {b : Bool} (hn : ziX y = false) (hx : St.ev ⟨T, H, nx, mv, nt, lo⟩ x = some (.agg xs)) (hy : St.ev ⟨T, H, nx, mv, nt, lo⟩ y = some (.agg ys)) (hk : eqOk P t = some ks) (ha : tagg P t = some true) (hkx : zdL xs = some ks) (hky : zdL ys = some ks) (hr : zeb xs ys = some b)
  (hd : Nat.blt d nt = true) (h : zY P ops dr (j + 1) r ⟨(d, .pv (.bool !b)) :: T, H, nx, mv, nt, lo⟩ Q) : zY P ops dr j ({ dst := some d, op := .binOp .neq t x y u, type := type, pos := pos, after := after, guard := none } :: r) ⟨T, H, nx, mv, nt, lo⟩ Q := by
 refine zl (v := .pv (.bool !b)) (c := True) hn hx hy ?_ hd trivial h
 simp only [bin, eqA, hk, hkx, hky, hr, ha, and_self, if_true, Option.map_some]
theorem zf4 {t u : TypeId} {x y : Operand} {xs ys : List AV} {ks : List SK} {b : Bool} (hn : ziX y = false) (hx : St.ev ⟨T, H, nx, mv, nt, lo⟩ x = some (.agg xs)) (hy : St.ev ⟨T, H, nx, mv, nt, lo⟩ y = some (.agg ys)) (hk : eqOk P t = some ks) (ha : tagg P t = some true) (hkx : zdL xs = some ks) (hky : zdL ys = some ks) (hr : zeb xs ys = some b)
  (hd : Nat.blt d nt = true) (h : zY P ops dr (j + 1) r ⟨(d, .pv (.bool b)) :: T, H, nx, mv, nt, lo⟩ Q) : zY P ops dr j ({ dst := some d, op := .binOp .eql t x y u, type := type, pos := pos, after := after, guard := none } :: r) ⟨T, H, nx, mv, nt, lo⟩ Q := by
 refine zl (v := .pv (.bool b)) (c := True) hn hx hy ?_ hd trivial h
 simp only [bin, eqA, hk, hkx, hky, hr, ha, and_self, if_true, Option.map_some]
theorem zS {t e : TypeId} {x i : Operand} {s n k : Nat} {full : Bool} {cs : List PV} {kk : IntKind} (hx : St.ev ⟨T, H, nx, mv, nt, lo⟩ x = some (.pv (.slc n full cs))) (hi : St.ev ⟨T, H, nx, mv, nt, lo⟩ i = some (.pv (.int kk (k : Int)))) (ht : zcE P t = some e) (hs : tsz P e = some s)
  (hk : k < n) (hne : cs ≠ []) (hd : Nat.blt d nt = true) (h : zY P ops dr (j + 1) r ⟨(d, .pptr cs (k * s)) :: T, H, nx, mv, nt, lo⟩ Q) :
  zY P ops dr j ({ dst := some d, op := .indexAddr t x i, type := type, pos := pos, after := after, guard := none } :: r) ⟨T, H, nx, mv, nt, lo⟩ Q := by
 refine za (c := 0 ≤ (k : Int) ∧ (k : Int) < n ∧ cs ≠ []) ?_ hd ⟨by omega, by omega, hne⟩ h
 simp only [zcp, hx, hi, intA, zlb, ht, hs, Option.map_some, Int.toNat_natCast]
end
end Go.Proofs.YtppnccjeggnllaaGreatVm

import Derived.Test.YtppnccjeggnllaaGreatBlobw
namespace Go.Proofs.YtppnccjeggnllaaGreat
open Go Go.RowKit Go.Proofs.YtppnccjeggnllaaGreatVm
attribute [local irreducible] zY zaM OpsS
set_option maxHeartbeats 400000
set_option maxRecDepth 100000
set_option linter.all false

theorem zgq (n : Int) : 0 ≤ IntKind.u64.wrap n ∧ IntKind.u64.wrap n < 18446744073709551616 := by
  have e : IntKind.u64.wrap n = n % 18446744073709551616 := by simp [IntKind.wrap, IntKind.bits, IntKind.signed]
  rw [e]; exact ⟨Int.emod_nonneg _ (by decide), Int.emod_lt_of_pos _ (by decide)⟩
theorem shr7 {n : Int} (h : 0 ≤ n) : shrK .u64 n 7 = n / 128 := by
  unfold shrK; rw [show (2 : Int) ^ (min (7 : Int).toNat IntKind.u64.bits) = 128 from rfl, Int.fdiv_eq_ediv_of_nonneg _ (by decide)]
theorem zpy {n : Int} {f : Nat} (h0 : 0 ≤ n) (h : n.toNat < 128 ^ (f + 1)) : (n / 128).toNat < 128 ^ f ∧ 0 ≤ n / 128 := by
  have h1 : n / 128 * 128 ≤ n := Int.ediv_mul_le n (by decide)
  have h2 : (0 : Int) ≤ n / 128 := Int.ediv_nonneg h0 (by decide)
  rw [Nat.pow_succ] at h
  refine ⟨?_, h2⟩
  omega
theorem zq3 {n : Int} {f : Nat} (h0 : n > 127) (h : n.toNat < 128 ^ (f + 1)) : 0 < f := by
  rcases Nat.eq_zero_or_pos f with rfl | h1
  · simp at h; omega
  · exact h1
theorem zqW {n : Int} (h : 0 ≤ n ∧ n < 18446744073709551616) : n.toNat < 128 ^ 10 := by
  have : (128 : Nat) ^ 10 = 1180591620717411303424 := by decide
  omega


def fold (n : Int) : Int :=
  (xorK IntKind.u64 (shlK IntKind.u64 (IntKind.u64.wrap n) 1) (IntKind.u64.wrap (shrK IntKind.i64 n 63)))
theorem zq7 (n : Int) : Ok Tryz.prog 72 [I n] [] (.pv (.int .u64 (fold n))) [] [] := by
 refine zz Tryz.func72 rfl ?_
 show zO Tryz.prog _ _ ⟨[(0, I n)], [], 0, [], 10, 0⟩
 refine zd (zb rfl (za rfl rfl trivial (zc (ze (zd (zb rfl (za rfl rfl trivial (za rfl rfl trivial ?_))))))))
 refine zl rfl rfl rfl rfl rfl (by first | decide | omega | (show (0 : Int) ≤ IntKind.i64.wrap _; rw [zb1 (by omega) (by omega)]; omega) | simp_all) ?_
 refine za rfl rfl trivial ?_
 refine zl rfl rfl rfl rfl rfl (by first | decide | omega | (show (0 : Int) ≤ IntKind.i64.wrap _; rw [zb1 (by omega) (by omega)]; omega) | simp_all) ?_
 refine za rfl rfl trivial (zl rfl rfl rfl rfl rfl trivial (za rfl rfl trivial (zc (ze (zo ?_)))))
 have e3 : fold n = (xorK IntKind.u64 (shlK IntKind.u64 (IntKind.u64.wrap n) 1) (IntKind.u64.wrap (shrK IntKind.i64 n 63))) := by
  unfold fold
  try dsimp only
  all_goals rfl
 rw [e3]
 exact zp rfl ⟨trivial, trivial⟩ (rfl) rfl

def unfo (n : Int) : Int :=
  (xorK IntKind.i64 (IntKind.i64.wrap (shrK IntKind.u64 n 1)) (IntKind.i64.wrap (0 - (IntKind.i64.wrap (andK IntKind.u64 n 1)))))
theorem zqB (n : Int) : Ok Tryz.prog 113 [.pv (.int .u64 n)] [] (I (unfo n)) [] [] := by
 refine zz Tryz.func113 rfl ?_
 show zO Tryz.prog _ _ ⟨[(0, .pv (.int .u64 n))], [], 0, [], 11, 0⟩
 refine zd (zb rfl (za rfl rfl trivial (zc (ze (zd (zb rfl (za rfl rfl trivial ?_)))))))
 refine zl rfl rfl rfl rfl rfl (by first | decide | omega | (show (0 : Int) ≤ IntKind.i64.wrap _; rw [zb1 (by omega) (by omega)]; omega) | simp_all) ?_
 refine za rfl rfl trivial (za rfl rfl trivial (zl rfl rfl rfl rfl rfl trivial (za rfl rfl trivial (za rfl rfl trivial (zl rfl rfl rfl rfl rfl trivial (za rfl rfl trivial (zc (ze (zo ?_)))))))))
 have e3 : unfo n = (xorK IntKind.i64 (IntKind.i64.wrap (shrK IntKind.u64 n 1)) (IntKind.i64.wrap (0 - (IntKind.i64.wrap (andK IntKind.u64 n 1))))) := by
  unfold unfo
  try dsimp only
  all_goals rfl
 rw [e3]
 exact zp rfl ⟨trivial, trivial⟩ (rfl) rfl

def zcV : Nat → (List UInt8) → Int → (List UInt8) × Int
  | 0, _, _ => default
  | n_ + 1, b0, n0 => if (n0 : Int) > 127 then zcV n_ (b0 ++ [((by8 n0) ||| (128 : UInt8))]) (shrK IntKind.u64 n0 7) else (b0, n0)
def put (b : List UInt8) (n : Int) : List UInt8 :=
  (match zcV (10) b n with
    | (b_0, n_0) => (b_0 ++ [(by8 n_0)]))
theorem zqg (b : List UInt8) (n : Int) (hb : b.length ≤ 16000000) (hn : 0 ≤ n ∧ n < 18446744073709551616) : Ok Tryz.prog 71 [.ref 0 1 0 b.length, .pv (.int .u64 n)] [.row 5 1 (encY b)] (.ref 0 1 0 (put b n).length) [.row 5 1 (encY (put b n))] [0] := by
 refine zz Tryz.func71 rfl ?_
 show zO Tryz.prog _ _ ⟨[(0, .ref 0 1 0 b.length), (1, .pv (.int .u64 n))], [(0, .row 5 1 (encY b))], 1, [], 20, 1⟩
 refine zd (zb rfl (zB (nx' := 2) rfl rfl rfl trivial (zc (ze (zd ?_)))))
 refine z6 (fun w_ : (List UInt8) × Int => match w_ with | (b_0, n_0) => (⟨[(0, .ref 0 1 0 b_0.length), (1, .pv (.int .u64 n_0))], [(0, .row 5 1 (encY b_0))], 1, [0], 20, 1⟩ : St)) (fun w_ : (List UInt8) × Int => match w_ with | (b_0, n_0) => zcV (10) b n = (b_0, n_0) ∧ (b_0.length ≤ 16000010)) ?_ ?_
 ·refine zC ?_
  refine z9 (fun w_ : Nat × (List UInt8) × Int => match w_ with | (f0, b0, n0) => (⟨[(0, .ref 0 1 0 b0.length), (1, .pv (.int .u64 n0))], [(0, .row 5 1 (encY b0))], 1, [0], 20, 1⟩ : St)) (fun w_ : Nat × (List UInt8) × Int => match w_ with | (f0, b0, n0) => zcV f0 b0 n0 = zcV (10) b n ∧ 0 < f0 ∧ n0.toNat < 128 ^ f0 ∧ 0 ≤ n0 ∧ b0.length + f0 ≤ 16000010) (fun w_ : Nat × (List UInt8) × Int => match w_ with | (f0, b0, n0) => f0) (10, b, n) (⟨rfl, (by first | omega | (simp; omega)), ⟨zqW hn, hn.1, by omega⟩⟩) ?_ (fun w_ hh_ => ?_)
  ·exact (zH.ren [] (by decide +kernel) (by decide +kernel) rfl ⟨⟨rfl, rfl⟩, ⟨rfl, rfl⟩, trivial⟩ ⟨⟨rfl, rfl, rfl⟩, trivial⟩ (by decide))
  obtain ⟨f0, b0, n0⟩ := w_
  obtain ⟨hI0, hb0, hv0⟩ := hh_
  obtain ⟨f0, rfl⟩ : ∃ z_, f0 = z_ + 1 := ⟨f0 - 1, by omega⟩
  show zO Tryz.prog _ _ (⟨[(0, .ref 0 1 0 b0.length), (1, .pv (.int .u64 n0))], [(0, .row 5 1 (encY b0))], 1, [0], 20, 1⟩ : St)
  refine zd (zd (zb rfl (za rfl rfl trivial (zl rfl rfl rfl rfl rfl trivial (zc (ze ?_))))))
  refine zy rfl (fun h3 => ?_) (fun h3 => ?_)
  ·have g3 : (n0 : Int) > 127 := of_decide_eq_true h3
   refine zA (ze (zd (zC (zb rfl (za rfl rfl trivial (za rfl rfl trivial (za rfl rfl trivial ?_)))))))
   refine zq0 (zqM n0) ?_
   refine zl rfl rfl rfl rfl rfl trivial ?_
   refine zq0 (or8 (by8 n0) (128 : UInt8)) ?_
   refine zB (o := .row _ _ [_]) (nx' := 2) rfl rfl rfl (by decide) ?_
   refine z3 (m := 1) (new := [_]) (cs' := encY (b0 ++ [((by8 n0) ||| (128 : UInt8))])) (n' := (b0 ++ [((by8 n0) ||| (128 : UInt8))]).length) (H' := [(1, .row _ _ _), (0, .row _ _ _)]) rfl rfl rfl (rfl) rfl rfl rfl rfl rfl rfl (zm b0) (rfl) (by first | decide | (unfold zM; omega) | (unfold zM; simp; omega) | (unfold zM; simp only [List.length_append, List.length_take, List.length_drop, List.length_cons, List.length_nil, IntKind.wrap_i64] at *; omega)) (zbt b0 _) (((zj0 b0 ((by8 n0) ||| (128 : UInt8)))).symm) (.inl rfl) rfl rfl (.keep rfl (.keep rfl .nil)) (.keep rfl (.keep rfl (.keep rfl (.keep rfl (.lose (v' := .undef) rfl (.keep rfl (.keep rfl (.lose (v' := .undef) rfl (.keep rfl .nil))))))))) ?_
   refine za rfl rfl trivial (zc (zar (ze (zb rfl (za rfl rfl trivial ?_)))))
   refine zl rfl rfl rfl rfl rfl (by first | decide | omega | (show (0 : Int) ≤ IntKind.i64.wrap _; rw [zb1 (by omega) (by omega)]; omega) | simp_all) ?_
   refine za rfl rfl trivial (zc ?_)
   have e5 : zcV (f0 + 1) b0 n0 = zcV f0 (b0 ++ [((by8 n0) ||| (128 : UInt8))]) (shrK IntKind.u64 n0 7) := by
    rewrite [zcV]
    try dsimp only
    rewrite [if_pos g3]
    all_goals rfl
   have hq : (shrK .u64 n0 7).toNat < 128 ^ f0 ∧ 0 ≤ shrK .u64 n0 7 := by rw [shr7 hv0.2.1]; exact zpy hv0.2.1 hv0.1
   exact z5 (f0, (b0 ++ [((by8 n0) ||| (128 : UInt8))]), (shrK IntKind.u64 n0 7)) ⟨e5.symm.trans hI0, (zq3 (f := f0) (by omega) hv0.1), ⟨hq.1, hq.2, by simp only [List.length_append, List.length_cons, List.length_nil]; omega⟩⟩ (Nat.lt_succ_self _) (zH.ren [] (by decide +kernel) (by decide +kernel) rfl ⟨⟨rfl, rfl⟩, ⟨rfl, rfl⟩, trivial⟩ ⟨⟨rfl, rfl, rfl⟩, trivial⟩ (by decide))
  ·have g3 : ¬ ((n0 : Int) > 127) := of_decide_eq_false h3
   refine zV (zac (zal (zak rfl ?_)))
   have e6 : zcV (10) b n = (b0, n0) := by
    rewrite [← hI0]
    rewrite [zcV]
    try dsimp only
    rewrite [if_neg g3]
    all_goals rfl
   exact zZ (b0, n0) ⟨e6, by first | assumption | omega | (simp; omega) | simp_all | grind⟩ (zH.ren [] (by decide +kernel) (by decide +kernel) rfl ⟨⟨rfl, rfl⟩, ⟨rfl, rfl⟩, trivial⟩ ⟨⟨rfl, rfl, rfl⟩, trivial⟩ (by decide))
 ·rintro ⟨b_0, n_0⟩ ⟨(hJ1 : zcV (10) b n = (b_0, n_0)), hE0⟩
  show seqK _ _ _ .normal (⟨[(0, .ref 0 1 0 b_0.length), (1, .pv (.int .u64 n_0))], [(0, .row 5 1 (encY b_0))], 1, [0], 20, 1⟩ : St)
  refine ze (zd (zb rfl (za rfl rfl trivial (za rfl rfl trivial (za rfl rfl trivial ?_)))))
  refine zq0 (zqM n_0) ?_
  refine zB (o := .row _ _ [_]) (nx' := 2) rfl rfl rfl (by decide) ?_
  refine z3 (m := 1) (new := [_]) (cs' := encY (b_0 ++ [(by8 n_0)])) (n' := (b_0 ++ [(by8 n_0)]).length) (H' := [(1, .row _ _ _), (0, .row _ _ _)]) rfl rfl rfl (rfl) rfl rfl rfl rfl rfl rfl (zm b_0) (rfl) (by first | decide | (unfold zM; omega) | (unfold zM; simp; omega) | (unfold zM; simp only [List.length_append, List.length_take, List.length_drop, List.length_cons, List.length_nil, IntKind.wrap_i64] at *; omega)) (zbt b_0 _) (((zj0 b_0 (by8 n_0))).symm) (.inl rfl) rfl rfl (.keep rfl (.keep rfl .nil)) (.keep rfl (.keep rfl (.keep rfl (.lose (v' := .undef) rfl (.lose (v' := .undef) rfl (.keep rfl .nil)))))) ?_
  refine za rfl rfl trivial (zc (ze (zo ?_)))
  have e8 : put b n = (b_0 ++ [(by8 n_0)]) := by
   unfold put
   try dsimp only
   rewrite [hJ1]
   try dsimp only
   all_goals rfl
  rw [e8]
  exact zL [] [] rfl ⟨trivial, trivial⟩ rfl (by (repeat' apply And.intro) <;> first | trivial | rfl | exact zi (fun _ => rfl) _ | exact zk _ | exact zn _ | exact zm _ | assumption) (rfl) rfl rfl rfl (by decide) rfl rfl ⟨⟨rfl, rfl⟩, trivial⟩

def zeA : Nat → (List UInt8) → Int → (List UInt8) × Int
  | 0, _, _ => default
  | n_ + 1, b0, n0 => if (n0 : Int) ≥ 128 then zeA n_ (b0 ++ [(by8 (IntKind.u64.wrap (128 + ((n0 : Int).tmod 128))))]) (IntKind.u64.wrap ((n0 : Int).tdiv 128)) else (b0, n0)
def signed (n : Int) : Int :=
  if (n : Int) < 0 then (IntKind.u64.wrap ((IntKind.u64.wrap (2 * (IntKind.u64.wrap (IntKind.i64.wrap (0 - (IntKind.i64.wrap (n + 1))))))) + 1)) else (IntKind.u64.wrap (2 * (IntKind.u64.wrap n)))
theorem ziv : ∀ (f : Nat) (b : List UInt8) (n : Int), (zcV f b n).1.length ≤ b.length + f
  | 0, b, n => by simp [zcV]; show (default : List UInt8).length ≤ _; exact Nat.zero_le _
  | f + 1, b, n => by
    rw [zcV]
    split
    · have := ziv f (b ++ [((by8 n) ||| (128 : UInt8))]) (shrK IntKind.u64 n 7)
      simp only [List.length_append, List.length_cons, List.length_nil] at this; omega
    · show b.length ≤ _; omega
theorem ziY (b : List UInt8) (n : Int) : (put b n).length ≤ b.length + 11 := by
  have := ziv 10 b n
  unfold put; simp only [List.length_append, List.length_cons, List.length_nil]; omega
theorem zrF (a b : Int) : 0 ≤ xorK .u64 a b ∧ xorK .u64 a b < 18446744073709551616 := zgq _
theorem znO (n : Int) : 0 ≤ fold n ∧ fold n < 18446744073709551616 := zrF _ _
def putU (b : List UInt8) (n : Int) : List UInt8 :=
  (put b (IntKind.u64.wrap (max n 0)))
theorem zqV (b : List UInt8) (b_f : Bool) (n : Int) (hb : b.length ≤ 4000) : Ok Tryz.prog 70 [.pv (.slc b.length b_f (encY b)), I n] [] (.ref 0 1 0 (putU b n).length) [.row 5 1 (encY (putU b n))] [] := by
 refine Ok.len fun hlen => ?_
 have hl_b : b.length ≤ maxLen := hlen _ (by simp [zT, lens, zU])
 unfold maxLen at hl_b
 refine zz Tryz.func70 rfl ?_
 show zO Tryz.prog _ _ ⟨[(0, .pv (.slc b.length b_f (encY b))), (1, I n)], [], 0, [], 11, 0⟩
 refine zd (zb rfl (zB (nx' := 1) rfl rfl rfl trivial (zc (ze (zd (zb rfl (za rfl rfl trivial ?_)))))))
 refine zcj (out' := .ref 1 _ _ _) (H' := [(1, .row _ _ _), (0, _)]) (nx' := 2) rfl rfl rfl rfl rfl rfl rfl (by (repeat' apply And.intro) <;> first | trivial | rfl | exact zi (fun _ => rfl) _ | exact zk _ | exact zn _ | exact zm _ | exact Nat.le_of_ble_eq_true rfl | assumption) (zkP b false (by first | assumption | omega | (simp; omega) | simp_all)) rfl rfl rfl rfl ?_
 refine za rfl rfl trivial ?_
 refine zoW rfl rfl rfl ?_
 refine za rfl rfl trivial ?_
 refine zas (Hin := [.row _ _ _]) (out' := .ref 1 _ _ _) (H' := [(1, .row _ _ _), (0, .row _ _ _)]) (nx' := 2) [1] rfl rfl rfl rfl (.inl rfl) rfl rfl rfl rfl (zqg b (IntKind.u64.wrap (max n 0)) (by first | omega | (simp; done) | (simp only [List.length_append, List.length_cons, List.length_nil] at *; omega) | (simp; omega)) (by first | assumption | exact zgq _ | exact znO _)) rfl (by decide) rfl rfl (.keep rfl (.keep rfl .nil)) (.keep rfl (.keep rfl (.keep rfl (.lose (v' := .undef) rfl (.keep rfl (.keep rfl (.keep rfl (.keep rfl .nil)))))))) rfl rfl rfl rfl ?_
 have p2 := ziY b (IntKind.u64.wrap (max n 0))
 refine za rfl rfl trivial (zc (ze (zo ?_)))
 have e3 : putU b n = (put b (IntKind.u64.wrap (max n 0))) := by
  unfold putU
  try dsimp only
  all_goals rfl
 rw [e3]
 exact zL [] [1] rfl ⟨trivial, trivial⟩ rfl (by (repeat' apply And.intro) <;> first | trivial | rfl | exact zi (fun _ => rfl) _ | exact zk _ | exact zn _ | exact zm _ | assumption) (rfl) rfl rfl rfl (by decide) rfl rfl ⟨⟨rfl, rfl⟩, trivial⟩

theorem zlR (b : List UInt8) (n : Int) : (putU b n).length ≤ b.length + 11 := ziY _ _

def zbp : List Int → Nat → (List UInt8) → List UInt8
  | [], k0, out0 => out0
  | x0 :: l_, k0, out0 => zbp l_ (k0 + 1) (put out0 (fold x0))
def zji (b : List UInt8) (l : List Int) : List UInt8 :=
  (let out_0 := zbp l 0 (putU b l.length); out_0)
theorem zpX (b : List UInt8) (b_f : Bool) (l : List Int) (l_f : Bool) (hb : b.length ≤ 100) (hl : l.length ≤ 1400000) : Ok Tryz.prog 33 [.pv (.slc b.length b_f (encY b)), .pv (.slc l.length l_f (encI l))] [] (.ref 0 1 0 (zji b l).length) [.row 5 1 (encY (zji b l))] [] := by
 refine Ok.len fun hlen => ?_
 have hl_b : b.length ≤ maxLen := hlen _ (by simp [zT, lens, zU])
 have hl_l : l.length ≤ maxLen := hlen _ (by simp [zT, lens, zU])
 unfold maxLen at hl_b hl_l
 refine zz Tryz.func33 rfl ?_
 show zO Tryz.prog _ _ ⟨[(0, .pv (.slc b.length b_f (encY b))), (1, .pv (.slc l.length l_f (encI l)))], [], 0, [], 24, 0⟩
 refine zd (zb rfl (zB (nx' := 1) rfl rfl rfl trivial (zc (ze (zd (zb rfl (za rfl rfl trivial (za rfl rfl trivial (za rfl rfl trivial ?_)))))))))
 refine zcj (out' := .ref 1 _ _ _) (H' := [(1, .row _ _ _), (0, _)]) (nx' := 2) rfl rfl rfl rfl rfl rfl rfl (by (repeat' apply And.intro) <;> first | trivial | rfl | exact zi (fun _ => rfl) _ | exact zk _ | exact zn _ | exact zm _ | exact Nat.le_of_ble_eq_true rfl | assumption) (zqV b false l.length (by first | omega | (simp; done) | (simp only [List.length_append, List.length_cons, List.length_nil] at *; omega) | (simp; omega))) rfl rfl rfl rfl ?_
 have p1 := zlR b l.length
 refine za rfl rfl trivial (zc (ze (zd (zd (zb rfl (za rfl rfl trivial (za rfl rfl trivial (za rfl rfl trivial (zc (ze ?_))))))))))
 refine z6 (fun out_0 : List UInt8 => (⟨[(5, .ref 0 1 0 out_0.length)], [(0, .row 5 1 (encY out_0))], 1, [], 24, 0⟩ : St)) (fun out_0 : List UInt8 => zbp l 0 (putU b l.length) = out_0 ∧ (out_0.length ≤ b.length + 11 + 11 * l.length)) ?_ ?_
 ·refine zC ?_
  refine z9 (fun w_ : Nat × (List UInt8) => match w_ with | (k0, out0) => (⟨[(5, .ref 0 1 0 out0.length), (12, .pv (.slc l.length l_f (encI l))), (13, I l.length), (14, I k0)], [(0, .row 5 1 (encY out0))], 1, [], 24, 0⟩ : St)) (fun w_ : Nat × (List UInt8) => match w_ with | (k0, out0) => zbp (l.drop k0) k0 out0 = zbp l 0 (putU b l.length) ∧ k0 ≤ l.length ∧ out0.length ≤ b.length + 11 + 11 * k0) (fun w_ : Nat × (List UInt8) => match w_ with | (k0, out0) => l.length - k0) (0, (putU b l.length)) (⟨rfl, Nat.zero_le _, by first | omega | simp | (simp; omega)⟩) ?_ (fun w_ hh_ => ?_)
  ·exact (zH.ren [(0, 1), (1, 0)] (by decide +kernel) (by decide +kernel) rfl ⟨⟨rfl, rfl⟩, ⟨rfl, rfl⟩, ⟨rfl, rfl⟩, ⟨rfl, rfl⟩, trivial⟩ ⟨⟨rfl, rfl, rfl⟩, trivial⟩ (by decide))
  obtain ⟨k0, out0⟩ := w_
  obtain ⟨hI0, hb0, hv0⟩ := hh_
  show zO Tryz.prog _ _ (⟨[(5, .ref 0 1 0 out0.length), (12, .pv (.slc l.length l_f (encI l))), (13, I l.length), (14, I k0)], [(0, .row 5 1 (encY out0))], 1, [], 24, 0⟩ : St)
  refine zd (zb rfl (zl rfl rfl rfl rfl rfl trivial (zc (ze (zd ?_)))))
  refine zy rfl (fun h3 => ?_) (fun h3 => ?_)
  ·have g3 : (k0 : Int) < l.length := of_decide_eq_true h3
   have hk0 : k0 < l.length := by omega
   obtain ⟨x0, hx0⟩ : ∃ z_, l[k0]? = some z_ := ⟨_, List.getElem?_eq_getElem hk0⟩
   refine zA (ze (zd (zC (zd (zb rfl (zS (k := k0) rfl rfl rfl rfl hk0 (zjf hk0) rfl (zaf rfl rfl rfl (zfJ hx0) rfl (za rfl rfl trivial (zc (ze (zb rfl ?_)))))))))))
   refine za rfl rfl trivial (za rfl rfl trivial (zF rfl rfl rfl rfl (zq7 x0) rfl rfl rfl ?_))
   refine zas (Hin := [.row _ _ _]) (out' := .ref 0 _ _ _) (H' := [(0, .row _ _ _)]) (nx' := 1) [0] rfl rfl rfl rfl (.inl rfl) rfl rfl rfl rfl (zqg out0 (fold x0) (by first | omega | (simp; done) | (simp only [List.length_append, List.length_cons, List.length_nil] at *; omega) | (simp; omega)) (by first | assumption | exact zgq _ | exact znO _)) rfl (by decide) rfl rfl (.keep rfl .nil) (.keep rfl (.keep rfl (.lose (v' := .undef) rfl (.keep rfl (.keep rfl (.keep rfl (.keep rfl (.lose (v' := .undef) rfl (.keep rfl (.keep rfl (.keep rfl .nil))))))))))) rfl rfl rfl rfl ?_
   have p5 := ziY out0 (fold x0)
   refine za rfl rfl trivial (zc (zar (ze (zb rfl (zl rfl rfl rfl rfl rfl trivial (za rfl rfl trivial (zc ?_)))))))
   have e7 : zbp (l.drop k0) k0 out0 = zbp (l.drop (k0 + 1)) (k0 + 1) (put out0 (fold x0)) := by
    rewrite [zau hx0]
    rewrite [zbp]
    try dsimp only
    all_goals rfl
   exact z5 (k0 + 1, (put out0 (fold x0))) ⟨e7.symm.trans hI0, hk0, by first | omega | assumption | (simp only [List.length_append, List.length_cons, List.length_nil, List.length_set]; omega) | (simp; omega) | grind⟩ (by show l.length - (k0 + 1) < l.length - k0; omega) (zH.ren [] (by decide +kernel) (by decide +kernel) rfl ⟨⟨rfl, rfl⟩, ⟨rfl, rfl⟩, ⟨rfl, rfl⟩, ⟨congrArg (fun n => some (I n)) (zcv (k := k0) (by first | omega | (simp; omega))), rfl⟩, trivial⟩ ⟨⟨rfl, rfl, rfl⟩, trivial⟩ (by decide))
  ·have g3 : ¬ ((k0 : Int) < l.length) := of_decide_eq_false h3
   have hk0 : k0 = l.length := by omega
   refine zV (zac (zal (zak rfl ?_)))
   have e8 : zbp l 0 (putU b l.length) = out0 := by
    rewrite [← hI0, hk0, List.drop_length]
    rewrite [zbp]
    try dsimp only
    all_goals rfl
   exact zZ out0 ⟨e8, by first | assumption | omega | (simp; omega) | simp_all | grind⟩ (zH.ren [] (by decide +kernel) (by decide +kernel) rfl ⟨⟨rfl, rfl⟩, trivial⟩ ⟨⟨rfl, rfl, rfl⟩, trivial⟩ (by decide))
 ·rintro out_0 ⟨(hJ2 : zbp l 0 (putU b l.length) = out_0), hE0⟩
  show seqK _ _ _ .normal (⟨[(5, .ref 0 1 0 out_0.length)], [(0, .row 5 1 (encY out_0))], 1, [], 24, 0⟩ : St)
  refine ze (zd (zb rfl (za rfl rfl trivial (za rfl rfl trivial (zc (ze (zo ?_)))))))
  have e9 : zji b l = out_0 := by
   unfold zji
   try dsimp only
   rewrite [hJ2]
   try dsimp only
   all_goals rfl
  rw [e9]
  exact zL [] [0] rfl ⟨trivial, trivial⟩ rfl (by (repeat' apply And.intro) <;> first | trivial | rfl | exact zi (fun _ => rfl) _ | exact zk _ | exact zn _ | exact zm _ | assumption) (rfl) rfl rfl rfl (by decide) rfl rfl ⟨⟨rfl, rfl⟩, trivial⟩
end Go.Proofs.YtppnccjeggnllaaGreat

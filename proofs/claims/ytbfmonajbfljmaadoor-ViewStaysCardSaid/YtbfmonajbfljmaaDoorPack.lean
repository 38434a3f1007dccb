import Derived.Test.YtbfmonajbfljmaaDoorIns
namespace Go.Proofs.YtbfmonajbfljmaaDoor
open Go Go.RowKit Go.Proofs.YtbfmonajbfljmaaDoorVm
attribute [local irreducible] opsWp AnswersE OpsS
set_option maxHeartbeats 400000
set_option maxRecDepth 100000
set_option linter.all false

theorem wrapU64_in (n : Int) : 0 ≤ IntKind.u64.wrap n ∧ IntKind.u64.wrap n < 18446744073709551616 := by
  have e : IntKind.u64.wrap n = n % 18446744073709551616 := by simp [IntKind.wrap, IntKind.bits, IntKind.signed]
  rw [e]; exact ⟨Int.emod_nonneg _ (by decide), Int.emod_lt_of_pos _ (by decide)⟩
theorem shr7 {n : Int} (h : 0 ≤ n) : shrK .u64 n 7 = n / 128 := by
  unfold shrK; rw [show (2 : Int) ^ (min (7 : Int).toNat IntKind.u64.bits) = 128 from rfl, Int.fdiv_eq_ediv_of_nonneg _ (by decide)]
theorem dig_step {n : Int} {f : Nat} (h0 : 0 ≤ n) (h : n.toNat < 128 ^ (f + 1)) : (n / 128).toNat < 128 ^ f ∧ 0 ≤ n / 128 := by
  have h1 : n / 128 * 128 ≤ n := Int.ediv_mul_le n (by decide)
  have h2 : (0 : Int) ≤ n / 128 := Int.ediv_nonneg h0 (by decide)
  rw [Nat.pow_succ] at h
  refine ⟨?_, h2⟩
  omega
theorem wrapU64_le {x : Int} (h : 0 ≤ x) : IntKind.u64.wrap x ≤ x := by
  have e : IntKind.u64.wrap x = x % 18446744073709551616 := by simp [IntKind.wrap, IntKind.bits, IntKind.signed]
  rw [e]; omega
theorem dig_stepR {n : Int} {f : Nat} (h0 : 0 ≤ n) (h : n.toNat < 128 ^ (f + 1)) : (IntKind.u64.wrap (n.tdiv 128)).toNat < 128 ^ f ∧ 0 ≤ IntKind.u64.wrap (n.tdiv 128) := by
  rw [Int.tdiv_eq_ediv_of_nonneg h0]
  have h1 := dig_step h0 h
  have h2 := wrapU64_le h1.2
  exact ⟨by omega, (wrapU64_in _).1⟩
theorem dig_pos {n : Int} {f : Nat} (h0 : n > 127) (h : n.toNat < 128 ^ (f + 1)) : 0 < f := by
  rcases Nat.eq_zero_or_pos f with rfl | h1
  · simp at h; omega
  · exact h1
theorem dig_ten {n : Int} (h : 0 ≤ n ∧ n < 18446744073709551616) : n.toNat < 128 ^ 10 := by
  have : (128 : Nat) ^ 10 = 1180591620717411303424 := by decide
  omega


def fold (n : Int) : Int :=
  (xorK IntKind.u64 (shlK IntKind.u64 (IntKind.u64.wrap n) 1) (IntKind.u64.wrap (shrK IntKind.i64 n 63)))
theorem fold_ok (n : Int) : Ok Tryd.prog 43 [I n] [] (.pv (.int .u64 (fold n))) [] [] := by
 refine ok_of_sem Tryd.func43 rfl ?_
 show Walks Tryd.prog _ _ ⟨[(0, I n)], [], 0, [], 10, 0⟩
 refine sem_seq (sem_region rfl (step_r rfl rfl trivial (step_nil (seqK_n (sem_seq (sem_region rfl (step_r rfl rfl trivial (step_r rfl rfl trivial ?_))))))))
 refine step_bin rfl rfl rfl rfl rfl (by first | decide | omega | (show (0 : Int) ≤ IntKind.i64.wrap _; rw [wrap_lt (by omega) (by omega)]; omega) | simp_all) ?_
 refine step_r rfl rfl trivial ?_
 refine step_bin rfl rfl rfl rfl rfl (by first | decide | omega | (show (0 : Int) ≤ IntKind.i64.wrap _; rw [wrap_lt (by omega) (by omega)]; omega) | simp_all) ?_
 refine step_r rfl rfl trivial (step_bin rfl rfl rfl rfl rfl trivial (step_r rfl rfl trivial (step_nil (seqK_n (sem_ret ?_)))))
 have e3 : fold n = (xorK IntKind.u64 (shlK IntKind.u64 (IntKind.u64.wrap n) 1) (IntKind.u64.wrap (shrK IntKind.i64 n 63))) := by
  unfold fold
  try dsimp only
  all_goals rfl
 rw [e3]
 exact answersR rfl ⟨trivial, trivial⟩ (rfl) rfl

def unfo (n : Int) : Int :=
  (xorK IntKind.i64 (IntKind.i64.wrap (shrK IntKind.u64 n 1)) (IntKind.i64.wrap (0 - (IntKind.i64.wrap (andK IntKind.u64 n 1)))))
theorem unfo_ok (n : Int) : Ok Tryd.prog 46 [.pv (.int .u64 n)] [] (I (unfo n)) [] [] := by
 refine ok_of_sem Tryd.func46 rfl ?_
 show Walks Tryd.prog _ _ ⟨[(0, .pv (.int .u64 n))], [], 0, [], 11, 0⟩
 refine sem_seq (sem_region rfl (step_r rfl rfl trivial (step_nil (seqK_n (sem_seq (sem_region rfl (step_r rfl rfl trivial ?_)))))))
 refine step_bin rfl rfl rfl rfl rfl (by first | decide | omega | (show (0 : Int) ≤ IntKind.i64.wrap _; rw [wrap_lt (by omega) (by omega)]; omega) | simp_all) ?_
 refine step_r rfl rfl trivial (step_r rfl rfl trivial (step_bin rfl rfl rfl rfl rfl trivial (step_r rfl rfl trivial (step_r rfl rfl trivial (step_bin rfl rfl rfl rfl rfl trivial (step_r rfl rfl trivial (step_nil (seqK_n (sem_ret ?_)))))))))
 have e3 : unfo n = (xorK IntKind.i64 (IntKind.i64.wrap (shrK IntKind.u64 n 1)) (IntKind.i64.wrap (0 - (IntKind.i64.wrap (andK IntKind.u64 n 1))))) := by
  unfold unfo
  try dsimp only
  all_goals rfl
 rw [e3]
 exact answersR rfl ⟨trivial, trivial⟩ (rfl) rfl

def put_L0 : Nat → (List UInt8) → Int → (List UInt8) × Int
  | 0, _, _ => default
  | n_ + 1, b0, n0 => if (n0 : Int) > 127 then put_L0 n_ (b0 ++ [((by8 n0) ||| (128 : UInt8))]) (shrK IntKind.u64 n0 7) else (b0, n0)
def put (b : List UInt8) (n : Int) : List UInt8 :=
  (match put_L0 (10) b n with
    | (b_0, n_0) => (b_0 ++ [(by8 n_0)]))
theorem put_ok (b : List UInt8) (n : Int) (hb : b.length ≤ 4096) (hn : 0 ≤ n ∧ n < 18446744073709551616) : Ok Tryd.prog 41 [.ref 0 1 0 b.length, .pv (.int .u64 n)] [.row 5 1 (encY b)] (.ref 0 1 0 (put b n).length) [.row 5 1 (encY (put b n))] [0] := by
 refine ok_of_sem Tryd.func41 rfl ?_
 show Walks Tryd.prog _ _ ⟨[(0, .ref 0 1 0 b.length), (1, .pv (.int .u64 n))], [(0, .row 5 1 (encY b))], 1, [], 20, 1⟩
 refine sem_seq (sem_region rfl (step_n (nx' := 2) rfl rfl rfl trivial (step_nil (seqK_n (sem_seq ?_)))))
 refine sem_cutW (fun w_ : (List UInt8) × Int => match w_ with | (b_0, n_0) => (⟨[(0, .ref 0 1 0 b_0.length), (1, .pv (.int .u64 n_0))], [(0, .row 5 1 (encY b_0))], 1, [0], 20, 1⟩ : St)) (fun w_ : (List UInt8) × Int => match w_ with | (b_0, n_0) => put_L0 (10) b n = (b_0, n_0) ∧ (b_0.length ≤ 4106)) ?_ ?_
 ·refine sem_block ?_
  refine sem_loopT (fun w_ : Nat × (List UInt8) × Int => match w_ with | (f0, b0, n0) => (⟨[(0, .ref 0 1 0 b0.length), (1, .pv (.int .u64 n0))], [(0, .row 5 1 (encY b0))], 1, [0], 20, 1⟩ : St)) (fun w_ : Nat × (List UInt8) × Int => match w_ with | (f0, b0, n0) => put_L0 f0 b0 n0 = put_L0 (10) b n ∧ 0 < f0 ∧ n0.toNat < 128 ^ f0 ∧ 0 ≤ n0 ∧ b0.length + f0 ≤ 4106) (fun w_ : Nat × (List UInt8) × Int => match w_ with | (f0, b0, n0) => f0) (10, b, n) (⟨rfl, (by first | omega | (simp; omega)), ⟨dig_ten hn, hn.1, by omega⟩⟩) ?_ (fun w_ hh_ => ?_)
  ·exact (Trans.ren [] (by decide +kernel) (by decide +kernel) rfl ⟨⟨rfl, rfl⟩, ⟨rfl, rfl⟩, trivial⟩ ⟨⟨rfl, rfl, rfl⟩, trivial⟩ (by decide))
  obtain ⟨f0, b0, n0⟩ := w_
  obtain ⟨hI0, hb0, hv0⟩ := hh_
  obtain ⟨f0, rfl⟩ : ∃ z_, f0 = z_ + 1 := ⟨f0 - 1, by omega⟩
  show Walks Tryd.prog _ _ (⟨[(0, .ref 0 1 0 b0.length), (1, .pv (.int .u64 n0))], [(0, .row 5 1 (encY b0))], 1, [0], 20, 1⟩ : St)
  refine sem_seq (sem_seq (sem_region rfl (step_r rfl rfl trivial (step_bin rfl rfl rfl rfl rfl trivial (step_nil (seqK_n ?_))))))
  refine sem_cond rfl (fun h3 => ?_) (fun h3 => ?_)
  ·have g3 : (n0 : Int) > 127 := of_decide_eq_true h3
   refine sem_skip (seqK_n (sem_seq (sem_block (sem_region rfl (step_r rfl rfl trivial (step_r rfl rfl trivial (step_r rfl rfl trivial ?_)))))))
   refine tell8 (conv8 n0) ?_
   refine step_bin rfl rfl rfl rfl rfl trivial ?_
   refine tell8 (or8 (by8 n0) (128 : UInt8)) ?_
   refine step_n (o := .row _ _ [_]) (nx' := 2) rfl rfl rfl (by decide) ?_
   refine step_appendC (m := 1) (new := [_]) (cs' := encY (b0 ++ [((by8 n0) ||| (128 : UInt8))])) (n' := (b0 ++ [((by8 n0) ||| (128 : UInt8))]).length) (H' := [(1, .row _ _ _), (0, .row _ _ _)]) rfl rfl rfl (rfl) rfl rfl rfl rfl rfl rfl (encY_len b0) (rfl) (by first | decide | (unfold maxGrow; omega) | (unfold maxGrow; simp; omega) | (unfold maxGrow; simp only [List.length_append, List.length_take, List.length_drop, List.length_cons, List.length_nil, IntKind.wrap_i64] at *; omega)) (len_snoc b0 _) (((encY_snoc b0 ((by8 n0) ||| (128 : UInt8)))).symm) (.inl rfl) rfl rfl (.keep rfl (.keep rfl .nil)) (.keep rfl (.keep rfl (.keep rfl (.keep rfl (.lose (v' := .undef) rfl (.keep rfl (.keep rfl (.lose (v' := .undef) rfl (.keep rfl .nil))))))))) ?_
   refine step_r rfl rfl trivial (step_nil (blkK_n (seqK_n (sem_region rfl (step_r rfl rfl trivial ?_)))))
   refine step_bin rfl rfl rfl rfl rfl (by first | decide | omega | (show (0 : Int) ≤ IntKind.i64.wrap _; rw [wrap_lt (by omega) (by omega)]; omega) | simp_all) ?_
   refine step_r rfl rfl trivial (step_nil ?_)
   have e5 : put_L0 (f0 + 1) b0 n0 = put_L0 f0 (b0 ++ [((by8 n0) ||| (128 : UInt8))]) (shrK IntKind.u64 n0 7) := by
    rewrite [put_L0]
    try dsimp only
    rewrite [if_pos g3]
    all_goals rfl
   have hq : (shrK .u64 n0 7).toNat < 128 ^ f0 ∧ 0 ≤ shrK .u64 n0 7 := by rw [shr7 hv0.2.1]; exact dig_step hv0.2.1 hv0.1
   exact lup_againT (f0, (b0 ++ [((by8 n0) ||| (128 : UInt8))]), (shrK IntKind.u64 n0 7)) ⟨e5.symm.trans hI0, (dig_pos (f := f0) (by omega) hv0.1), ⟨hq.1, hq.2, by simp only [List.length_append, List.length_cons, List.length_nil]; omega⟩⟩ (Nat.lt_succ_self _) (Trans.ren [] (by decide +kernel) (by decide +kernel) rfl ⟨⟨rfl, rfl⟩, ⟨rfl, rfl⟩, trivial⟩ ⟨⟨rfl, rfl, rfl⟩, trivial⟩ (by decide))
  ·have g3 : ¬ ((n0 : Int) > 127) := of_decide_eq_false h3
   refine sem_exit (seqK_e (lupK_e (blkK_t rfl ?_)))
   have e6 : put_L0 (10) b n = (b0, n0) := by
    rewrite [← hI0]
    rewrite [put_L0]
    try dsimp only
    rewrite [if_neg g3]
    all_goals rfl
   exact cutW_n (b0, n0) ⟨e6, by first | assumption | omega | (simp; omega) | simp_all | grind⟩ (Trans.ren [] (by decide +kernel) (by decide +kernel) rfl ⟨⟨rfl, rfl⟩, ⟨rfl, rfl⟩, trivial⟩ ⟨⟨rfl, rfl, rfl⟩, trivial⟩ (by decide))
 ·rintro ⟨b_0, n_0⟩ ⟨(hJ1 : put_L0 (10) b n = (b_0, n_0)), hE0⟩
  show seqK _ _ _ .normal (⟨[(0, .ref 0 1 0 b_0.length), (1, .pv (.int .u64 n_0))], [(0, .row 5 1 (encY b_0))], 1, [0], 20, 1⟩ : St)
  refine seqK_n (sem_seq (sem_region rfl (step_r rfl rfl trivial (step_r rfl rfl trivial (step_r rfl rfl trivial ?_)))))
  refine tell8 (conv8 n_0) ?_
  refine step_n (o := .row _ _ [_]) (nx' := 2) rfl rfl rfl (by decide) ?_
  refine step_appendC (m := 1) (new := [_]) (cs' := encY (b_0 ++ [(by8 n_0)])) (n' := (b_0 ++ [(by8 n_0)]).length) (H' := [(1, .row _ _ _), (0, .row _ _ _)]) rfl rfl rfl (rfl) rfl rfl rfl rfl rfl rfl (encY_len b_0) (rfl) (by first | decide | (unfold maxGrow; omega) | (unfold maxGrow; simp; omega) | (unfold maxGrow; simp only [List.length_append, List.length_take, List.length_drop, List.length_cons, List.length_nil, IntKind.wrap_i64] at *; omega)) (len_snoc b_0 _) (((encY_snoc b_0 (by8 n_0))).symm) (.inl rfl) rfl rfl (.keep rfl (.keep rfl .nil)) (.keep rfl (.keep rfl (.keep rfl (.lose (v' := .undef) rfl (.lose (v' := .undef) rfl (.keep rfl .nil)))))) ?_
  refine step_r rfl rfl trivial (step_nil (seqK_n (sem_ret ?_)))
  have e8 : put b n = (b_0 ++ [(by8 n_0)]) := by
   unfold put
   try dsimp only
   rewrite [hJ1]
   try dsimp only
   all_goals rfl
  rw [e8]
  exact answersGR [] [] rfl ⟨trivial, trivial⟩ rfl (by (repeat' apply And.intro) <;> first | trivial | rfl | exact flat_len (fun _ => rfl) _ | exact encI_len _ | exact encB_len _ | exact encY_len _ | assumption) (rfl) rfl rfl rfl (by decide) rfl rfl ⟨⟨rfl, rfl⟩, trivial⟩

theorem put_L0_len : ∀ (f : Nat) (b : List UInt8) (n : Int), (put_L0 f b n).1.length ≤ b.length + f
  | 0, b, n => by simp [put_L0]; show (default : List UInt8).length ≤ _; exact Nat.zero_le _
  | f + 1, b, n => by
    rw [put_L0]
    split
    · have := put_L0_len f (b ++ [((by8 n) ||| (128 : UInt8))]) (shrK IntKind.u64 n 7)
      simp only [List.length_append, List.length_cons, List.length_nil] at this; omega
    · show b.length ≤ _; omega
theorem put_len (b : List UInt8) (n : Int) : (put b n).length ≤ b.length + 11 := by
  have := put_L0_len 10 b n
  unfold put; simp only [List.length_append, List.length_cons, List.length_nil]; omega
theorem xor_in (a b : Int) : 0 ≤ xorK .u64 a b ∧ xorK .u64 a b < 18446744073709551616 := wrapU64_in _
theorem fold_in (n : Int) : 0 ≤ fold n ∧ fold n < 18446744073709551616 := xor_in _ _


def putI (b : List UInt8) (n : Int) : List UInt8 :=
  (put b (fold n))
theorem putI_ok (b : List UInt8) (b_f : Bool) (n : Int) (hb : b.length ≤ 4000) : Ok Tryd.prog 29 [.pv (.slc b.length b_f (encY b)), I n] [] (.ref 0 1 0 (putI b n).length) [.row 5 1 (encY (putI b n))] [] := by
 refine Ok.len fun hlen => ?_
 have hl_b : b.length ≤ maxLen := hlen _ (by simp [lensL, lens, lensP])
 unfold maxLen at hl_b
 refine ok_of_sem Tryd.func29 rfl ?_
 show Walks Tryd.prog _ _ ⟨[(0, .pv (.slc b.length b_f (encY b))), (1, I n)], [], 0, [], 10, 0⟩
 refine sem_seq (sem_region rfl (step_n (nx' := 1) rfl rfl rfl trivial (step_nil (seqK_n (sem_seq (sem_region rfl (step_r rfl rfl trivial ?_)))))))
 refine step_callN (out' := .ref 1 _ _ _) (H' := [(1, .row _ _ _), (0, _)]) (nx' := 2) rfl rfl rfl rfl rfl rfl rfl (by (repeat' apply And.intro) <;> first | trivial | rfl | exact flat_len (fun _ => rfl) _ | exact encI_len _ | exact encB_len _ | exact encY_len _ | exact Nat.le_of_ble_eq_true rfl | assumption) (clone_UInt8 b false (by first | assumption | omega | (simp; omega) | simp_all)) rfl rfl rfl rfl ?_
 refine step_r rfl rfl trivial (step_call rfl rfl rfl rfl (fold_ok n) rfl rfl rfl ?_)
 refine step_callV (Hin := [.row _ _ _]) (out' := .ref 1 _ _ _) (H' := [(1, .row _ _ _), (0, .row _ _ _)]) (nx' := 2) [1] rfl rfl rfl rfl (.inl rfl) rfl rfl rfl rfl (put_ok b (fold n) (by first | assumption | omega) (fold_in _)) rfl (by decide) rfl rfl (.keep rfl (.keep rfl .nil)) (.keep rfl (.keep rfl (.lose (v' := .undef) rfl (.keep rfl (.keep rfl (.keep rfl (.keep rfl .nil))))))) rfl rfl rfl rfl ?_
 refine step_r rfl rfl trivial (step_nil (seqK_n (sem_ret ?_)))
 have e2 : putI b n = (put b (fold n)) := by
  unfold putI
  try dsimp only
  all_goals rfl
 rw [e2]
 exact answersGR [] [1] rfl ⟨trivial, trivial⟩ rfl (by (repeat' apply And.intro) <;> first | trivial | rfl | exact flat_len (fun _ => rfl) _ | exact encI_len _ | exact encB_len _ | exact encY_len _ | assumption) (rfl) rfl rfl rfl (by decide) rfl rfl ⟨⟨rfl, rfl⟩, trivial⟩
end Go.Proofs.YtbfmonajbfljmaaDoor

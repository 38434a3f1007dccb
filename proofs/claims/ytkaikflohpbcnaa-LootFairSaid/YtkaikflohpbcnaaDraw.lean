import Derived.Test.YtkaikflohpbcnaaSl
namespace Go.Proofs.Ytkaikflohpbcnaa
open Go Go.RowKit Go.Proofs.YtkaikflohpbcnaaVm
attribute [local irreducible] opsWp AnswersE OpsS
set_option maxHeartbeats 400000
set_option maxRecDepth 100000
set_option linter.all false
def wordB (x : Int) : Prop := 0 ≤ x ∧ x < 4294967296
instance (x : Int) : Decidable (wordB x) := by unfold wordB; infer_instance
/-- the first word that counts: its part, how many were used -/
def fairGo (n : Int) : Int → List Int → Int × Int × Bool
  | _, [] => (0, 0, false)
  | k, x :: l => if ¬ wordB x then (0, 0, false) else if x < 4294967296 - (4294967296 : Int).tmod n then (x.tmod n, k + 1, true) else fairGo n (k + 1) l
def fairM (words : List Int) (n : Int) : Int × Int × Bool := if n < 1 ∨ n > 4294967296 then (0, 0, false) else fairGo n 0 words

theorem word_ok (n : Int) : Ok Try.prog 37 [I n] [] (B (decide (wordB n))) [] [] := by
 refine ok_of_sem Try.func37 rfl ?_
 show Walks Try.prog _ _ ⟨[(0, I n)], [], 0, [], 9, 0⟩
 refine sem_seq (sem_region rfl (step_r rfl rfl trivial (step_nil (seqK_n (sem_seq (sem_region rfl (step_r rfl rfl trivial (step_bin rfl rfl rfl rfl rfl trivial (step_r rfl rfl trivial ?_)))))))))
 refine step_gs rfl (fun h3 => ?_) (fun h3 => ?_)
 ·have g3 := h3
  try simp at g3
  refine step_g1 rfl h3 (step_r rfl rfl trivial (step_g1 rfl h3 (step_bin rfl rfl rfl rfl rfl trivial (step_pickT rfl h3 rfl rfl (step_r rfl rfl trivial (step_nil (seqK_n (sem_ret ?_))))))))
  refine answersR (vs := [_]) rfl ⟨trivial, trivial⟩ (congrArg B ?_) rfl
  first
   | rfl
   | (exfalso; omega)
   | (simp [wordB, g3]; done)
   | (rw [Bool.eq_iff_iff]; simp [wordB, g3]; done)
   | (rw [Bool.eq_iff_iff]; simp [wordB, g3]; omega)
   | grind [wordB]
 ·have g3 := h3
  try simp at g3
  refine step_g0 rfl h3 rfl (step_g0 rfl h3 rfl (step_pickF rfl h3 rfl rfl (step_r rfl rfl trivial (step_nil (seqK_n (sem_ret ?_))))))
  refine answersR (vs := [_]) rfl ⟨trivial, trivial⟩ (congrArg B ?_) rfl
  first
   | rfl
   | (exfalso; omega)
   | (simp [wordB, g3]; done)
   | (rw [Bool.eq_iff_iff]; simp [wordB, g3]; done)
   | (rw [Bool.eq_iff_iff]; simp [wordB, g3]; omega)
   | grind [wordB]

theorem wrapK2 {k n : Nat} (h : k < n) (hn : n ≤ maxLen) : IntKind.i64.wrap ((k : Int) + 1) = (k : Int) + 1 := by rw [wrapK h hn]; omega

theorem same02_ok (a : List Int) (a_f : Bool) (b : List Int) (b_f : Bool) : Ok Try.prog 20 [.pv (.slc a.length a_f (encI a)), .pv (.slc b.length b_f (encI b))] [] (B (decide (a = b))) [] [] := by
 refine Ok.len fun hlen => ?_
 have hl_a : a.length ≤ maxLen := hlen _ (by simp [lensL, lens, lensP])
 have hl_b : b.length ≤ maxLen := hlen _ (by simp [lensL, lens, lensP])
 unfold maxLen at hl_a hl_b
 refine ok_of_sem Try.func20 rfl ?_
 show Walks Try.prog _ _ ⟨[(0, .pv (.slc a.length a_f (encI a))), (1, .pv (.slc b.length b_f (encI b)))], [], 0, [], 26, 0⟩
 refine sem_seq (sem_region rfl (step_r rfl rfl trivial (step_nil (seqK_n (sem_seq (sem_seq (sem_region rfl (step_r rfl rfl trivial (step_r rfl rfl trivial (step_r rfl rfl trivial (step_r rfl rfl trivial ?_)))))))))))
 refine step_bin rfl rfl rfl rfl rfl trivial (step_nil (seqK_n ?_))
 refine sem_cond rfl (fun h1 => ?_) (fun h1 => ?_)
 ·skip
  refine sem_seq (sem_region rfl (step_r rfl rfl trivial (step_nil (seqK_n (sem_ret (seqK_r ?_))))))
  have hne : ¬ a.length = b.length := by
   have h := h1; simp at h; omega
  exact answersR rfl (by simp) (congrArg B (decide_eq_false (fun e => hne (by rw [e]))).symm) rfl
 ·have hlen : a.length = b.length := by
   have h := h1; simp at h; omega
  refine sem_skip (seqK_n (sem_seq (sem_seq (sem_region rfl (step_r rfl rfl trivial (step_nil (seqK_n (sem_block ?_))))))))
  refine sem_loop_of (fun k : Nat => (⟨[(0, .pv (.slc a.length a_f (encI a))), (1, .pv (.slc b.length b_f (encI b))), (5, I k)], [], 0, [], 26, 0⟩ : St)) (fun k : Nat => k ≤ a.length ∧ a.take k = b.take k) (fun k : Nat => a.length - k) 0 (⟨Nat.zero_le _, rfl⟩) (less_of rfl ⟨⟨rfl, rfl⟩, ⟨rfl, rfl⟩, ⟨rfl, rfl⟩, trivial⟩ trivial (fun _ _ => .inr (Nat.zero_le _))) (fun k hI => ?_)
  show Walks Try.prog _ _ (⟨[(0, .pv (.slc a.length a_f (encI a))), (1, .pv (.slc b.length b_f (encI b))), (5, I k)], [], 0, [], 26, 0⟩ : St)
  refine sem_seq (sem_seq (sem_region rfl (step_r rfl rfl trivial (step_r rfl rfl trivial (step_r rfl rfl trivial (step_bin rfl rfl rfl rfl rfl trivial (step_nil (seqK_n ?_))))))))
  refine sem_cond rfl (fun h3 => ?_) (fun h3 => ?_)
  ·have hk : k < a.length := by simpa using h3
   have hk2 : k < b.length := by omega
   obtain ⟨x, hx⟩ : ∃ x, a[k]? = some x := ⟨_, List.getElem?_eq_getElem hk⟩
   obtain ⟨y, hy⟩ : ∃ y, b[k]? = some y := ⟨_, List.getElem?_eq_getElem hk2⟩
   refine sem_skip (seqK_n (sem_seq (sem_block (sem_seq ?_))))
   refine sem_drawn rfl (by decide +kernel) rfl ?_
   refine step_r rfl rfl trivial (step_r rfl rfl trivial (step_idxS (k := k) rfl rfl rfl rfl hk (encI_ne hk) rfl (step_load_one rfl rfl rfl (encI_get hx) rfl (step_r rfl rfl trivial (step_r rfl rfl trivial (step_idxS (k := k) rfl rfl rfl rfl hk2 (encI_ne hk2) rfl (step_load_one rfl rfl rfl (encI_get hy) rfl (step_bin rfl rfl rfl rfl rfl trivial (step_nil (seqK_n ?_))))))))))
   refine sem_cond rfl (fun h4 => ?_) (fun h4 => ?_)
   ·have hne : x ≠ y := by
     intro e; subst e; simp at h4
    refine sem_seq (sem_region rfl (step_r rfl rfl trivial (step_nil (seqK_n (sem_ret (blkK_r (seqK_r (lupK_r (blkK_r (seqK_r ?_))))))))))
    exact answersR rfl (by simp) (congrArg B (decide_eq_false (same_no hx hy hne)).symm) rfl
   ·have hxy : x = y := by
     have h := h4
     simp at h
     simpa using h
    refine sem_skip (blkK_n (seqK_n (sem_region rfl (step_r rfl rfl trivial (step_bin rfl rfl rfl rfl rfl trivial (step_r rfl rfl trivial (step_nil ?_)))))))
    exact lup_again (k+1) (⟨hk, by rw [take_snoc hx, take_snoc hy, hI.2, hxy]⟩) (by omega) (less_of rfl ⟨⟨rfl, rfl⟩, ⟨rfl, rfl⟩, ⟨congrArg (fun n => some (I n)) (wrapK hk hl_a), rfl⟩, trivial⟩ trivial (fun _ _ => .inr (Nat.zero_le _)))
  ·have hk : k = a.length := by have := of_decide_eq_false h3; have := hI.1; omega
   refine sem_exit (seqK_e (lupK_e (blkK_t rfl (seqK_n (sem_seq (sem_region rfl (step_r rfl rfl trivial (step_nil (seqK_n (sem_ret ?_))))))))))
   exact answersR rfl (by simp) (congrArg B (decide_eq_true (same_all hI.2 hk hlen)).symm) rfl

theorem fair_ok (words : List Int) (words_f : Bool) (n : Int) : Ok Try.prog 34 [.pv (.slc words.length words_f (encI words)), I n] [] (.tup [I (fairM words n).1, I (fairM words n).2.1, B (fairM words n).2.2]) [] [] := by
 refine Ok.len fun hlen => ?_
 have hl_words : words.length ≤ maxLen := hlen _ (by simp [lensL, lens, lensP])
 unfold maxLen at hl_words
 refine ok_of_sem Try.func34 rfl ?_
 show Walks Try.prog _ _ ⟨[(0, .pv (.slc words.length words_f (encI words))), (1, I n)], [], 0, [], 40, 0⟩
 refine sem_seq (sem_region rfl (step_r rfl rfl trivial (step_r rfl rfl trivial (step_r rfl rfl trivial (step_nil (seqK_n ?_))))))
 refine sem_scope ?_
 refine sem_seq (sem_seq (sem_region rfl (step_r rfl rfl trivial (step_bin rfl rfl rfl rfl rfl trivial (step_r rfl rfl trivial ?_)))))
 refine step_gs rfl (fun h3 => ?_) (fun h3 => ?_)
 ·have g3 := h3
  try simp at g3
  refine step_g0 rfl h3 rfl (step_g0 rfl h3 rfl (step_pickT rfl h3 rfl rfl (step_nil (seqK_n (sem_condT rfl (sem_seq (sem_region rfl (step_r rfl rfl trivial (step_r rfl rfl trivial (step_r rfl rfl trivial (step_nil ?_)))))))))))
  refine seqK_n (sem_ret (seqK_r ?_))
  refine scpK_r ?_
  have e : fairM words n = (0, 0, false) := if_pos (by omega)
  rw [e]
  exact answersR rfl ⟨trivial, trivial, trivial, trivial⟩ (rfl) rfl
 ·have g3 := h3
  try simp at g3
  refine step_g1 rfl h3 (step_r rfl rfl trivial (step_g1 rfl h3 (step_bin rfl rfl rfl rfl rfl trivial (step_pickF rfl h3 rfl rfl (step_nil (seqK_n ?_))))))
  refine sem_cond rfl (fun h5 => ?_) (fun h5 => ?_)
  ·have g5 := h5
   try simp at g5
   refine sem_seq (sem_region rfl (step_r rfl rfl trivial (step_r rfl rfl trivial (step_r rfl rfl trivial (step_nil (seqK_n (sem_ret (seqK_r ?_))))))))
   refine scpK_r ?_
   have e : fairM words n = (0, 0, false) := if_pos (by omega)
   rw [e]
   exact answersR rfl ⟨trivial, trivial, trivial, trivial⟩ (rfl) rfl
  ·have g5 := h5
   try simp at g5
   have he : IntKind.i64.wrap (4294967296 - (4294967296 : Int).tmod n) = 4294967296 - (4294967296 : Int).tmod n := by
    have h1 := Int.tmod_nonneg (a := 4294967296) n (by omega)
    have h2 := Int.tmod_lt_of_pos (4294967296 : Int) (b := n) (by omega)
    exact wrap_lt (by omega) (by omega)
   refine sem_skip (seqK_n (sem_seq (sem_region rfl (step_r rfl rfl trivial ?_))))
   refine step_bin rfl rfl rfl rfl rfl (by first | decide | omega | simp_all) ?_
   refine step_bin rfl rfl rfl rfl rfl trivial (step_r rfl rfl trivial (step_nil (seqK_n (sem_seq ?_))))
   refine sem_label ?_
   refine seqK_n (sem_seq (sem_seq (sem_region rfl (step_r rfl rfl trivial (step_r rfl rfl trivial (step_r rfl rfl trivial (step_nil (seqK_n (sem_block ?_)))))))))
   refine sem_loop_of (fun k : Nat => (⟨[(1, I n), (7, I (IntKind.i64.wrap (4294967296 - ((4294967296 : Int).tmod n)))), (19, .pv (.slc words.length words_f (encI words))), (20, I words.length), (21, I k)], [], 0, [], 40, 0⟩ : St)) (fun k : Nat => k ≤ words.length ∧ fairGo n k (words.drop k) = fairM words n) (fun k : Nat => words.length - k) 0 (⟨Nat.zero_le _, (if_neg (by omega)).symm⟩) (less_of rfl ⟨⟨rfl, rfl⟩, ⟨rfl, rfl⟩, ⟨rfl, rfl⟩, ⟨rfl, rfl⟩, ⟨rfl, rfl⟩, trivial⟩ trivial (fun _ _ => .inr (Nat.zero_le _))) (fun k hI => ?_)
   show Walks Try.prog _ _ (⟨[(1, I n), (7, I (IntKind.i64.wrap (4294967296 - ((4294967296 : Int).tmod n)))), (19, .pv (.slc words.length words_f (encI words))), (20, I words.length), (21, I k)], [], 0, [], 40, 0⟩ : St)
   refine sem_seq (sem_region rfl (step_bin rfl rfl rfl rfl rfl trivial (step_nil (seqK_n (sem_seq ?_)))))
   refine sem_cond rfl (fun h7 => ?_) (fun h7 => ?_)
   ·have hk : k < words.length := by have h := of_decide_eq_true h7; omega
    obtain ⟨x, hx⟩ : ∃ x, words[k]? = some x := ⟨_, List.getElem?_eq_getElem hk⟩
    refine sem_skip (seqK_n (sem_seq (sem_block (sem_seq (sem_region rfl (step_r rfl rfl trivial (step_idxS (k := k) rfl rfl rfl rfl hk (encI_ne hk) rfl (step_load_one rfl rfl rfl (encI_get hx) rfl (step_r rfl rfl trivial (step_r rfl rfl trivial (step_nil ?_)))))))))))
    refine seqK_n (sem_seq (sem_block (sem_seq (sem_region rfl (step_r rfl rfl trivial (step_call rfl rfl rfl rfl (word_ok x) rfl rfl rfl (step_r rfl rfl trivial (step_r rfl rfl trivial (step_nil (seqK_n ?_))))))))))
    refine sem_cond rfl (fun h11 => ?_) (fun h11 => ?_)
    ·have g11 := h11
     try simp at g11
     try unfold wordB at g11
     refine sem_exit ?_
     refine blkK_f rfl ?_
     refine seqK_e ?_
     refine blkK_f rfl ?_
     refine seqK_e (lupK_e (blkK_t rfl (seqK_n (sem_seq (sem_region rfl (step_r rfl rfl trivial (step_r rfl rfl trivial (step_r rfl rfl trivial (step_nil (seqK_n (sem_ret ?_)))))))))))
     refine scpK_r ?_
     have e : fairM words n = (0, 0, false) := by rw [← hI.2, drop_cons hx, fairGo, if_pos (by unfold wordB; omega)]
     rw [e]
     exact answersR rfl ⟨trivial, trivial, trivial, trivial⟩ (rfl) rfl
    ·have g11 := h11
     try simp at g11
     try unfold wordB at g11
     refine sem_seq (sem_region rfl (step_r rfl rfl trivial (step_r rfl rfl trivial (step_bin rfl rfl rfl rfl rfl trivial (step_r rfl rfl trivial (step_nil (seqK_n ?_)))))))
     refine sem_cond rfl (fun h14 => ?_) (fun h14 => ?_)
     ·have g14 := h14
      try simp at g14
      refine sem_exit ?_
      refine blkK_f rfl ?_
      refine seqK_e (blkK_t rfl (seqK_n (sem_region rfl (step_bin rfl rfl rfl rfl rfl trivial (step_r rfl rfl trivial (step_nil ?_))))))
      exact lup_again (k+1) (⟨hk, by rw [← hI.2, drop_cons hx, fairGo, if_neg (by unfold wordB; omega), if_neg (by omega)]; simp⟩) (by omega) (less_of rfl ⟨⟨rfl, rfl⟩, ⟨rfl, rfl⟩, ⟨rfl, rfl⟩, ⟨rfl, rfl⟩, ⟨congrArg (fun n => some (I n)) (wrapK hk (by assumption)), rfl⟩, trivial⟩ trivial (fun _ _ => .inr (Nat.zero_le _)))
     ·have g14 := h14
      try simp at g14
      refine sem_skip (blkK_n (seqK_n (sem_seq (sem_region rfl (step_r rfl rfl trivial (step_r rfl rfl trivial ?_))))))
      refine step_bin rfl rfl rfl rfl rfl (by first | decide | omega | simp_all) ?_
      refine step_r rfl rfl trivial (step_bin rfl rfl rfl rfl rfl trivial (step_r rfl rfl trivial (step_r rfl rfl trivial (step_r rfl rfl trivial (step_nil (seqK_n (sem_ret (blkK_r (seqK_r (lupK_r (blkK_r ?_)))))))))))
      refine seqK_r ?_
      refine scpK_r ?_
      have e : fairM words n = (x.tmod n, (k : Int) + 1, true) := by rw [← hI.2, drop_cons hx, fairGo, if_neg (by unfold wordB; omega), if_pos (by omega)]
      rw [e]
      have ek : IntKind.i64.wrap ((k : Int) + 1) = (k : Int) + 1 := wrapK2 hk hl_words
      exact answersR rfl ⟨trivial, trivial, trivial, trivial⟩ (by simp only [ek]; rfl) rfl
   ·have hk : k = words.length := by have h := of_decide_eq_false h7; have := hI; omega
    refine sem_exit (seqK_e (lupK_e (blkK_t rfl (seqK_n (sem_seq (sem_region rfl (step_r rfl rfl trivial (step_r rfl rfl trivial (step_r rfl rfl trivial (step_nil (seqK_n ?_)))))))))))
    refine sem_ret ?_
    refine scpK_r ?_
    have e : fairM words n = (0, 0, false) := by rw [← hI.2, hk, List.drop_length]; rfl
    rw [e]
    exact answersR rfl ⟨trivial, trivial, trivial, trivial⟩ (rfl) rfl

theorem fairR_ok (words : List Int) (words_f : Bool) (n : Int) : Ok Try.prog 35 [.pv (.slc words.length words_f (encI words)), I n] [] (.tup [I (fairM words n).1, I (fairM words n).2.1, B (fairM words n).2.2]) [] [] := by
 refine Ok.len fun hlen => ?_
 have hl_words : words.length ≤ maxLen := hlen _ (by simp [lensL, lens, lensP])
 unfold maxLen at hl_words
 refine ok_of_sem Try.func35 rfl ?_
 show Walks Try.prog _ _ ⟨[(0, .pv (.slc words.length words_f (encI words))), (1, I n)], [], 0, [], 48, 0⟩
 refine sem_seq (sem_region rfl (step_r rfl rfl trivial (step_r rfl rfl trivial (step_r rfl rfl trivial (step_nil (seqK_n (sem_seq (sem_seq (sem_region rfl (step_r rfl rfl trivial (step_bin rfl rfl rfl rfl rfl trivial ?_)))))))))))
 refine step_r rfl rfl trivial ?_
 refine step_gs rfl (fun h3 => ?_) (fun h3 => ?_)
 ·have g3 := h3
  try simp at g3
  refine step_g0 rfl h3 rfl (step_g0 rfl h3 rfl (step_pickT rfl h3 rfl rfl (step_nil (seqK_n (sem_condT rfl (sem_seq (sem_region rfl (step_r rfl rfl trivial (step_r rfl rfl trivial (step_r rfl rfl trivial (step_nil ?_)))))))))))
  refine seqK_n (sem_ret (seqK_r ?_))
  have e : fairM words n = (0, 0, false) := if_pos (by omega)
  rw [e]
  exact answersR rfl ⟨trivial, trivial, trivial, trivial⟩ (rfl) rfl
 ·have g3 := h3
  try simp at g3
  refine step_g1 rfl h3 (step_r rfl rfl trivial (step_g1 rfl h3 (step_bin rfl rfl rfl rfl rfl trivial (step_pickF rfl h3 rfl rfl (step_nil (seqK_n ?_))))))
  refine sem_cond rfl (fun h5 => ?_) (fun h5 => ?_)
  ·have g5 := h5
   try simp at g5
   refine sem_seq (sem_region rfl (step_r rfl rfl trivial (step_r rfl rfl trivial (step_r rfl rfl trivial (step_nil (seqK_n (sem_ret (seqK_r ?_))))))))
   have e : fairM words n = (0, 0, false) := if_pos (by omega)
   rw [e]
   exact answersR rfl ⟨trivial, trivial, trivial, trivial⟩ (rfl) rfl
  ·have g5 := h5
   try simp at g5
   have he : IntKind.i64.wrap (4294967296 - (4294967296 : Int).tmod n) = 4294967296 - (4294967296 : Int).tmod n := by
    have h1 := Int.tmod_nonneg (a := 4294967296) n (by omega)
    have h2 := Int.tmod_lt_of_pos (4294967296 : Int) (b := n) (by omega)
    exact wrap_lt (by omega) (by omega)
   refine sem_skip (seqK_n (sem_seq (sem_seq (sem_region rfl (step_r rfl rfl trivial (step_nil (seqK_n (sem_block ?_))))))))
   refine sem_loop_of (fun k : Nat => (⟨[(0, .pv (.slc words.length words_f (encI words))), (1, I n), (7, I k)], [], 0, [], 48, 0⟩ : St)) (fun k : Nat => k ≤ words.length ∧ fairGo n k (words.drop k) = fairM words n) (fun k : Nat => words.length - k) 0 (⟨Nat.zero_le _, (if_neg (by omega)).symm⟩) (less_of rfl ⟨⟨rfl, rfl⟩, ⟨rfl, rfl⟩, ⟨rfl, rfl⟩, trivial⟩ trivial (fun _ _ => .inr (Nat.zero_le _))) (fun k hI => ?_)
   show Walks Try.prog _ _ (⟨[(0, .pv (.slc words.length words_f (encI words))), (1, I n), (7, I k)], [], 0, [], 48, 0⟩ : St)
   refine sem_seq (sem_seq (sem_region rfl (step_r rfl rfl trivial (step_r rfl rfl trivial (step_r rfl rfl trivial (step_bin rfl rfl rfl rfl rfl trivial (step_nil (seqK_n ?_))))))))
   refine sem_cond rfl (fun h7 => ?_) (fun h7 => ?_)
   ·have hk : k < words.length := by have h := of_decide_eq_true h7; omega
    obtain ⟨x, hx⟩ : ∃ x, words[k]? = some x := ⟨_, List.getElem?_eq_getElem hk⟩
    refine sem_skip (seqK_n (sem_seq (sem_block (sem_seq (sem_seq (sem_region rfl (step_r rfl rfl trivial (step_r rfl rfl trivial (step_idxS (k := k) rfl rfl rfl rfl hk (encI_ne hk) rfl (step_load_one rfl rfl rfl (encI_get hx) rfl (step_bin rfl rfl rfl rfl rfl trivial ?_)))))))))))
    refine step_r rfl rfl trivial ?_
    refine step_gs rfl (fun h9 => ?_) (fun h9 => ?_)
    ·have g9 := h9
     try simp at g9
     refine step_g0 rfl h9 rfl (step_g0 rfl h9 rfl (step_g0 rfl h9 rfl (step_g0 rfl h9 rfl (step_g0 rfl h9 rfl (step_pickT rfl h9 rfl rfl (step_nil (seqK_n (sem_condT rfl (sem_seq (sem_region rfl (step_r rfl rfl trivial ?_)))))))))))
     refine step_r rfl rfl trivial (step_r rfl rfl trivial (step_nil (seqK_n (sem_ret (seqK_r (blkK_r (seqK_r (lupK_r (blkK_r (seqK_r ?_))))))))))
     have e : fairM words n = (0, 0, false) := by rw [← hI.2, drop_cons hx, fairGo, if_pos (by unfold wordB; omega)]
     rw [e]
     exact answersR rfl ⟨trivial, trivial, trivial, trivial⟩ (rfl) rfl
    ·have g9 := h9
     try simp at g9
     refine step_g1 rfl h9 (step_r rfl rfl trivial (step_g1 rfl h9 (step_r rfl rfl trivial (step_g1 rfl h9 (step_idxS (k := k) rfl rfl rfl rfl hk (encI_ne hk) rfl (step_g1 rfl h9 (step_load_one rfl rfl rfl (encI_get hx) rfl (step_g1 rfl h9 (step_bin rfl rfl rfl rfl rfl trivial (step_pickF rfl h9 rfl rfl (step_nil ?_)))))))))))
     refine seqK_n ?_
     refine sem_cond rfl (fun h11 => ?_) (fun h11 => ?_)
     ·have g11 := h11
      try simp at g11
      try unfold wordB at g11
      refine sem_seq (sem_region rfl (step_r rfl rfl trivial (step_r rfl rfl trivial (step_r rfl rfl trivial (step_nil (seqK_n (sem_ret (seqK_r (blkK_r (seqK_r (lupK_r ?_)))))))))))
      refine blkK_r (seqK_r ?_)
      have e : fairM words n = (0, 0, false) := by rw [← hI.2, drop_cons hx, fairGo, if_pos (by unfold wordB; omega)]
      rw [e]
      exact answersR rfl ⟨trivial, trivial, trivial, trivial⟩ (rfl) rfl
     ·have g11 := h11
      try simp at g11
      try unfold wordB at g11
      refine sem_skip (seqK_n (sem_seq ?_))
      refine sem_drawn rfl (by decide +kernel) rfl ?_
      refine step_r rfl rfl trivial (step_r rfl rfl trivial (step_idxS (k := k) rfl rfl rfl rfl hk (encI_ne hk) rfl (step_load_one rfl rfl rfl (encI_get hx) rfl (step_r rfl rfl trivial ?_))))
      refine step_bin rfl rfl rfl rfl rfl (by first | decide | omega | simp_all) ?_
      refine step_bin rfl rfl rfl rfl rfl trivial (step_bin rfl rfl rfl rfl rfl trivial (step_nil (seqK_n ?_)))
      refine sem_cond rfl (fun h13 => ?_) (fun h13 => ?_)
      ·have g13 := h13
       try simp at g13
       refine sem_seq (sem_region rfl (step_r rfl rfl trivial (step_r rfl rfl trivial (step_idxS (k := k) rfl rfl rfl rfl hk (encI_ne hk) rfl (step_load_one rfl rfl rfl (encI_get hx) rfl (step_r rfl rfl trivial ?_))))))
       refine step_bin rfl rfl rfl rfl rfl (by first | decide | omega | simp_all) ?_
       refine step_r rfl rfl trivial (step_bin rfl rfl rfl rfl rfl trivial (step_r rfl rfl trivial (step_r rfl rfl trivial (step_r rfl rfl trivial (step_nil (seqK_n (sem_ret (blkK_r (seqK_r (lupK_r (blkK_r ?_)))))))))))
       refine seqK_r ?_
       have e : fairM words n = (x.tmod n, (k : Int) + 1, true) := by rw [← hI.2, drop_cons hx, fairGo, if_neg (by unfold wordB; omega), if_pos (by omega)]
       rw [e]
       have ek : IntKind.i64.wrap ((k : Int) + 1) = (k : Int) + 1 := wrapK2 hk hl_words
       exact answersR rfl ⟨trivial, trivial, trivial, trivial⟩ (by simp only [ek]; rfl) rfl
      ·have g13 := h13
       try simp at g13
       refine sem_skip (blkK_n (seqK_n (sem_region rfl (step_r rfl rfl trivial (step_bin rfl rfl rfl rfl rfl trivial (step_r rfl rfl trivial (step_nil ?_)))))))
       exact lup_again (k+1) (⟨hk, by rw [← hI.2, drop_cons hx, fairGo, if_neg (by unfold wordB; omega), if_neg (by omega)]; simp⟩) (by omega) (less_of rfl ⟨⟨rfl, rfl⟩, ⟨rfl, rfl⟩, ⟨congrArg (fun n => some (I n)) (wrapK hk (by assumption)), rfl⟩, trivial⟩ trivial (fun _ _ => .inr (Nat.zero_le _)))
   ·have hk : k = words.length := by have h := of_decide_eq_false h7; have := hI; omega
    refine sem_exit (seqK_e (lupK_e (blkK_t rfl (seqK_n (sem_seq (sem_region rfl (step_r rfl rfl trivial (step_r rfl rfl trivial (step_r rfl rfl trivial (step_nil (seqK_n ?_)))))))))))
    refine sem_ret ?_
    have e : fairM words n = (0, 0, false) := by rw [← hI.2, hk, List.drop_length]; rfl
    rw [e]
    exact answersR rfl ⟨trivial, trivial, trivial, trivial⟩ (rfl) rfl
end Go.Proofs.Ytkaikflohpbcnaa

import Derived.Test.YtkaikflohpbcnaaBase
namespace Go.Proofs.Ytkaikflohpbcnaa
open Go Go.RowKit Go.Proofs.YtkaikflohpbcnaaVm
attribute [local irreducible] opsWp AnswersE OpsS
set_option maxHeartbeats 400000
set_option maxRecDepth 100000
set_option linter.all false
theorem any_take_snoc {α : Type} {l : List α} {k : Nat} {x : α} (hx : l[k]? = some x) {n : Int} : True := trivial

theorem ix_Int (l : List Int) (l_f : Bool) (v : Int) : Ok Try.prog 29 [.pv (.slc l.length l_f (encI l)), I v] [] (I (fidx (fun x => v == x) l)) [] [] := by
 refine Ok.len fun hlen => ?_
 have hl_l : l.length ≤ maxLen := hlen _ (by simp [lensL, lens, lensP])
 unfold maxLen at hl_l
 refine ok_of_sem Try.func29 rfl ?_
 show Walks Try.prog _ _ ⟨[(0, .pv (.slc l.length l_f (encI l))), (1, I v)], [], 0, [], 19, 0⟩
 refine sem_seq (sem_region rfl (step_r rfl rfl trivial (step_nil (seqK_n (sem_seq (sem_seq (sem_region rfl (step_r rfl rfl trivial (step_r rfl rfl trivial (step_r rfl rfl trivial (step_nil ?_)))))))))))
 refine seqK_n (sem_block ?_)
 refine sem_loop_of (fun k : Nat => (⟨[(0, .pv (.slc l.length l_f (encI l))), (1, I v), (7, I l.length), (8, I k)], [], 0, [], 19, 0⟩ : St)) (fun k : Nat => k ≤ l.length ∧ ∀ y ∈ l.take k, (v == y) = false) (fun k : Nat => l.length - k) 0 (⟨Nat.zero_le _, by simp⟩) (less_of rfl ⟨⟨rfl, rfl⟩, ⟨rfl, rfl⟩, ⟨rfl, rfl⟩, ⟨rfl, rfl⟩, trivial⟩ trivial (fun _ _ => .inr (Nat.zero_le _))) (fun k hI => ?_)
 show Walks Try.prog _ _ (⟨[(0, .pv (.slc l.length l_f (encI l))), (1, I v), (7, I l.length), (8, I k)], [], 0, [], 19, 0⟩ : St)
 refine sem_seq (sem_region rfl (step_bin rfl rfl rfl rfl rfl trivial (step_nil (seqK_n (sem_seq ?_)))))
 refine sem_cond rfl (fun h1 => ?_) (fun h1 => ?_)
 ·have hk : k < l.length := by have h := of_decide_eq_true h1; omega
  obtain ⟨x, hx⟩ : ∃ x, l[k]? = some x := ⟨_, List.getElem?_eq_getElem hk⟩
  refine sem_skip (seqK_n (sem_seq (sem_block (sem_seq (sem_region rfl (step_r rfl rfl trivial (step_r rfl rfl trivial (step_nil (seqK_n (sem_seq (sem_region rfl ?_)))))))))))
  refine step_r rfl rfl trivial (step_r rfl rfl trivial (step_r rfl rfl trivial (step_idxS (k := k) rfl rfl rfl rfl hk (encI_ne hk) rfl (step_load_one rfl rfl rfl (encI_get hx) rfl (step_bin rfl rfl rfl rfl rfl trivial (step_nil (seqK_n ?_)))))))
  refine sem_cond rfl (fun h4 => ?_) (fun h4 => ?_)
  ·have gp := h4
   refine sem_seq (sem_region rfl (step_r rfl rfl trivial (step_r rfl rfl trivial (step_nil (seqK_n (sem_ret (blkK_r (seqK_r (lupK_r (blkK_r (seqK_r ?_)))))))))))
   exact answersR rfl ⟨trivial, trivial⟩ (congrArg I (fidx_found (p := fun x => v == x) hI.2 hx gp).symm) rfl
  ·have gp := h4
   refine sem_skip (blkK_n (seqK_n (sem_region rfl (step_bin rfl rfl rfl rfl rfl trivial (step_r rfl rfl trivial (step_nil ?_))))))
   exact lup_again (k+1) (⟨hk, take_all_snoc hI.2 hx gp⟩) (by omega) (less_of rfl ⟨⟨rfl, rfl⟩, ⟨rfl, rfl⟩, ⟨rfl, rfl⟩, ⟨congrArg (fun n => some (I n)) (wrapK hk (by assumption)), rfl⟩, trivial⟩ trivial (fun _ _ => .inr (Nat.zero_le _)))
 ·have hk : k = l.length := by have h := of_decide_eq_false h1; have := hI; omega
  refine sem_exit (seqK_e (lupK_e (blkK_t rfl (seqK_n (sem_seq (sem_region rfl (step_r rfl rfl trivial (step_nil (seqK_n (sem_ret ?_))))))))))
  exact answersR rfl ⟨trivial, trivial⟩ (congrArg I (fidx_none (p := fun x => v == x) hI.2 hk).symm) rfl

theorem clone_Int_nil  : Ok Try.prog 30 [.pv .nils] [] (.ref 0 1 0 0) [.row 3 1 []] [] := by
 refine ok_of_sem Try.func30 rfl ?_
 show Walks Try.prog _ _ ⟨[(0, .pv .nils)], [], 0, [], 8, 0⟩
 refine sem_seq (sem_region rfl (step_n (nx' := 1) rfl rfl rfl trivial (step_nil (seqK_n (sem_seq (sem_seq (sem_region rfl (step_r rfl rfl trivial (step_r rfl rfl trivial (step_nil (seqK_n ?_)))))))))))
 refine sem_cond rfl (fun h1 => ?_) (fun h1 => ?_)
 ·skip
  refine sem_seq (sem_region rfl (step_n (nx' := 2) rfl rfl rfl trivial (step_nil (seqK_n (sem_ret (seqK_r ?_))))))
  exact answersGR [] [1] rfl ⟨trivial, trivial⟩ rfl (by (repeat' apply And.intro) <;> first | trivial | rfl | exact flat_len (fun _ => rfl) _ | exact encI_len _ | assumption) (rfl) rfl rfl rfl (by decide) rfl rfl ⟨⟨rfl, rfl⟩, trivial⟩
 ·cases h1

theorem clone_Int_nnl (l : List Int) (hl : l.length ≤ 16777216) : Ok Try.prog 30 [.pv (.nnl l.length (encI l))] [] (.ref 0 1 0 l.length) [.row 3 1 (encI l)] [] := by
 refine ok_of_sem Try.func30 rfl ?_
 show Walks Try.prog _ _ ⟨[(0, .pv (.nnl l.length (encI l)))], [], 0, [], 8, 0⟩
 refine sem_seq (sem_region rfl (step_n (nx' := 1) rfl rfl rfl trivial (step_nil (seqK_n (sem_seq (sem_seq (sem_region rfl (step_r rfl rfl trivial (step_r rfl rfl trivial (step_nil (seqK_n ?_)))))))))))
 refine sem_cond rfl (fun h1 => ?_) (fun h1 => ?_)
 ·cases h1
 ·skip
  refine sem_skip (seqK_n (sem_seq (sem_region rfl (step_r rfl rfl ⟨by decide, rfl⟩ (step_r rfl rfl trivial ?_)))))
  refine step_appendN (m := l.length) (new := encI l) (cs' := encI l) (n' := l.length) rfl rfl (rfl) rfl rfl rfl rfl rfl rfl (encI_len l) (by first | decide | (unfold maxGrow; omega) | (unfold maxGrow; simp; omega) | (unfold maxGrow; simp only [List.length_append, List.length_take, List.length_drop, List.length_cons, List.length_nil, IntKind.wrap_i64] at *; omega)) rfl rfl rfl rfl ?_
  refine step_r rfl rfl trivial (step_nil (seqK_n (sem_ret ?_)))
  exact answersGR [] [1] rfl ⟨trivial, trivial⟩ rfl (by (repeat' apply And.intro) <;> first | trivial | rfl | exact flat_len (fun _ => rfl) _ | exact encI_len _ | assumption) (rfl) rfl rfl rfl (by decide) rfl rfl ⟨⟨rfl, rfl⟩, trivial⟩

theorem clone_Int (l : List Int) (full : Bool) (hl : l.length ≤ 16777216) : Ok Try.prog 30 [.pv (.slc l.length full (encI l))] [] (.ref 0 1 0 l.length) [.row 3 1 (encI l)] [] := by
  refine Ok.slc1 (fun h1 h2 => ?_) (clone_Int_nnl l hl)
  rw [h1, h2]; exact clone_Int_nil

theorem equal_Int (a : List Int) (a_f : Bool) (b : List Int) (b_f : Bool) : Ok Try.prog 33 [.pv (.slc a.length a_f (encI a)), .pv (.slc b.length b_f (encI b))] [] (B (decide (a = b))) [] [] := by
 refine Ok.len fun hlen => ?_
 have hl_a : a.length ≤ maxLen := hlen _ (by simp [lensL, lens, lensP])
 have hl_b : b.length ≤ maxLen := hlen _ (by simp [lensL, lens, lensP])
 unfold maxLen at hl_a hl_b
 refine ok_of_sem Try.func33 rfl ?_
 show Walks Try.prog _ _ ⟨[(0, .pv (.slc a.length a_f (encI a))), (1, .pv (.slc b.length b_f (encI b)))], [], 0, [], 26, 0⟩
 refine sem_seq (sem_region rfl (step_r rfl rfl trivial (step_nil (seqK_n (sem_seq (sem_seq (sem_region rfl (step_r rfl rfl trivial (step_r rfl rfl trivial (step_r rfl rfl trivial (step_r rfl rfl trivial ?_)))))))))))
 refine step_bin rfl rfl rfl rfl rfl trivial (step_nil (seqK_n ?_))
 refine sem_cond rfl (fun h1 => ?_) (fun h1 => ?_)
 ·skip
  refine sem_seq (sem_region rfl (step_r rfl rfl trivial (step_nil (seqK_n (sem_ret (seqK_r ?_))))))
  have hne : ¬ a.length = b.length := by
   have h := h1; simp at h; omega
  exact answersR rfl (by simp) (congrArg B (decide_eq_false (fun e => hne (by rw [e]))).symm) rfl
 ·have hlen : a.length = b.length := by
   have h := h1; simp at h; omega
  refine sem_skip (seqK_n (sem_seq (sem_seq (sem_region rfl (step_r rfl rfl trivial (step_r rfl rfl trivial (step_r rfl rfl trivial (step_nil (seqK_n (sem_block ?_))))))))))
  refine sem_loop_of (fun k : Nat => (⟨[(0, .pv (.slc a.length a_f (encI a))), (1, .pv (.slc b.length b_f (encI b))), (12, I a.length), (13, I k)], [], 0, [], 26, 0⟩ : St)) (fun k : Nat => k ≤ a.length ∧ a.take k = b.take k) (fun k : Nat => a.length - k) 0 (⟨Nat.zero_le _, rfl⟩) (less_of rfl ⟨⟨rfl, rfl⟩, ⟨rfl, rfl⟩, ⟨rfl, rfl⟩, ⟨rfl, rfl⟩, trivial⟩ trivial (fun _ _ => .inr (Nat.zero_le _))) (fun k hI => ?_)
  show Walks Try.prog _ _ (⟨[(0, .pv (.slc a.length a_f (encI a))), (1, .pv (.slc b.length b_f (encI b))), (12, I a.length), (13, I k)], [], 0, [], 26, 0⟩ : St)
  refine sem_seq (sem_region rfl (step_bin rfl rfl rfl rfl rfl trivial (step_nil (seqK_n (sem_seq ?_)))))
  refine sem_cond rfl (fun h2 => ?_) (fun h2 => ?_)
  ·have hk : k < a.length := by simpa using h2
   have hk2 : k < b.length := by omega
   obtain ⟨x, hx⟩ : ∃ x, a[k]? = some x := ⟨_, List.getElem?_eq_getElem hk⟩
   obtain ⟨y, hy⟩ : ∃ y, b[k]? = some y := ⟨_, List.getElem?_eq_getElem hk2⟩
   refine sem_skip (seqK_n (sem_seq (sem_block (sem_seq (sem_region rfl (step_r rfl rfl trivial (step_r rfl rfl trivial (step_nil (seqK_n (sem_seq ?_))))))))))
   refine sem_drawn rfl (by decide +kernel) rfl ?_
   refine step_r rfl rfl trivial (step_r rfl rfl trivial (step_idxS (k := k) rfl rfl rfl rfl hk (encI_ne hk) rfl (step_load_one rfl rfl rfl (encI_get hx) rfl (step_r rfl rfl trivial (step_r rfl rfl trivial (step_idxS (k := k) rfl rfl rfl rfl hk2 (encI_ne hk2) rfl (step_load_one rfl rfl rfl (encI_get hy) rfl (step_bin rfl rfl rfl rfl rfl trivial (step_nil (seqK_n ?_))))))))))
   refine sem_cond rfl (fun h4 => ?_) (fun h4 => ?_)
   ·have hne : x ≠ y := by
     intro e; subst e; simp at h4
    refine sem_seq (sem_region rfl (step_r rfl rfl trivial (step_nil (seqK_n (sem_ret (blkK_r (seqK_r (lupK_r (blkK_r (seqK_r ?_))))))))))
    exact answersR rfl (by simp) (congrArg B (decide_eq_false (same_no hx hy hne)).symm) rfl
   ·have hxy : x = y := by
     have h := h4
     simp at h
     simpa using h
    refine sem_skip (blkK_n (seqK_n (sem_region rfl (step_bin rfl rfl rfl rfl rfl trivial (step_r rfl rfl trivial (step_nil ?_))))))
    exact lup_again (k+1) (⟨hk, by rw [take_snoc hx, take_snoc hy, hI.2, hxy]⟩) (by omega) (less_of rfl ⟨⟨rfl, rfl⟩, ⟨rfl, rfl⟩, ⟨rfl, rfl⟩, ⟨congrArg (fun n => some (I n)) (wrapK hk hl_a), rfl⟩, trivial⟩ trivial (fun _ _ => .inr (Nat.zero_le _)))
  ·have hk : k = a.length := by have := of_decide_eq_false h2; have := hI.1; omega
   refine sem_exit (seqK_e (lupK_e (blkK_t rfl (seqK_n (sem_seq (sem_region rfl (step_r rfl rfl trivial (step_nil (seqK_n (sem_ret ?_))))))))))
   exact answersR rfl (by simp) (congrArg B (decide_eq_true (same_all hI.2 hk hlen)).symm) rfl

def maxL : List Int → Int
  | [] => 0
  | x :: l => l.foldl max x
theorem maxL_snoc {l : List Int} (h : l ≠ []) (x : Int) : maxL (l ++ [x]) = max (maxL l) x := by
  match l, h with
  | y :: l, _ => simp [maxL]

theorem max_Int (l : List Int) (l_f : Bool) (hl : l ≠ []) : Ok Try.prog 36 [.pv (.slc l.length l_f (encI l))] [] (I (maxL l)) [] [] := by
 refine Ok.len fun hlen => ?_
 have hl_l : l.length ≤ maxLen := hlen _ (by simp [lensL, lens, lensP])
 unfold maxLen at hl_l
 refine ok_of_sem Try.func36 rfl ?_
 show Walks Try.prog _ _ ⟨[(0, .pv (.slc l.length l_f (encI l)))], [], 0, [], 25, 0⟩
 refine sem_seq (sem_region rfl (step_r rfl rfl trivial (step_nil (seqK_n (sem_seq (sem_seq (sem_region rfl (step_r rfl rfl trivial (step_r rfl rfl trivial (step_bin rfl rfl rfl rfl rfl trivial (step_nil ?_)))))))))))
 refine seqK_n ?_
 refine sem_cond rfl (fun h1 => ?_) (fun h1 => ?_)
 ·have h := h1
  simp at h
  exact absurd (List.eq_nil_of_length_eq_zero (by omega)) hl
 ·have g1 := h1
  try simp at g1
  have hpos : 0 < l.length := List.length_pos_iff.2 hl
  obtain ⟨x0, hx0⟩ : ∃ z_, l[0]? = some z_ := ⟨_, List.getElem?_eq_getElem hpos⟩
  have hm1 : maxL (l.take 1) = x0 := by
   rw [take_snoc (k := 0) hx0]; rfl
  refine sem_skip (seqK_n (sem_seq (sem_region rfl (step_r rfl rfl trivial (step_idxS (k := 0) rfl rfl rfl rfl hpos (encI_ne hpos) rfl (step_load_one rfl rfl rfl (encI_get hx0) rfl (step_r rfl rfl trivial (step_nil (seqK_n (sem_seq (sem_seq ?_)))))))))))
  refine sem_region rfl (step_r rfl rfl trivial (step_nil (seqK_n (sem_block ?_))))
  refine sem_loop_of (fun k : Nat => (⟨[(0, .pv (.slc l.length l_f (encI l))), (3, I (maxL (l.take k))), (4, I k)], [], 0, [], 25, 0⟩ : St)) (fun k : Nat => 1 ≤ k ∧ k ≤ l.length) (fun k : Nat => l.length - k) 1 (⟨Nat.le_refl _, hpos⟩) (less_of rfl ⟨⟨rfl, rfl⟩, ⟨congrArg (fun n => some (I n)) hm1.symm, rfl⟩, ⟨rfl, rfl⟩, trivial⟩ trivial (fun _ _ => .inr (Nat.zero_le _))) (fun k hI => ?_)
  show Walks Try.prog _ _ (⟨[(0, .pv (.slc l.length l_f (encI l))), (3, I (maxL (l.take k))), (4, I k)], [], 0, [], 25, 0⟩ : St)
  refine sem_seq (sem_seq (sem_region rfl (step_r rfl rfl trivial (step_r rfl rfl trivial (step_r rfl rfl trivial (step_bin rfl rfl rfl rfl rfl trivial (step_nil (seqK_n ?_))))))))
  refine sem_cond rfl (fun h4 => ?_) (fun h4 => ?_)
  ·have hk : k < l.length := by have h := of_decide_eq_true h4; omega
   obtain ⟨x, hx⟩ : ∃ x, l[k]? = some x := ⟨_, List.getElem?_eq_getElem hk⟩
   refine sem_skip (seqK_n (sem_seq (sem_block (sem_region rfl (step_r rfl rfl trivial (step_r rfl rfl trivial (step_r rfl rfl trivial (step_idxS (k := k) rfl rfl rfl rfl hk (encI_ne hk) rfl (step_load_one rfl rfl rfl (encI_get hx) rfl ?_)))))))))
   refine step_max rfl rfl rfl ?_
   refine step_r rfl rfl trivial (step_nil (blkK_n (seqK_n (sem_region rfl (step_r rfl rfl trivial (step_bin rfl rfl rfl rfl rfl trivial (step_r rfl rfl trivial (step_nil ?_))))))))
   exact lup_again (k+1) (⟨by omega, hk⟩) (by omega) (less_of rfl ⟨⟨rfl, rfl⟩, ⟨congrArg (fun n => some (I n)) (by rw [take_snoc hx, maxL_snoc (by intro h; have := congrArg List.length h; rw [List.length_take] at this; simp only [List.length_nil] at this; omega)]), rfl⟩, ⟨congrArg (fun n => some (I n)) (wrapK hk (by assumption)), rfl⟩, trivial⟩ trivial (fun _ _ => .inr (Nat.zero_le _)))
  ·have hk : k = l.length := by have h := of_decide_eq_false h4; have := hI; omega
   refine sem_exit (seqK_e (lupK_e (blkK_t rfl (seqK_n (sem_seq (sem_region rfl (step_r rfl rfl trivial (step_r rfl rfl trivial (step_nil (seqK_n (sem_ret ?_)))))))))))
   rw [show maxL l = maxL (l.take k) by rw [hk, List.take_length]]
   exact answersR rfl ⟨trivial, trivial⟩ (rfl) rfl
end Go.Proofs.Ytkaikflohpbcnaa

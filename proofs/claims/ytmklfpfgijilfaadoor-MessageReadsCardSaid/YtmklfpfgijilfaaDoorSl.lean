import Derived.Test.YtmklfpfgijilfaaDoorTrim
namespace Go.Proofs.YtmklfpfgijilfaaDoor
open Go Go.RowKit Go.Proofs.YtmklfpfgijilfaaDoorVm
attribute [local irreducible] opsWp AnswersE OpsS
set_option maxHeartbeats 400000
set_option maxRecDepth 100000
set_option linter.all false
theorem any_take_snoc {α : Type} {l : List α} {k : Nat} {x : α} (hx : l[k]? = some x) {n : Int} : True := trivial

theorem equal_Int (a : List Int) (a_f : Bool) (b : List Int) (b_f : Bool) : Ok Tryd.prog 24 [.pv (.slc a.length a_f (encI a)), .pv (.slc b.length b_f (encI b))] [] (B (decide (a = b))) [] [] := by
 refine Ok.len fun hlen => ?_
 have hl_a : a.length ≤ maxLen := hlen _ (by simp [lensL, lens, lensP])
 have hl_b : b.length ≤ maxLen := hlen _ (by simp [lensL, lens, lensP])
 unfold maxLen at hl_a hl_b
 refine ok_of_sem Tryd.func24 rfl ?_
 show Walks Tryd.prog _ _ ⟨[(0, .pv (.slc a.length a_f (encI a))), (1, .pv (.slc b.length b_f (encI b)))], [], 0, [], 26, 0⟩
 refine sem_seq (sem_region rfl (step_r rfl rfl trivial (step_nil (seqK_n (sem_seq (sem_seq (sem_region rfl (step_r rfl rfl trivial (step_r rfl rfl trivial (step_r rfl rfl trivial (step_r rfl rfl trivial ?_)))))))))))
 refine step_bin rfl rfl rfl rfl rfl trivial (step_nil (seqK_n ?_))
 refine sem_cond rfl (fun h1 => ?_) (fun h1 => ?_)
 ·skip
  refine sem_seq (sem_region rfl (step_r rfl rfl trivial (step_nil (seqK_n (sem_ret (seqK_r ?_))))))
  have hne : ¬ a.length = b.length := by
   have h := h1; simp at h; omega
  exact answersR rfl (by simp) (congrArg B (decide_eq_false (fun e => hne (by rw [e]))).symm) rfl
 ·have hlen : a.length = b.length := by
   have h := h1; simp at h; omega
  refine sem_skip (seqK_n (sem_seq (sem_seq (sem_region rfl (step_r rfl rfl trivial (step_r rfl rfl trivial (step_r rfl rfl trivial (step_nil (seqK_n (sem_block ?_))))))))))
  refine sem_loop_of (fun k : Nat => (⟨[(0, .pv (.slc a.length a_f (encI a))), (1, .pv (.slc b.length b_f (encI b))), (12, I a.length), (13, I k)], [], 0, [], 26, 0⟩ : St)) (fun k : Nat => k ≤ a.length ∧ a.take k = b.take k) (fun k : Nat => a.length - k) 0 (⟨Nat.zero_le _, rfl⟩) (less_of rfl ⟨⟨rfl, rfl⟩, ⟨rfl, rfl⟩, ⟨rfl, rfl⟩, ⟨rfl, rfl⟩, trivial⟩ trivial (fun _ _ => .inr (Nat.zero_le _))) (fun k hI => ?_)
  show Walks Tryd.prog _ _ (⟨[(0, .pv (.slc a.length a_f (encI a))), (1, .pv (.slc b.length b_f (encI b))), (12, I a.length), (13, I k)], [], 0, [], 26, 0⟩ : St)
  refine sem_seq (sem_region rfl (step_bin rfl rfl rfl rfl rfl trivial (step_nil (seqK_n (sem_seq ?_)))))
  refine sem_cond rfl (fun h2 => ?_) (fun h2 => ?_)
  ·have hk : k < a.length := by simpa using h2
   have hk2 : k < b.length := by omega
   obtain ⟨x, hx⟩ : ∃ x, a[k]? = some x := ⟨_, List.getElem?_eq_getElem hk⟩
   obtain ⟨y, hy⟩ : ∃ y, b[k]? = some y := ⟨_, List.getElem?_eq_getElem hk2⟩
   refine sem_skip (seqK_n (sem_seq (sem_block (sem_seq (sem_region rfl (step_r rfl rfl trivial (step_r rfl rfl trivial (step_nil (seqK_n (sem_seq ?_))))))))))
   refine sem_drawn rfl (by decide +kernel) rfl ?_
   refine step_r rfl rfl trivial (step_r rfl rfl trivial (step_idxS (k := k) rfl rfl rfl rfl hk (encI_ne hk) rfl (step_load_one rfl rfl rfl (encI_get hx) rfl (step_r rfl rfl trivial (step_r rfl rfl trivial (step_idxS (k := k) rfl rfl rfl rfl hk2 (encI_ne hk2) rfl (step_load_one rfl rfl rfl (encI_get hy) rfl (step_bin rfl rfl rfl rfl rfl trivial (step_nil (seqK_n ?_))))))))))
   refine sem_cond rfl (fun h4 => ?_) (fun h4 => ?_)
   ·have hne : x ≠ y := by
     intro e; subst e; simp at h4
    refine sem_seq (sem_region rfl (step_r rfl rfl trivial (step_nil (seqK_n (sem_ret (blkK_r (seqK_r (lupK_r (blkK_r (seqK_r ?_))))))))))
    exact answersR rfl (by simp) (congrArg B (decide_eq_false (same_no hx hy hne)).symm) rfl
   ·have hxy : x = y := by
     have h := h4
     simp at h
     simpa using h
    refine sem_skip (blkK_n (seqK_n (sem_region rfl (step_bin rfl rfl rfl rfl rfl trivial (step_r rfl rfl trivial (step_nil ?_))))))
    exact lup_again (k+1) (⟨hk, by rw [take_snoc hx, take_snoc hy, hI.2, hxy]⟩) (by omega) (less_of rfl ⟨⟨rfl, rfl⟩, ⟨rfl, rfl⟩, ⟨rfl, rfl⟩, ⟨congrArg (fun n => some (I n)) (wrapK hk hl_a), rfl⟩, trivial⟩ trivial (fun _ _ => .inr (Nat.zero_le _)))
  ·have hk : k = a.length := by have := of_decide_eq_false h2; have := hI.1; omega
   refine sem_exit (seqK_e (lupK_e (blkK_t rfl (seqK_n (sem_seq (sem_region rfl (step_r rfl rfl trivial (step_nil (seqK_n (sem_ret ?_))))))))))
   exact answersR rfl (by simp) (congrArg B (decide_eq_true (same_all hI.2 hk hlen)).symm) rfl

theorem clone_UInt8_nil  : Ok Tryd.prog 29 [.pv .nils] [] (.ref 0 1 0 0) [.row 5 1 []] [] := by
 refine ok_of_sem Tryd.func29 rfl ?_
 show Walks Tryd.prog _ _ ⟨[(0, .pv .nils)], [], 0, [], 8, 0⟩
 refine sem_seq (sem_region rfl (step_n (nx' := 1) rfl rfl rfl trivial (step_nil (seqK_n (sem_seq (sem_seq (sem_region rfl (step_r rfl rfl trivial (step_r rfl rfl trivial (step_nil (seqK_n ?_)))))))))))
 refine sem_cond rfl (fun h1 => ?_) (fun h1 => ?_)
 ·skip
  refine sem_seq (sem_region rfl (step_n (nx' := 2) rfl rfl rfl trivial (step_nil (seqK_n (sem_ret (seqK_r ?_))))))
  exact answersGR [] [1] rfl ⟨trivial, trivial⟩ rfl (by (repeat' apply And.intro) <;> first | trivial | rfl | exact flat_len (fun _ => rfl) _ | exact encI_len _ | assumption) (rfl) rfl rfl rfl (by decide) rfl rfl ⟨⟨rfl, rfl⟩, trivial⟩
 ·cases h1

theorem clone_UInt8_nnl (l : List UInt8) (hl : l.length ≤ 16777216) : Ok Tryd.prog 29 [.pv (.nnl l.length (encY l))] [] (.ref 0 1 0 l.length) [.row 5 1 (encY l)] [] := by
 refine ok_of_sem Tryd.func29 rfl ?_
 show Walks Tryd.prog _ _ ⟨[(0, .pv (.nnl l.length (encY l)))], [], 0, [], 8, 0⟩
 refine sem_seq (sem_region rfl (step_n (nx' := 1) rfl rfl rfl trivial (step_nil (seqK_n (sem_seq (sem_seq (sem_region rfl (step_r rfl rfl trivial (step_r rfl rfl trivial (step_nil (seqK_n ?_)))))))))))
 refine sem_cond rfl (fun h1 => ?_) (fun h1 => ?_)
 ·cases h1
 ·skip
  refine sem_skip (seqK_n (sem_seq (sem_region rfl (step_r rfl rfl ⟨by decide, rfl⟩ (step_r rfl rfl trivial ?_)))))
  refine step_appendN (m := l.length) (new := encY l) (cs' := encY l) (n' := l.length) rfl rfl (rfl) rfl rfl rfl rfl rfl rfl (encY_len l) (by first | decide | (unfold maxGrow; omega) | (unfold maxGrow; simp; omega) | (unfold maxGrow; simp only [List.length_append, List.length_take, List.length_drop, List.length_cons, List.length_nil, IntKind.wrap_i64] at *; omega)) rfl rfl rfl rfl ?_
  refine step_r rfl rfl trivial (step_nil (seqK_n (sem_ret ?_)))
  exact answersGR [] [1] rfl ⟨trivial, trivial⟩ rfl (by (repeat' apply And.intro) <;> first | trivial | rfl | exact flat_len (fun _ => rfl) _ | exact encI_len _ | assumption) (rfl) rfl rfl rfl (by decide) rfl rfl ⟨⟨rfl, rfl⟩, trivial⟩

theorem clone_UInt8 (l : List UInt8) (full : Bool) (hl : l.length ≤ 16777216) : Ok Tryd.prog 29 [.pv (.slc l.length full (encY l))] [] (.ref 0 1 0 l.length) [.row 5 1 (encY l)] [] := by
  refine Ok.slc1 (fun h1 h2 => ?_) (clone_UInt8_nnl l hl)
  rw [h1, h2]; exact clone_UInt8_nil
end Go.Proofs.YtmklfpfgijilfaaDoor

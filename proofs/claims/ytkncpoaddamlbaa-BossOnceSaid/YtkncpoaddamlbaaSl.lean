import Derived.Test.YtkncpoaddamlbaaBase
namespace Go.Proofs.Ytkncpoaddamlbaa
open Go Go.RowKit Go.Proofs.YtkncpoaddamlbaaVm
attribute [local irreducible] opsWp AnswersE OpsS
set_option maxHeartbeats 400000
set_option maxRecDepth 100000
set_option linter.all false
theorem any_take_snoc {α : Type} {l : List α} {k : Nat} {x : α} (hx : l[k]? = some x) {n : Int} : True := trivial

theorem clone_Bool_nil  : Ok Try.prog 24 [.pv .nils] [] (.ref 0 1 0 0) [.row 4 1 []] [] := by
 refine ok_of_sem Try.func24 rfl ?_
 show Walks Try.prog _ _ ⟨[(0, .pv .nils)], [], 0, [], 8, 0⟩
 refine sem_seq ?_
 refine sem_region rfl ?_
 refine step_n (nx' := 1) rfl rfl rfl trivial ?_
 refine step_nil ?_
 refine seqK_n ?_
 refine sem_seq ?_
 refine sem_seq ?_
 refine sem_region rfl ?_
 refine step_r rfl rfl trivial ?_
 refine step_r rfl rfl trivial ?_
 refine step_nil ?_
 refine seqK_n ?_
 refine sem_cond rfl (fun h1 => ?_) (fun h1 => ?_)
 ·skip
  refine sem_seq ?_
  refine sem_region rfl ?_
  refine step_n (nx' := 2) rfl rfl rfl trivial ?_
  refine step_nil ?_
  refine seqK_n ?_
  refine sem_ret ?_
  refine seqK_r ?_
  exact answersGR [] [1] rfl ⟨trivial, trivial⟩ rfl (by (repeat' apply And.intro) <;> first | trivial | rfl | exact flat_len (fun _ => rfl) _ | exact encI_len _ | exact encB_len _ | exact encY_len _ | assumption) (rfl) rfl rfl rfl (by decide) rfl rfl ⟨⟨rfl, rfl⟩, trivial⟩
 ·cases h1

theorem clone_Bool_nnl (l : List Bool) (hl : l.length ≤ 16777216) : Ok Try.prog 24 [.pv (.nnl l.length (encB l))] [] (.ref 0 1 0 l.length) [.row 4 1 (encB l)] [] := by
 refine ok_of_sem Try.func24 rfl ?_
 show Walks Try.prog _ _ ⟨[(0, .pv (.nnl l.length (encB l)))], [], 0, [], 8, 0⟩
 refine sem_seq ?_
 refine sem_region rfl ?_
 refine step_n (nx' := 1) rfl rfl rfl trivial ?_
 refine step_nil ?_
 refine seqK_n ?_
 refine sem_seq ?_
 refine sem_seq ?_
 refine sem_region rfl ?_
 refine step_r rfl rfl trivial ?_
 refine step_r rfl rfl trivial ?_
 refine step_nil ?_
 refine seqK_n ?_
 refine sem_cond rfl (fun h1 => ?_) (fun h1 => ?_)
 ·cases h1
 ·skip
  refine sem_skip ?_
  refine seqK_n ?_
  refine sem_seq ?_
  refine sem_region rfl ?_
  refine step_r rfl rfl ⟨by decide, rfl⟩ ?_
  refine step_r rfl rfl trivial ?_
  refine step_appendN (m := l.length) (new := encB l) (cs' := encB l) (n' := l.length) rfl rfl (rfl) rfl rfl rfl rfl rfl rfl (encB_len l) (by first | decide | (unfold maxGrow; omega) | (unfold maxGrow; simp; omega)) rfl rfl rfl rfl ?_
  refine step_r rfl rfl trivial ?_
  refine step_nil ?_
  refine seqK_n ?_
  refine sem_ret ?_
  exact answersGR [] [1] rfl ⟨trivial, trivial⟩ rfl (by (repeat' apply And.intro) <;> first | trivial | rfl | exact flat_len (fun _ => rfl) _ | exact encI_len _ | exact encB_len _ | exact encY_len _ | assumption) (rfl) rfl rfl rfl (by decide) rfl rfl ⟨⟨rfl, rfl⟩, trivial⟩

theorem clone_Bool (l : List Bool) (full : Bool) (hl : l.length ≤ 16777216) : Ok Try.prog 24 [.pv (.slc l.length full (encB l))] [] (.ref 0 1 0 l.length) [.row 4 1 (encB l)] [] := by
  refine Ok.slc1 (fun h1 h2 => ?_) (clone_Bool_nnl l hl)
  rw [h1, h2]; exact clone_Bool_nil

theorem equal_Bool (a : List Bool) (a_f : Bool) (b : List Bool) (b_f : Bool) : Ok Try.prog 25 [.pv (.slc a.length a_f (encB a)), .pv (.slc b.length b_f (encB b))] [] (B (decide (a = b))) [] [] := by
 refine Ok.len fun hlen => ?_
 have hl_a : a.length ≤ maxLen := hlen _ (by simp [lensL, lens, lensP])
 have hl_b : b.length ≤ maxLen := hlen _ (by simp [lensL, lens, lensP])
 unfold maxLen at hl_a hl_b
 refine ok_of_sem Try.func25 rfl ?_
 show Walks Try.prog _ _ ⟨[(0, .pv (.slc a.length a_f (encB a))), (1, .pv (.slc b.length b_f (encB b)))], [], 0, [], 26, 0⟩
 refine sem_seq ?_
 refine sem_region rfl ?_
 refine step_r rfl rfl trivial ?_
 refine step_nil ?_
 refine seqK_n ?_
 refine sem_seq ?_
 refine sem_seq ?_
 refine sem_region rfl ?_
 refine step_r rfl rfl trivial ?_
 refine step_r rfl rfl trivial ?_
 refine step_r rfl rfl trivial ?_
 refine step_r rfl rfl trivial ?_
 refine step_bin rfl rfl rfl rfl rfl trivial ?_
 refine step_nil ?_
 refine seqK_n ?_
 refine sem_cond rfl (fun h1 => ?_) (fun h1 => ?_)
 ·skip
  refine sem_seq ?_
  refine sem_region rfl ?_
  refine step_r rfl rfl trivial ?_
  refine step_nil ?_
  refine seqK_n ?_
  refine sem_ret ?_
  refine seqK_r ?_
  have hne : ¬ a.length = b.length := by
   have h := h1; simp at h; omega
  exact answersR rfl (by simp) (congrArg B (decide_eq_false (fun e => hne (by rw [e]))).symm) rfl
 ·have hlen : a.length = b.length := by
   have h := h1; simp at h; omega
  refine sem_skip ?_
  refine seqK_n ?_
  refine sem_seq ?_
  refine sem_seq ?_
  refine sem_region rfl ?_
  refine step_r rfl rfl trivial ?_
  refine step_r rfl rfl trivial ?_
  refine step_r rfl rfl trivial ?_
  refine step_nil ?_
  refine seqK_n ?_
  refine sem_block ?_
  refine sem_loop_of (fun k : Nat => (⟨[(0, .pv (.slc a.length a_f (encB a))), (1, .pv (.slc b.length b_f (encB b))), (12, I a.length), (13, I k)], [], 0, [], 26, 0⟩ : St)) (fun k : Nat => k ≤ a.length ∧ a.take k = b.take k) (fun k : Nat => a.length - k) 0 (⟨Nat.zero_le _, rfl⟩) (less_of rfl ⟨⟨rfl, rfl⟩, ⟨rfl, rfl⟩, ⟨rfl, rfl⟩, ⟨rfl, rfl⟩, trivial⟩ trivial (fun _ _ => .inr (Nat.zero_le _))) (fun k hI => ?_)
  show Walks Try.prog _ _ (⟨[(0, .pv (.slc a.length a_f (encB a))), (1, .pv (.slc b.length b_f (encB b))), (12, I a.length), (13, I k)], [], 0, [], 26, 0⟩ : St)
  refine sem_seq ?_
  refine sem_region rfl ?_
  refine step_bin rfl rfl rfl rfl rfl trivial ?_
  refine step_nil ?_
  refine seqK_n ?_
  refine sem_seq ?_
  refine sem_cond rfl (fun h2 => ?_) (fun h2 => ?_)
  ·have hk : k < a.length := by simpa using h2
   have hk2 : k < b.length := by omega
   obtain ⟨x, hx⟩ : ∃ x, a[k]? = some x := ⟨_, List.getElem?_eq_getElem hk⟩
   obtain ⟨y, hy⟩ : ∃ y, b[k]? = some y := ⟨_, List.getElem?_eq_getElem hk2⟩
   refine sem_skip ?_
   refine seqK_n ?_
   refine sem_seq ?_
   refine sem_block ?_
   refine sem_seq ?_
   refine sem_region rfl ?_
   refine step_r rfl rfl trivial ?_
   refine step_r rfl rfl trivial ?_
   refine step_nil ?_
   refine seqK_n ?_
   refine sem_seq ?_
   refine sem_drawn rfl (by decide +kernel) rfl ?_
   refine step_r rfl rfl trivial ?_
   refine step_r rfl rfl trivial ?_
   refine step_idxS (k := k) rfl rfl rfl rfl hk (encB_ne hk) rfl ?_
   refine step_load_one rfl rfl rfl (encB_get hx) rfl ?_
   refine step_r rfl rfl trivial ?_
   refine step_r rfl rfl trivial ?_
   refine step_idxS (k := k) rfl rfl rfl rfl hk2 (encB_ne hk2) rfl ?_
   refine step_load_one rfl rfl rfl (encB_get hy) rfl ?_
   refine step_bin rfl rfl rfl rfl rfl trivial ?_
   refine step_nil ?_
   refine seqK_n ?_
   refine sem_cond rfl (fun h4 => ?_) (fun h4 => ?_)
   ·have hne : x ≠ y := by
     intro e; subst e; simp at h4
    refine sem_seq ?_
    refine sem_region rfl ?_
    refine step_r rfl rfl trivial ?_
    refine step_nil ?_
    refine seqK_n ?_
    refine sem_ret ?_
    refine blkK_r ?_
    refine seqK_r ?_
    refine lupK_r ?_
    refine blkK_r ?_
    refine seqK_r ?_
    exact answersR rfl (by simp) (congrArg B (decide_eq_false (same_no hx hy hne)).symm) rfl
   ·have hxy : x = y := by
     have h := h4
     simp at h
     simpa using h
    refine sem_skip ?_
    refine blkK_n ?_
    refine seqK_n ?_
    refine sem_region rfl ?_
    refine step_bin rfl rfl rfl rfl rfl trivial ?_
    refine step_r rfl rfl trivial ?_
    refine step_nil ?_
    exact lup_again (k+1) (⟨hk, by rw [take_snoc hx, take_snoc hy, hI.2, hxy]⟩) (by omega) (less_of rfl ⟨⟨rfl, rfl⟩, ⟨rfl, rfl⟩, ⟨rfl, rfl⟩, ⟨congrArg (fun n => some (I n)) (wrapK hk hl_a), rfl⟩, trivial⟩ trivial (fun _ _ => .inr (Nat.zero_le _)))
  ·have hk : k = a.length := by have := of_decide_eq_false h2; have := hI.1; omega
   refine sem_exit ?_
   refine seqK_e ?_
   refine lupK_e ?_
   refine blkK_t rfl ?_
   refine seqK_n ?_
   refine sem_seq ?_
   refine sem_region rfl ?_
   refine step_r rfl rfl trivial ?_
   refine step_nil ?_
   refine seqK_n ?_
   refine sem_ret ?_
   exact answersR rfl (by simp) (congrArg B (decide_eq_true (same_all hI.2 hk hlen)).symm) rfl
end Go.Proofs.Ytkncpoaddamlbaa

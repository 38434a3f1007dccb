import Derived.Test.YtlcdcechaogofaaRaid22
namespace Go.Proofs.Ytlcdcechaogofaa
open Go Go.RowKit Go.Proofs.YtlcdcechaogofaaVm
attribute [local irreducible] opsWp AnswersE OpsS
set_option maxHeartbeats 400000
set_option maxRecDepth 100000
set_option linter.all false
theorem sameMR (a : List GMember) (a_f : Bool) (b : List GMember) (b_f : Bool) : Ok Try.prog 9 [.pv (.slc a.length a_f (a.flatMap encGMember)), .pv (.slc b.length b_f (b.flatMap encGMember))] [] (B (decide (a = b))) [] [] := by
 refine Ok.len fun hlen => ?_
 have hl_a : a.length ≤ maxLen := hlen _ (by simp [lensL, lens, lensP])
 have hl_b : b.length ≤ maxLen := hlen _ (by simp [lensL, lens, lensP])
 unfold maxLen at hl_a hl_b
 refine ok_of_sem Try.func9 rfl ?_
 show Walks Try.prog _ _ ⟨[(0, .pv (.slc a.length a_f (a.flatMap encGMember))), (1, .pv (.slc b.length b_f (b.flatMap encGMember)))], [], 0, [], 26, 0⟩
 refine sem_seq ?_
 refine sem_region rfl ?_
 refine step_r rfl rfl trivial ?_
 refine step_nil ?_
 refine seqK_n ?_
 refine sem_seq ?_
 refine sem_seq ?_
 refine sem_region rfl ?_
 refine step_r rfl rfl trivial ?_
 refine step_r rfl rfl trivial ?_
 refine step_r rfl rfl trivial ?_
 refine step_r rfl rfl trivial ?_
 refine step_bin rfl rfl rfl rfl rfl trivial ?_
 refine step_nil ?_
 refine seqK_n ?_
 refine sem_cond rfl (fun h1 => ?_) (fun h1 => ?_)
 ·skip
  refine sem_seq ?_
  refine sem_region rfl ?_
  refine step_r rfl rfl trivial ?_
  refine step_nil ?_
  refine seqK_n ?_
  refine sem_ret ?_
  refine seqK_r ?_
  have hne : ¬ a.length = b.length := by
   have h := h1; simp at h; omega
  exact answersR rfl (by simp) (congrArg B (decide_eq_false (fun e => hne (by rw [e]))).symm) rfl
 ·have hlen : a.length = b.length := by
   have h := h1; simp at h; omega
  refine sem_skip ?_
  refine seqK_n ?_
  refine sem_seq ?_
  refine sem_seq ?_
  refine sem_region rfl ?_
  refine step_r rfl rfl trivial ?_
  refine step_nil ?_
  refine seqK_n ?_
  refine sem_block ?_
  refine sem_loop_of (fun k : Nat => (⟨[(0, .pv (.slc a.length a_f (a.flatMap encGMember))), (1, .pv (.slc b.length b_f (b.flatMap encGMember))), (5, I k)], [], 0, [], 26, 0⟩ : St)) (fun k : Nat => k ≤ a.length ∧ a.take k = b.take k) (fun k : Nat => a.length - k) 0 (⟨Nat.zero_le _, rfl⟩) (less_of rfl ⟨⟨rfl, rfl⟩, ⟨rfl, rfl⟩, ⟨rfl, rfl⟩, trivial⟩ trivial (fun _ _ => .inr (Nat.zero_le _))) (fun k hI => ?_)
  show Walks Try.prog _ _ (⟨[(0, .pv (.slc a.length a_f (a.flatMap encGMember))), (1, .pv (.slc b.length b_f (b.flatMap encGMember))), (5, I k)], [], 0, [], 26, 0⟩ : St)
  refine sem_seq ?_
  refine sem_seq ?_
  refine sem_region rfl ?_
  refine step_r rfl rfl trivial ?_
  refine step_r rfl rfl trivial ?_
  refine step_r rfl rfl trivial ?_
  refine step_bin rfl rfl rfl rfl rfl trivial ?_
  refine step_nil ?_
  refine seqK_n ?_
  refine sem_cond rfl (fun h3 => ?_) (fun h3 => ?_)
  ·have hk : k < a.length := by simpa using h3
   have hk2 : k < b.length := by omega
   obtain ⟨x, hx⟩ : ∃ x, a[k]? = some x := ⟨_, List.getElem?_eq_getElem hk⟩
   obtain ⟨y, hy⟩ : ∃ y, b[k]? = some y := ⟨_, List.getElem?_eq_getElem hk2⟩
   refine sem_skip ?_
   refine seqK_n ?_
   refine sem_seq ?_
   refine sem_block ?_
   refine sem_seq ?_
   refine sem_drawn rfl (by decide +kernel) rfl ?_
   refine step_r rfl rfl trivial ?_
   refine step_r rfl rfl trivial ?_
   refine step_idxS (k := k) rfl rfl rfl rfl hk (flat_ne (s := 2) (enc := encGMember) (fun _ => rfl) (by decide) hk) rfl ?_
   refine step_load_row rfl rfl rfl (flat_lt (s := 2) (enc := encGMember) (fun _ => rfl) hk) (flat_take (s := 2) (enc := encGMember) (fun _ => rfl) hx) rfl ?_
   refine step_r rfl rfl trivial ?_
   refine step_r rfl rfl trivial ?_
   refine step_idxS (k := k) rfl rfl rfl rfl hk2 (flat_ne (s := 2) (enc := encGMember) (fun _ => rfl) (by decide) hk2) rfl ?_
   refine step_load_row rfl rfl rfl (flat_lt (s := 2) (enc := encGMember) (fun _ => rfl) hk2) (flat_take (s := 2) (enc := encGMember) (fun _ => rfl) hy) rfl ?_
   refine step_neqA rfl rfl rfl (by kernel_rfl) rfl rfl rfl rfl rfl ?_
   refine step_nil ?_
   refine seqK_n ?_
   refine sem_cond rfl (fun h4 => ?_) (fun h4 => ?_)
   ·have hne : x ≠ y := by
     intro e; subst e; simp at h4
    refine sem_seq ?_
    refine sem_region rfl ?_
    refine step_r rfl rfl trivial ?_
    refine step_nil ?_
    refine seqK_n ?_
    refine sem_ret ?_
    refine blkK_r ?_
    refine seqK_r ?_
    refine lupK_r ?_
    refine blkK_r ?_
    refine seqK_r ?_
    exact answersR rfl (by simp) (congrArg B (decide_eq_false (same_no hx hy hne)).symm) rfl
   ·have hxy : x = y := by
     have h := h4
     simp at h
     rcases x with ⟨⟩; rcases y with ⟨⟩; simp_all
    refine sem_skip ?_
    refine blkK_n ?_
    refine seqK_n ?_
    refine sem_region rfl ?_
    refine step_r rfl rfl trivial ?_
    refine step_bin rfl rfl rfl rfl rfl trivial ?_
    refine step_r rfl rfl trivial ?_
    refine step_nil ?_
    exact lup_again (k+1) (⟨hk, by rw [take_snoc hx, take_snoc hy, hI.2, hxy]⟩) (by omega) (less_of rfl ⟨⟨rfl, rfl⟩, ⟨rfl, rfl⟩, ⟨congrArg (fun n => some (I n)) (wrapK hk hl_a), rfl⟩, trivial⟩ trivial (fun _ _ => .inr (Nat.zero_le _)))
  ·have hk : k = a.length := by have := of_decide_eq_false h3; have := hI.1; omega
   refine sem_exit ?_
   refine seqK_e ?_
   refine lupK_e ?_
   refine blkK_t rfl ?_
   refine seqK_n ?_
   refine sem_seq ?_
   refine sem_region rfl ?_
   refine step_r rfl rfl trivial ?_
   refine step_nil ?_
   refine seqK_n ?_
   refine sem_ret ?_
   exact answersR rfl (by simp) (congrArg B (decide_eq_true (same_all hI.2 hk hlen)).symm) rfl

theorem sameI (a : List Int) (a_f : Bool) (b : List Int) (b_f : Bool) : Ok Try.prog 20 [.pv (.slc a.length a_f (encI a)), .pv (.slc b.length b_f (encI b))] [] (B (decide (a = b))) [] [] := by
 refine Ok.len fun hlen => ?_
 have hl_a : a.length ≤ maxLen := hlen _ (by simp [lensL, lens, lensP])
 have hl_b : b.length ≤ maxLen := hlen _ (by simp [lensL, lens, lensP])
 unfold maxLen at hl_a hl_b
 refine ok_of_sem Try.func20 rfl ?_
 show Walks Try.prog _ _ ⟨[(0, .pv (.slc a.length a_f (encI a))), (1, .pv (.slc b.length b_f (encI b)))], [], 0, [], 26, 0⟩
 refine sem_seq ?_
 refine sem_region rfl ?_
 refine step_r rfl rfl trivial ?_
 refine step_nil ?_
 refine seqK_n ?_
 refine sem_seq ?_
 refine sem_seq ?_
 refine sem_region rfl ?_
 refine step_r rfl rfl trivial ?_
 refine step_r rfl rfl trivial ?_
 refine step_r rfl rfl trivial ?_
 refine step_r rfl rfl trivial ?_
 refine step_bin rfl rfl rfl rfl rfl trivial ?_
 refine step_nil ?_
 refine seqK_n ?_
 refine sem_cond rfl (fun h1 => ?_) (fun h1 => ?_)
 ·skip
  refine sem_seq ?_
  refine sem_region rfl ?_
  refine step_r rfl rfl trivial ?_
  refine step_nil ?_
  refine seqK_n ?_
  refine sem_ret ?_
  refine seqK_r ?_
  have hne : ¬ a.length = b.length := by
   have h := h1; simp at h; omega
  exact answersR rfl (by simp) (congrArg B (decide_eq_false (fun e => hne (by rw [e]))).symm) rfl
 ·have hlen : a.length = b.length := by
   have h := h1; simp at h; omega
  refine sem_skip ?_
  refine seqK_n ?_
  refine sem_seq ?_
  refine sem_seq ?_
  refine sem_region rfl ?_
  refine step_r rfl rfl trivial ?_
  refine step_nil ?_
  refine seqK_n ?_
  refine sem_block ?_
  refine sem_loop_of (fun k : Nat => (⟨[(0, .pv (.slc a.length a_f (encI a))), (1, .pv (.slc b.length b_f (encI b))), (5, I k)], [], 0, [], 26, 0⟩ : St)) (fun k : Nat => k ≤ a.length ∧ a.take k = b.take k) (fun k : Nat => a.length - k) 0 (⟨Nat.zero_le _, rfl⟩) (less_of rfl ⟨⟨rfl, rfl⟩, ⟨rfl, rfl⟩, ⟨rfl, rfl⟩, trivial⟩ trivial (fun _ _ => .inr (Nat.zero_le _))) (fun k hI => ?_)
  show Walks Try.prog _ _ (⟨[(0, .pv (.slc a.length a_f (encI a))), (1, .pv (.slc b.length b_f (encI b))), (5, I k)], [], 0, [], 26, 0⟩ : St)
  refine sem_seq ?_
  refine sem_seq ?_
  refine sem_region rfl ?_
  refine step_r rfl rfl trivial ?_
  refine step_r rfl rfl trivial ?_
  refine step_r rfl rfl trivial ?_
  refine step_bin rfl rfl rfl rfl rfl trivial ?_
  refine step_nil ?_
  refine seqK_n ?_
  refine sem_cond rfl (fun h3 => ?_) (fun h3 => ?_)
  ·have hk : k < a.length := by simpa using h3
   have hk2 : k < b.length := by omega
   obtain ⟨x, hx⟩ : ∃ x, a[k]? = some x := ⟨_, List.getElem?_eq_getElem hk⟩
   obtain ⟨y, hy⟩ : ∃ y, b[k]? = some y := ⟨_, List.getElem?_eq_getElem hk2⟩
   refine sem_skip ?_
   refine seqK_n ?_
   refine sem_seq ?_
   refine sem_block ?_
   refine sem_seq ?_
   refine sem_drawn rfl (by decide +kernel) rfl ?_
   refine step_r rfl rfl trivial ?_
   refine step_r rfl rfl trivial ?_
   refine step_idxS (k := k) rfl rfl rfl rfl hk (encI_ne hk) rfl ?_
   refine step_load_one rfl rfl rfl (encI_get hx) rfl ?_
   refine step_r rfl rfl trivial ?_
   refine step_r rfl rfl trivial ?_
   refine step_idxS (k := k) rfl rfl rfl rfl hk2 (encI_ne hk2) rfl ?_
   refine step_load_one rfl rfl rfl (encI_get hy) rfl ?_
   refine step_bin rfl rfl rfl rfl rfl trivial ?_
   refine step_nil ?_
   refine seqK_n ?_
   refine sem_cond rfl (fun h4 => ?_) (fun h4 => ?_)
   ·have hne : x ≠ y := by
     intro e; subst e; simp at h4
    refine sem_seq ?_
    refine sem_region rfl ?_
    refine step_r rfl rfl trivial ?_
    refine step_nil ?_
    refine seqK_n ?_
    refine sem_ret ?_
    refine blkK_r ?_
    refine seqK_r ?_
    refine lupK_r ?_
    refine blkK_r ?_
    refine seqK_r ?_
    exact answersR rfl (by simp) (congrArg B (decide_eq_false (same_no hx hy hne)).symm) rfl
   ·have hxy : x = y := by
     have h := h4
     simp at h
     simpa using h
    refine sem_skip ?_
    refine blkK_n ?_
    refine seqK_n ?_
    refine sem_region rfl ?_
    refine step_r rfl rfl trivial ?_
    refine step_bin rfl rfl rfl rfl rfl trivial ?_
    refine step_r rfl rfl trivial ?_
    refine step_nil ?_
    exact lup_again (k+1) (⟨hk, by rw [take_snoc hx, take_snoc hy, hI.2, hxy]⟩) (by omega) (less_of rfl ⟨⟨rfl, rfl⟩, ⟨rfl, rfl⟩, ⟨congrArg (fun n => some (I n)) (wrapK hk hl_a), rfl⟩, trivial⟩ trivial (fun _ _ => .inr (Nat.zero_le _)))
  ·have hk : k = a.length := by have := of_decide_eq_false h3; have := hI.1; omega
   refine sem_exit ?_
   refine seqK_e ?_
   refine lupK_e ?_
   refine blkK_t rfl ?_
   refine seqK_n ?_
   refine sem_seq ?_
   refine sem_region rfl ?_
   refine step_r rfl rfl trivial ?_
   refine step_nil ?_
   refine seqK_n ?_
   refine sem_ret ?_
   exact answersR rfl (by simp) (congrArg B (decide_eq_true (same_all hI.2 hk hlen)).symm) rfl

def small22_L0 : Nat → Nat → (List GMember) → Sum Bool (List GMember)
  | 0, k0, l0 => .inr l0
  | n_ + 1, k0, l0 => if ((joinM l0 k0).2.2 : Int) = 0 then small22_L0 n_ (k0 + 1) ((joinM l0 k0).1) else .inl false
def small22 : Bool :=
  (match small22_L0 (7 - 1) 1 ([]) with
    | .inl r_ => r_
    | .inr l_0 => if (groupM l_0 5 : Int) = 1 then (if (groupM l_0 6 : Int) = 2 then (if ((moveM l_0 6 1).2 : Int) = 4 then (if ((swapM l_0 1 6).2 : Int) = 0 then (if (groupM ((swapM l_0 1 6).1) 1 : Int) = 2 then (if (inM ((swapM l_0 1 6).1) 1) = ([2, 3, 4, 5, 6]) then (if (leadM ((swapM l_0 1 6).1) : Int) = 1 then (rightM ((swapM l_0 1 6).1)) else false) else false) else false) else false) else false) else false) else false)
theorem small22_ok  : Ok Try.prog 6 [] [] (B (small22)) [] [] := by
 refine ok_of_sem Try.func6 rfl ?_
 show Walks Try.prog _ _ ⟨[], [], 0, [], 70, 0⟩
 refine sem_seq ?_
 refine sem_region rfl ?_
 refine step_r rfl rfl trivial ?_
 refine step_nil ?_
 refine seqK_n ?_
 refine sem_seq ?_
 refine sem_region rfl ?_
 refine step_n (nx' := 1) rfl rfl rfl trivial ?_
 refine step_nil ?_
 refine seqK_n ?_
 refine sem_seq ?_
 refine sem_seq ?_
 refine sem_region rfl ?_
 refine step_r rfl rfl trivial ?_
 refine step_nil ?_
 refine seqK_n ?_
 refine sem_cutW (fun l_0 : List GMember => (⟨[(1, .ref 0 2 0 l_0.length)], [(0, .row 31 2 (l_0.flatMap encGMember))], 1, [], 70, 0⟩ : St)) (fun l_0 : List GMember => small22_L0 (7 - 1) 1 ([]) = .inr l_0 ∧ (l_0.length ≤ 7)) ?_ ?_
 ·refine sem_block ?_
  refine sem_loopT (fun w_ : Nat × (List GMember) => match w_ with | (k0, l0) => (⟨[(1, .ref 0 2 0 l0.length), (2, I k0)], [(0, .row 31 2 (l0.flatMap encGMember))], 1, [], 70, 0⟩ : St)) (fun w_ : Nat × (List GMember) => match w_ with | (k0, l0) => small22_L0 (7 - k0) k0 l0 = small22_L0 (7 - 1) 1 ([]) ∧ k0 ≤ 7 ∧ l0.length ≤ k0) (fun w_ : Nat × (List GMember) => match w_ with | (k0, l0) => 7 - k0) (1, []) (⟨rfl, (by first | omega | (simp; omega)), by first | omega | simp | (simp; omega)⟩) ?_ (fun w_ hh_ => ?_)
  ·exact (Trans.ren [] (by decide +kernel) (by decide +kernel) rfl ⟨⟨congrArg (fun n => some (AV.ref 0 2 0 n)) (by first | rfl | simp only [List.length_set] | simp | omega | (simp; omega)), rfl⟩, ⟨rfl, rfl⟩, trivial⟩ ⟨⟨rfl, rfl, rfl⟩, trivial⟩ (by decide))
  obtain ⟨k0, l0⟩ := w_
  obtain ⟨hI0, hb0, hv0⟩ := hh_
  show Walks Try.prog _ _ (⟨[(1, .ref 0 2 0 l0.length), (2, I k0)], [(0, .row 31 2 (l0.flatMap encGMember))], 1, [], 70, 0⟩ : St)
  refine sem_seq ?_
  refine sem_seq ?_
  refine sem_region rfl ?_
  refine step_r rfl rfl trivial ?_
  refine step_bin rfl rfl rfl rfl rfl trivial ?_
  refine step_nil ?_
  refine seqK_n ?_
  refine sem_cond rfl (fun h3 => ?_) (fun h3 => ?_)
  ·have g3 : (k0 : Int) ≤ 6 := of_decide_eq_true h3
   have hm0 : 7 - k0 = (7 - (k0 + 1)) + 1 := by omega
   refine sem_skip ?_
   refine seqK_n ?_
   refine sem_seq ?_
   refine sem_block ?_
   refine sem_seq ?_
   refine sem_region rfl ?_
   refine step_r rfl rfl trivial ?_
   refine step_r rfl rfl trivial ?_
   refine step_callJ (Hin := [.row _ _ _]) (out' := .tup [.ref 1 _ _ _, _, _]) (H' := [(1, .row _ _ _), (0, .row _ _ _)]) (nx' := 2) [0] rfl rfl rfl rfl rfl rfl rfl rfl rfl (by (repeat' apply And.intro) <;> first | trivial | rfl | exact flat_len (s := 2) (enc := encGMember) (fun _ => rfl) _ | exact flat_len (fun _ => rfl) _ | exact encI_len _ | exact encB_len _ | exact encY_len _ | exact Nat.le_of_ble_eq_true rfl | assumption) (joinM_ok l0 false k0 (by first | omega | (simp; omega))) rfl (by decide) rfl rfl ⟨encGMember_solid, trivial⟩ rfl rfl rfl rfl ?_
   have p4 := joinM_len l0 k0
   refine step_r rfl rfl trivial ?_
   refine step_r rfl rfl trivial ?_
   refine step_r rfl rfl trivial ?_
   refine step_r rfl rfl trivial ?_
   refine step_r rfl rfl trivial ?_
   refine step_r rfl rfl trivial ?_
   refine step_r rfl rfl trivial ?_
   refine step_nil ?_
   refine seqK_n ?_
   refine sem_seq ?_
   refine sem_seq ?_
   refine sem_region rfl ?_
   refine step_r rfl rfl trivial ?_
   refine step_bin rfl rfl rfl rfl rfl trivial ?_
   refine step_nil ?_
   refine seqK_n ?_
   refine sem_cond rfl (fun h7 => ?_) (fun h7 => ?_)
   ·have g7 : ¬ (((joinM l0 k0).2.2 : Int) = 0) := bne_t h7
    refine sem_seq ?_
    refine sem_region rfl ?_
    refine step_r rfl rfl trivial ?_
    refine step_nil ?_
    refine seqK_n ?_
    refine sem_ret ?_
    refine seqK_r ?_
    refine blkK_r ?_
    refine seqK_r ?_
    refine lupK_r ?_
    refine blkK_r ?_
    refine cutW_r ?_
    refine seqK_r ?_
    have e8 : small22_L0 (7 - 1) 1 ([]) = .inl false := by
     rewrite [← hI0, hm0]
     rewrite [small22_L0]
     try dsimp only
     rewrite [if_neg g7]
     all_goals rfl
    have e9 : small22 = false := by
     unfold small22
     try dsimp only
     rewrite [e8]
     try dsimp only
     all_goals rfl
    rw [e9]
    exact answersR rfl ⟨trivial, trivial⟩ (rfl) rfl
   ·have g7 : ((joinM l0 k0).2.2 : Int) = 0 := bne_f h7
    refine sem_skip ?_
    refine seqK_n ?_
    refine sem_region rfl ?_
    refine step_r rfl rfl trivial ?_
    refine step_r rfl rfl trivial ?_
    refine step_nil ?_
    refine blkK_n ?_
    refine seqK_n ?_
    refine sem_region rfl ?_
    refine step_r rfl rfl trivial ?_
    refine step_bin rfl rfl rfl rfl rfl trivial ?_
    refine step_r rfl rfl trivial ?_
    refine step_nil ?_
    have e11 : small22_L0 (7 - k0) k0 l0 = small22_L0 (7 - (k0 + 1)) (k0 + 1) ((joinM l0 k0).1) := by
     rewrite [hm0]
     rewrite [small22_L0]
     try dsimp only
     rewrite [if_pos g7]
     all_goals rfl
    exact lup_againT (k0 + 1, (joinM l0 k0).1) ⟨e11.symm.trans hI0, (by omega), by first | omega | assumption | (simp only [List.length_append, List.length_cons, List.length_nil, List.length_set]; omega) | (simp; omega) | grind⟩ (by show 7 - (k0 + 1) < 7 - k0; omega) (Trans.ren [(0, 1), (1, 0)] (by decide +kernel) (by decide +kernel) rfl ⟨⟨rfl, rfl⟩, ⟨congrArg (fun n => some (I n)) (wrapI (k := k0) (by first | omega | (simp; omega))), rfl⟩, trivial⟩ ⟨⟨rfl, rfl, rfl⟩, trivial⟩ (by decide))
  ·have g3 : ¬ ((k0 : Int) ≤ 6) := of_decide_eq_false h3
   have hm0 : 7 - k0 = 0 := by omega
   refine sem_exit ?_
   refine seqK_e ?_
   refine lupK_e ?_
   refine blkK_t rfl ?_
   have e12 : small22_L0 (7 - 1) 1 ([]) = .inr l0 := by
    rewrite [← hI0, hm0]
    rewrite [small22_L0]
    try dsimp only
    all_goals rfl
   exact cutW_n l0 ⟨e12, by first | assumption | omega | (simp; omega) | simp_all | grind⟩ (Trans.ren [] (by decide +kernel) (by decide +kernel) rfl ⟨⟨rfl, rfl⟩, trivial⟩ ⟨⟨rfl, rfl, rfl⟩, trivial⟩ (by decide))
 ·rintro l_0 ⟨(hJ1 : small22_L0 (7 - 1) 1 ([]) = .inr l_0), hE0⟩
  show seqK _ _ _ .normal (⟨[(1, .ref 0 2 0 l_0.length)], [(0, .row 31 2 (l_0.flatMap encGMember))], 1, [], 70, 0⟩ : St)
  refine seqK_n ?_
  refine sem_seq ?_
  refine sem_region rfl ?_
  refine step_r rfl rfl trivial ?_
  refine step_callJ (Hin := [.row _ _ _]) (out' := .tup [.ref 1 _ _ _, _]) (H' := [(1, .row _ _ _), (0, .row _ _ _)]) (nx' := 2) [0] rfl rfl rfl rfl rfl rfl rfl rfl rfl (by (repeat' apply And.intro) <;> first | trivial | rfl | exact flat_len (s := 2) (enc := encGMember) (fun _ => rfl) _ | exact flat_len (fun _ => rfl) _ | exact encI_len _ | exact encB_len _ | exact encY_len _ | exact Nat.le_of_ble_eq_true rfl | assumption) (moveM_ok l_0 false 6 1 (by first | omega | (simp; omega))) rfl (by decide) rfl rfl ⟨encGMember_solid, trivial⟩ rfl rfl rfl rfl ?_
  have p13 := moveM_len l_0 6 1
  refine step_r rfl rfl trivial ?_
  refine step_r rfl rfl trivial ?_
  refine step_r rfl rfl trivial ?_
  refine step_r rfl rfl trivial ?_
  refine step_r rfl rfl trivial ?_
  refine step_nil ?_
  refine seqK_n ?_
  refine sem_seq ?_
  refine sem_region rfl ?_
  refine step_r rfl rfl trivial ?_
  refine step_callJ (Hin := [.row _ _ _]) (out' := .tup [.ref 2 _ _ _, _]) (H' := [(2, .row _ _ _), (1, .row _ _ _), (0, .row _ _ _)]) (nx' := 3) [0] rfl rfl rfl rfl rfl rfl rfl rfl rfl (by (repeat' apply And.intro) <;> first | trivial | rfl | exact flat_len (s := 2) (enc := encGMember) (fun _ => rfl) _ | exact flat_len (fun _ => rfl) _ | exact encI_len _ | exact encB_len _ | exact encY_len _ | exact Nat.le_of_ble_eq_true rfl | assumption) (swapM_ok l_0 false 1 6 (by first | omega | (simp; omega))) rfl (by decide) rfl rfl ⟨encGMember_solid, trivial⟩ rfl rfl rfl rfl ?_
  have p15 := swapM_len l_0 1 6
  refine step_r rfl rfl trivial ?_
  refine step_r rfl rfl trivial ?_
  refine step_r rfl rfl trivial ?_
  refine step_r rfl rfl trivial ?_
  refine step_r rfl rfl trivial ?_
  refine step_nil ?_
  refine seqK_n ?_
  refine sem_seq ?_
  refine sem_region rfl ?_
  refine step_r rfl rfl trivial ?_
  refine step_callJ (Hin := [.row _ _ _]) (H' := [(2, .row _ _ _), (1, .row _ _ _), (0, .row _ _ _)]) (nx' := 3) [0] rfl rfl rfl rfl rfl rfl rfl rfl rfl (by (repeat' apply And.intro) <;> first | trivial | rfl | exact flat_len (s := 2) (enc := encGMember) (fun _ => rfl) _ | exact flat_len (fun _ => rfl) _ | exact encI_len _ | exact encB_len _ | exact encY_len _ | exact Nat.le_of_ble_eq_true rfl | assumption) (groupM_ok l_0 false 5) rfl (by decide) rfl rfl trivial rfl rfl rfl rfl ?_
  refine step_bin rfl rfl rfl rfl rfl trivial ?_
  refine step_r rfl rfl trivial ?_
  refine step_gs rfl (fun h18 => ?_) (fun h18 => ?_)
  ·have g18 : (groupM l_0 5 : Int) = 1 := beq_t h18
   refine step_g1 rfl h18 ?_
   refine step_r rfl rfl trivial ?_
   refine step_g1 rfl h18 ?_
   refine step_callJ (Hin := [.row _ _ _]) (H' := [(2, .row _ _ _), (1, .row _ _ _), (0, .row _ _ _)]) (nx' := 3) [0] rfl rfl rfl rfl rfl rfl rfl rfl rfl (by (repeat' apply And.intro) <;> first | trivial | rfl | exact flat_len (s := 2) (enc := encGMember) (fun _ => rfl) _ | exact flat_len (fun _ => rfl) _ | exact encI_len _ | exact encB_len _ | exact encY_len _ | exact Nat.le_of_ble_eq_true rfl | assumption) (groupM_ok l_0 false 6) rfl (by decide) rfl rfl trivial rfl rfl rfl rfl ?_
   refine step_g1 rfl h18 ?_
   refine step_bin rfl rfl rfl rfl rfl trivial ?_
   refine step_pickT rfl h18 rfl rfl ?_
   refine step_r rfl rfl trivial ?_
   refine step_gs rfl (fun h20 => ?_) (fun h20 => ?_)
   ·have g20 : (groupM l_0 6 : Int) = 2 := beq_t h20
    refine step_g1 rfl h20 ?_
    refine step_r rfl rfl trivial ?_
    refine step_g1 rfl h20 ?_
    refine step_bin rfl rfl rfl rfl rfl trivial ?_
    refine step_pickT rfl h20 rfl rfl ?_
    refine step_r rfl rfl trivial ?_
    refine step_gs rfl (fun h22 => ?_) (fun h22 => ?_)
    ·have g22 : ((moveM l_0 6 1).2 : Int) = 4 := beq_t h22
     refine step_g1 rfl h22 ?_
     refine step_r rfl rfl trivial ?_
     refine step_g1 rfl h22 ?_
     refine step_bin rfl rfl rfl rfl rfl trivial ?_
     refine step_pickT rfl h22 rfl rfl ?_
     refine step_r rfl rfl trivial ?_
     refine step_gs rfl (fun h24 => ?_) (fun h24 => ?_)
     ·have g24 : ((swapM l_0 1 6).2 : Int) = 0 := beq_t h24
      refine step_g1 rfl h24 ?_
      refine step_r rfl rfl trivial ?_
      refine step_g1 rfl h24 ?_
      refine step_callJ (Hin := [.row _ _ _]) (H' := [(2, .row _ _ _), (1, .row _ _ _), (0, .row _ _ _)]) (nx' := 3) [2] rfl rfl rfl rfl rfl rfl rfl rfl rfl (by (repeat' apply And.intro) <;> first | trivial | rfl | exact flat_len (s := 2) (enc := encGMember) (fun _ => rfl) _ | exact flat_len (fun _ => rfl) _ | exact encI_len _ | exact encB_len _ | exact encY_len _ | exact Nat.le_of_ble_eq_true rfl | assumption) (groupM_ok ((swapM l_0 1 6).1) false 1) rfl (by decide) rfl rfl trivial rfl rfl rfl rfl ?_
      refine step_g1 rfl h24 ?_
      refine step_bin rfl rfl rfl rfl rfl trivial ?_
      refine step_pickT rfl h24 rfl rfl ?_
      refine step_r rfl rfl trivial ?_
      refine step_gs rfl (fun h26 => ?_) (fun h26 => ?_)
      ·have g26 : (groupM ((swapM l_0 1 6).1) 1 : Int) = 2 := beq_t h26
       refine step_g1 rfl h26 ?_
       refine step_r rfl rfl trivial ?_
       refine step_g1 rfl h26 ?_
       refine step_callJ (Hin := [.row _ _ _]) (out' := .ref 3 _ _ _) (H' := [(3, .row _ _ _), (2, .row _ _ _), (1, .row _ _ _), (0, .row _ _ _)]) (nx' := 4) [2] rfl rfl rfl rfl rfl rfl rfl rfl rfl (by (repeat' apply And.intro) <;> first | trivial | rfl | exact flat_len (s := 2) (enc := encGMember) (fun _ => rfl) _ | exact flat_len (fun _ => rfl) _ | exact encI_len _ | exact encB_len _ | exact encY_len _ | exact Nat.le_of_ble_eq_true rfl | assumption) (inM_ok ((swapM l_0 1 6).1) false 1 (by first | omega | (simp; omega))) rfl (by decide) rfl rfl ⟨encI_solid, trivial⟩ rfl rfl rfl rfl ?_
       refine step_g1 rfl h26 ?_
       refine step_n (o := .row _ _ [_, _, _, _, _]) (nx' := 5) rfl rfl rfl (by decide) ?_
       refine step_g1 rfl h26 ?_
       refine step_callJ (Hin := [.row _ _ _, .row _ _ _]) (H' := [(4, .row _ _ _), (3, .row _ _ _), (2, .row _ _ _), (1, .row _ _ _), (0, .row _ _ _)]) (nx' := 5) [3, 4] rfl rfl rfl rfl rfl rfl rfl rfl rfl (by (repeat' apply And.intro) <;> first | trivial | rfl | exact flat_len (fun _ => rfl) _ | exact encI_len _ | exact encB_len _ | exact encY_len _ | exact Nat.le_of_ble_eq_true rfl | assumption) (sameI (inM ((swapM l_0 1 6).1) 1) false ([2, 3, 4, 5, 6]) false) rfl (by decide) rfl rfl trivial rfl rfl rfl rfl ?_
       refine step_pickT rfl h26 rfl rfl ?_
       refine step_r rfl rfl trivial ?_
       refine step_gs rfl (fun h28 => ?_) (fun h28 => ?_)
       ·have g28 : (inM ((swapM l_0 1 6).1) 1) = ([2, 3, 4, 5, 6]) := of_decide_eq_true h28
        refine step_g1 rfl h28 ?_
        refine step_r rfl rfl trivial ?_
        refine step_g1 rfl h28 ?_
        refine step_callJ (Hin := [.row _ _ _]) (H' := [(4, .row _ _ _), (3, .row _ _ _), (2, .row _ _ _), (1, .row _ _ _), (0, .row _ _ _)]) (nx' := 5) [2] rfl rfl rfl rfl rfl rfl rfl rfl rfl (by (repeat' apply And.intro) <;> first | trivial | rfl | exact flat_len (s := 2) (enc := encGMember) (fun _ => rfl) _ | exact flat_len (fun _ => rfl) _ | exact encI_len _ | exact encB_len _ | exact encY_len _ | exact Nat.le_of_ble_eq_true rfl | assumption) (leadM_ok ((swapM l_0 1 6).1) false) rfl (by decide) rfl rfl trivial rfl rfl rfl rfl ?_
        refine step_g1 rfl h28 ?_
        refine step_bin rfl rfl rfl rfl rfl trivial ?_
        refine step_pickT rfl h28 rfl rfl ?_
        refine step_r rfl rfl trivial ?_
        refine step_gs rfl (fun h30 => ?_) (fun h30 => ?_)
        ·have g30 : (leadM ((swapM l_0 1 6).1) : Int) = 1 := beq_t h30
         refine step_g1 rfl h30 ?_
         refine step_r rfl rfl trivial ?_
         refine step_g1 rfl h30 ?_
         refine step_callJ (Hin := [.row _ _ _]) (H' := [(4, .row _ _ _), (3, .row _ _ _), (2, .row _ _ _), (1, .row _ _ _), (0, .row _ _ _)]) (nx' := 5) [2] rfl rfl rfl rfl rfl rfl rfl rfl rfl (by (repeat' apply And.intro) <;> first | trivial | rfl | exact flat_len (s := 2) (enc := encGMember) (fun _ => rfl) _ | exact flat_len (fun _ => rfl) _ | exact encI_len _ | exact encB_len _ | exact encY_len _ | exact Nat.le_of_ble_eq_true rfl | assumption) (rightM_ok ((swapM l_0 1 6).1) false) rfl (by decide) rfl rfl trivial rfl rfl rfl rfl ?_
         refine step_pickT rfl h30 rfl rfl ?_
         refine step_r rfl rfl trivial ?_
         refine step_nil ?_
         refine seqK_n ?_
         refine sem_ret ?_
         have e32 : small22 = (rightM ((swapM l_0 1 6).1)) := by
          unfold small22
          try dsimp only
          rewrite [hJ1]
          try dsimp only
          rewrite [if_pos g18, if_pos g20, if_pos g22, if_pos g24, if_pos g26, if_pos g28, if_pos g30]
          all_goals rfl
         rw [e32]
         exact answersR rfl ⟨trivial, trivial⟩ (rfl) rfl
        ·have g30 : ¬ ((leadM ((swapM l_0 1 6).1) : Int) = 1) := beq_f h30
         refine step_g0 rfl h30 rfl ?_
         refine step_g0 rfl h30 rfl ?_
         refine step_pickF rfl h30 rfl rfl ?_
         refine step_r rfl rfl trivial ?_
         refine step_nil ?_
         refine seqK_n ?_
         refine sem_ret ?_
         have e33 : small22 = false := by
          unfold small22
          try dsimp only
          rewrite [hJ1]
          try dsimp only
          rewrite [if_pos g18, if_pos g20, if_pos g22, if_pos g24, if_pos g26, if_pos g28, if_neg g30]
          all_goals rfl
         rw [e33]
         exact answersR rfl ⟨trivial, trivial⟩ (rfl) rfl
       ·have g28 : ¬ ((inM ((swapM l_0 1 6).1) 1) = ([2, 3, 4, 5, 6])) := of_decide_eq_false h28
        refine step_g0 rfl h28 rfl ?_
        refine step_g0 rfl h28 rfl ?_
        refine step_g0 rfl h28 rfl ?_
        refine step_pickF rfl h28 rfl rfl ?_
        refine step_r rfl rfl trivial ?_
        refine step_gf rfl rfl ?_
        refine step_gf rfl rfl ?_
        refine step_r rfl rfl trivial ?_
        refine step_r rfl rfl trivial ?_
        refine step_nil ?_
        refine seqK_n ?_
        refine sem_ret ?_
        have e34 : small22 = false := by
         unfold small22
         try dsimp only
         rewrite [hJ1]
         try dsimp only
         rewrite [if_pos g18, if_pos g20, if_pos g22, if_pos g24, if_pos g26, if_neg g28]
         all_goals rfl
        rw [e34]
        exact answersR rfl ⟨trivial, trivial⟩ (rfl) rfl
      ·have g26 : ¬ ((groupM ((swapM l_0 1 6).1) 1 : Int) = 2) := beq_f h26
       refine step_g0 rfl h26 rfl ?_
       refine step_g0 rfl h26 rfl ?_
       refine step_g0 rfl h26 rfl ?_
       refine step_g0 rfl h26 rfl ?_
       refine step_pickF rfl h26 rfl rfl ?_
       refine step_r rfl rfl trivial ?_
       refine step_gf rfl rfl ?_
       refine step_gf rfl rfl ?_
       refine step_gf rfl rfl ?_
       refine step_r rfl rfl trivial ?_
       refine step_r rfl rfl trivial ?_
       refine step_gf rfl rfl ?_
       refine step_gf rfl rfl ?_
       refine step_r rfl rfl trivial ?_
       refine step_r rfl rfl trivial ?_
       refine step_nil ?_
       refine seqK_n ?_
       refine sem_ret ?_
       have e35 : small22 = false := by
        unfold small22
        try dsimp only
        rewrite [hJ1]
        try dsimp only
        rewrite [if_pos g18, if_pos g20, if_pos g22, if_pos g24, if_neg g26]
        all_goals rfl
       rw [e35]
       exact answersR rfl ⟨trivial, trivial⟩ (rfl) rfl
     ·have g24 : ¬ (((swapM l_0 1 6).2 : Int) = 0) := beq_f h24
      refine step_g0 rfl h24 rfl ?_
      refine step_g0 rfl h24 rfl ?_
      refine step_g0 rfl h24 rfl ?_
      refine step_pickF rfl h24 rfl rfl ?_
      refine step_r rfl rfl trivial ?_
      refine step_gf rfl rfl ?_
      refine step_gf rfl rfl ?_
      refine step_gf rfl rfl ?_
      refine step_gf rfl rfl ?_
      refine step_r rfl rfl trivial ?_
      refine step_r rfl rfl trivial ?_
      refine step_gf rfl rfl ?_
      refine step_gf rfl rfl ?_
      refine step_gf rfl rfl ?_
      refine step_r rfl rfl trivial ?_
      refine step_r rfl rfl trivial ?_
      refine step_gf rfl rfl ?_
      refine step_gf rfl rfl ?_
      refine step_r rfl rfl trivial ?_
      refine step_r rfl rfl trivial ?_
      refine step_nil ?_
      refine seqK_n ?_
      refine sem_ret ?_
      have e36 : small22 = false := by
       unfold small22
       try dsimp only
       rewrite [hJ1]
       try dsimp only
       rewrite [if_pos g18, if_pos g20, if_pos g22, if_neg g24]
       all_goals rfl
      rw [e36]
      exact answersR rfl ⟨trivial, trivial⟩ (rfl) rfl
    ·have g22 : ¬ (((moveM l_0 6 1).2 : Int) = 4) := beq_f h22
     refine step_g0 rfl h22 rfl ?_
     refine step_g0 rfl h22 rfl ?_
     refine step_pickF rfl h22 rfl rfl ?_
     refine step_r rfl rfl trivial ?_
     refine step_gf rfl rfl ?_
     refine step_gf rfl rfl ?_
     refine step_gf rfl rfl ?_
     refine step_r rfl rfl trivial ?_
     refine step_r rfl rfl trivial ?_
     refine step_gf rfl rfl ?_
     refine step_gf rfl rfl ?_
     refine step_gf rfl rfl ?_
     refine step_gf rfl rfl ?_
     refine step_r rfl rfl trivial ?_
     refine step_r rfl rfl trivial ?_
     refine step_gf rfl rfl ?_
     refine step_gf rfl rfl ?_
     refine step_gf rfl rfl ?_
     refine step_r rfl rfl trivial ?_
     refine step_r rfl rfl trivial ?_
     refine step_gf rfl rfl ?_
     refine step_gf rfl rfl ?_
     refine step_r rfl rfl trivial ?_
     refine step_r rfl rfl trivial ?_
     refine step_nil ?_
     refine seqK_n ?_
     refine sem_ret ?_
     have e37 : small22 = false := by
      unfold small22
      try dsimp only
      rewrite [hJ1]
      try dsimp only
      rewrite [if_pos g18, if_pos g20, if_neg g22]
      all_goals rfl
     rw [e37]
     exact answersR rfl ⟨trivial, trivial⟩ (rfl) rfl
   ·have g20 : ¬ ((groupM l_0 6 : Int) = 2) := beq_f h20
    refine step_g0 rfl h20 rfl ?_
    refine step_g0 rfl h20 rfl ?_
    refine step_pickF rfl h20 rfl rfl ?_
    refine step_r rfl rfl trivial ?_
    refine step_gf rfl rfl ?_
    refine step_gf rfl rfl ?_
    refine step_r rfl rfl trivial ?_
    refine step_r rfl rfl trivial ?_
    refine step_gf rfl rfl ?_
    refine step_gf rfl rfl ?_
    refine step_gf rfl rfl ?_
    refine step_r rfl rfl trivial ?_
    refine step_r rfl rfl trivial ?_
    refine step_gf rfl rfl ?_
    refine step_gf rfl rfl ?_
    refine step_gf rfl rfl ?_
    refine step_gf rfl rfl ?_
    refine step_r rfl rfl trivial ?_
    refine step_r rfl rfl trivial ?_
    refine step_gf rfl rfl ?_
    refine step_gf rfl rfl ?_
    refine step_gf rfl rfl ?_
    refine step_r rfl rfl trivial ?_
    refine step_r rfl rfl trivial ?_
    refine step_gf rfl rfl ?_
    refine step_gf rfl rfl ?_
    refine step_r rfl rfl trivial ?_
    refine step_r rfl rfl trivial ?_
    refine step_nil ?_
    refine seqK_n ?_
    refine sem_ret ?_
    have e38 : small22 = false := by
     unfold small22
     try dsimp only
     rewrite [hJ1]
     try dsimp only
     rewrite [if_pos g18, if_neg g20]
     all_goals rfl
    rw [e38]
    exact answersR rfl ⟨trivial, trivial⟩ (rfl) rfl
  ·have g18 : ¬ ((groupM l_0 5 : Int) = 1) := beq_f h18
   refine step_g0 rfl h18 rfl ?_
   refine step_g0 rfl h18 rfl ?_
   refine step_g0 rfl h18 rfl ?_
   refine step_pickF rfl h18 rfl rfl ?_
   refine step_r rfl rfl trivial ?_
   refine step_gf rfl rfl ?_
   refine step_gf rfl rfl ?_
   refine step_r rfl rfl trivial ?_
   refine step_r rfl rfl trivial ?_
   refine step_gf rfl rfl ?_
   refine step_gf rfl rfl ?_
   refine step_r rfl rfl trivial ?_
   refine step_r rfl rfl trivial ?_
   refine step_gf rfl rfl ?_
   refine step_gf rfl rfl ?_
   refine step_gf rfl rfl ?_
   refine step_r rfl rfl trivial ?_
   refine step_r rfl rfl trivial ?_
   refine step_gf rfl rfl ?_
   refine step_gf rfl rfl ?_
   refine step_gf rfl rfl ?_
   refine step_gf rfl rfl ?_
   refine step_r rfl rfl trivial ?_
   refine step_r rfl rfl trivial ?_
   refine step_gf rfl rfl ?_
   refine step_gf rfl rfl ?_
   refine step_gf rfl rfl ?_
   refine step_r rfl rfl trivial ?_
   refine step_r rfl rfl trivial ?_
   refine step_gf rfl rfl ?_
   refine step_gf rfl rfl ?_
   refine step_r rfl rfl trivial ?_
   refine step_r rfl rfl trivial ?_
   refine step_nil ?_
   refine seqK_n ?_
   refine sem_ret ?_
   have e39 : small22 = false := by
    unfold small22
    try dsimp only
    rewrite [hJ1]
    try dsimp only
    rewrite [if_neg g18]
    all_goals rfl
   rw [e39]
   exact answersR rfl ⟨trivial, trivial⟩ (rfl) rfl

def turns22_J43 (l : List GMember) (a : Int) : Bool :=
  if ((joinM l a).1) = ((joinR l a).1) then (if ((joinM l a).2.1 : Int) = ((joinR l a).2.1) then (((joinM l a).2.2 : Int) == ((joinR l a).2.2)) else false) else false
def turns22_J68 (l : List GMember) (a : Int) (same_43 : Bool) : Bool :=
  if same_43 = true then (if ((leaveM l a).1) = ((leaveR l a).1) then (((leaveM l a).2) == ((leaveR l a).2)) else false) else false
def turns22_L0 : Nat → Nat → (List GMember) → Unit
  | 0, k0, x0' => ()
  | n_ + 1, k0, x0' => turns22_L0 n_ (k0 + 1) (x0'.set k0 { ((x0').getD k0 default) with Unit := (-7) })
def turns22_J103 (l : List GMember) (a : Int) (group : Int) (same_68 : Bool) : Bool :=
  if same_68 = true then (if ((moveM l a group).1) = ((moveR l a group).1) then (((moveM l a group).2 : Int) == ((moveR l a group).2)) else false) else false
def turns22_J128 (l : List GMember) (a : Int) (b : Int) (same_103 : Bool) : Bool :=
  if same_103 = true then (if ((swapM l a b).1) = ((swapR l a b).1) then (((swapM l a b).2 : Int) == ((swapR l a b).2)) else false) else false
def turns22 (l : List GMember) (a : Int) (b : Int) (group : Int) : Bool :=
  if (l.length : Int) > 80 then (small22) else (let same_43 := turns22_J43 l a; (let same_68 := turns22_J68 l a same_43; (let same_103 := turns22_J103 l a group same_68; (let same_128 := turns22_J128 l a b same_103; if small22 = true then (if same_128 = true then (if (rightM l) = (rightR l) then (if (groupM l a : Int) = (groupR l a) then (if (inM l group) = (inR l group) then (if (leadM l : Int) = (leadR l) then (decide (l = l)) else false) else false) else false) else false) else false) else false))))
theorem turns22_ok (l : List GMember) (l_f : Bool) (a : Int) (b : Int) (group : Int) : Ok Try.prog 3 [.pv (.slc l.length l_f (l.flatMap encGMember)), I a, I b, I group] [] (B (turns22 l a b group)) [] [] := by
 refine Ok.len fun hlen => ?_
 have hl_l : l.length ≤ maxLen := hlen _ (by simp [lensL, lens, lensP])
 unfold maxLen at hl_l
 refine ok_of_sem Try.func3 rfl ?_
 show Walks Try.prog _ _ ⟨[(0, .pv (.slc l.length l_f (l.flatMap encGMember))), (1, I a), (2, I b), (3, I group)], [], 0, [], 180, 0⟩
 refine sem_seq ?_
 refine sem_region rfl ?_
 refine step_r rfl rfl trivial ?_
 refine step_nil ?_
 refine seqK_n ?_
 refine sem_seq ?_
 refine sem_region rfl ?_
 refine step_call rfl rfl rfl rfl (small22_ok ) rfl rfl rfl ?_
 refine step_r rfl rfl trivial ?_
 refine step_nil ?_
 refine seqK_n ?_
 refine sem_seq ?_
 refine sem_seq ?_
 refine sem_region rfl ?_
 refine step_r rfl rfl trivial ?_
 refine step_r rfl rfl trivial ?_
 refine step_bin rfl rfl rfl rfl rfl trivial ?_
 refine step_nil ?_
 refine seqK_n ?_
 refine sem_cond rfl (fun h2 => ?_) (fun h2 => ?_)
 ·have g2 : (l.length : Int) > 80 := of_decide_eq_true h2
  refine sem_seq ?_
  refine sem_region rfl ?_
  refine step_r rfl rfl trivial ?_
  refine step_r rfl rfl trivial ?_
  refine step_nil ?_
  refine seqK_n ?_
  refine sem_ret ?_
  refine seqK_r ?_
  have e3 : turns22 l a b group = (small22) := by
   unfold turns22
   try dsimp only
   rewrite [if_pos g2]
   all_goals rfl
  rw [e3]
  exact answersR rfl ⟨trivial, trivial⟩ (rfl) rfl
 ·have g2 : ¬ ((l.length : Int) > 80) := of_decide_eq_false h2
  refine sem_skip ?_
  refine seqK_n ?_
  refine sem_seq ?_
  refine sem_region rfl ?_
  refine step_r rfl rfl ⟨by decide, rfl⟩ ?_
  refine step_r rfl rfl trivial ?_
  refine step_appendN (m := l.length) (new := l.flatMap encGMember) (cs' := l.flatMap encGMember) (n' := l.length) rfl rfl (rfl) rfl rfl rfl rfl rfl rfl (flat_len (s := 2) (enc := encGMember) (fun _ => rfl) l) (by first | decide | (unfold maxGrow; omega) | (unfold maxGrow; simp; omega) | (unfold maxGrow; simp only [List.length_append, List.length_take, List.length_drop, List.length_cons, List.length_nil, IntKind.wrap_i64] at *; omega)) rfl rfl rfl rfl ?_
  refine step_r rfl rfl trivial ?_
  refine step_nil ?_
  refine seqK_n ?_
  refine sem_seq ?_
  refine sem_region rfl ?_
  refine step_r rfl rfl trivial ?_
  refine step_r rfl rfl trivial ?_
  refine step_callJ (Hin := [.row _ _ _]) (out' := .tup [.ref 1 _ _ _, _, _]) (H' := [(1, .row _ _ _), (0, .row _ _ _)]) (nx' := 2) [0] rfl rfl rfl rfl rfl rfl rfl rfl rfl (by (repeat' apply And.intro) <;> first | trivial | rfl | exact flat_len (s := 2) (enc := encGMember) (fun _ => rfl) _ | exact flat_len (fun _ => rfl) _ | exact encI_len _ | exact encB_len _ | exact encY_len _ | exact Nat.le_of_ble_eq_true rfl | assumption) (joinM_ok l false a (by first | omega | (simp; omega))) rfl (by decide) rfl rfl ⟨encGMember_solid, trivial⟩ rfl rfl rfl rfl ?_
  have p5 := joinM_len l a
  refine step_r rfl rfl trivial ?_
  refine step_r rfl rfl trivial ?_
  refine step_r rfl rfl trivial ?_
  refine step_r rfl rfl trivial ?_
  refine step_r rfl rfl trivial ?_
  refine step_r rfl rfl trivial ?_
  refine step_r rfl rfl trivial ?_
  refine step_nil ?_
  refine seqK_n ?_
  refine sem_seq ?_
  refine sem_region rfl ?_
  refine step_r rfl rfl trivial ?_
  refine step_r rfl rfl trivial ?_
  refine step_callJ (Hin := []) (out' := .tup [.ref 2 _ _ _, _, _]) (H' := [(2, .row _ _ _), (1, .row _ _ _), (0, .row _ _ _)]) (nx' := 3) [] rfl rfl rfl rfl rfl rfl rfl rfl rfl (by (repeat' apply And.intro) <;> first | trivial | rfl | exact flat_len (fun _ => rfl) _ | exact encI_len _ | exact encB_len _ | exact encY_len _ | exact Nat.le_of_ble_eq_true rfl | assumption) (joinR_ok l false a (by first | omega | (simp; omega))) rfl (by decide) rfl rfl ⟨encGMember_solid, trivial⟩ rfl rfl rfl rfl ?_
  refine step_r rfl rfl trivial ?_
  refine step_r rfl rfl trivial ?_
  refine step_r rfl rfl trivial ?_
  refine step_r rfl rfl trivial ?_
  refine step_r rfl rfl trivial ?_
  refine step_r rfl rfl trivial ?_
  refine step_r rfl rfl trivial ?_
  refine step_nil ?_
  refine seqK_n ?_
  refine sem_seq ?_
  refine sem_cutW (fun same_43 : Bool => (⟨[(0, .pv (.slc l.length l_f (l.flatMap encGMember))), (1, I a), (2, I b), (3, I group), (9, B (small22)), (10, .ref 0 2 0 l.length), (17, B same_43)], [(0, .row 31 2 (l.flatMap encGMember))], 1, [], 180, 0⟩ : St)) (fun w_ => turns22_J43 l a = w_) ?_ ?_
  ·refine sem_region rfl ?_
   refine step_r rfl rfl trivial ?_
   refine step_r rfl rfl trivial ?_
   refine step_callJ (Hin := [.row _ _ _, .row _ _ _]) (H' := [(2, .row _ _ _), (1, .row _ _ _), (0, .row _ _ _)]) (nx' := 3) [1, 2] rfl rfl rfl rfl rfl rfl rfl rfl rfl (by (repeat' apply And.intro) <;> first | trivial | rfl | exact flat_len (s := 2) (enc := encGMember) (fun _ => rfl) _ | exact flat_len (fun _ => rfl) _ | exact encI_len _ | exact encB_len _ | exact encY_len _ | exact Nat.le_of_ble_eq_true rfl | assumption) (sameMR ((joinM l a).1) false ((joinR l a).1) false) rfl (by decide) rfl rfl trivial rfl rfl rfl rfl ?_
   refine step_r rfl rfl trivial ?_
   refine step_gs rfl (fun h12 => ?_) (fun h12 => ?_)
   ·have g12 : ((joinM l a).1) = ((joinR l a).1) := of_decide_eq_true h12
    refine step_g1 rfl h12 ?_
    refine step_r rfl rfl trivial ?_
    refine step_g1 rfl h12 ?_
    refine step_r rfl rfl trivial ?_
    refine step_g1 rfl h12 ?_
    refine step_bin rfl rfl rfl rfl rfl trivial ?_
    refine step_pickT rfl h12 rfl rfl ?_
    refine step_r rfl rfl trivial ?_
    refine step_gs rfl (fun h14 => ?_) (fun h14 => ?_)
    ·have g14 : ((joinM l a).2.1 : Int) = ((joinR l a).2.1) := beq_t h14
     refine step_g1 rfl h14 ?_
     refine step_r rfl rfl trivial ?_
     refine step_g1 rfl h14 ?_
     refine step_r rfl rfl trivial ?_
     refine step_g1 rfl h14 ?_
     refine step_bin rfl rfl rfl rfl rfl trivial ?_
     refine step_pickT rfl h14 rfl rfl ?_
     refine step_r rfl rfl trivial ?_
     refine step_nil ?_
     have e16 : turns22_J43 l a = (((joinM l a).2.2 : Int) == ((joinR l a).2.2)) := by
      unfold turns22_J43
      try dsimp only
      rewrite [if_pos g12, if_pos g14]
      all_goals rfl
     exact cutW_n (((joinM l a).2.2 : Int) == ((joinR l a).2.2)) e16 (Trans.ren [] (by decide +kernel) (by decide +kernel) rfl ⟨⟨rfl, rfl⟩, ⟨rfl, rfl⟩, ⟨rfl, rfl⟩, ⟨rfl, rfl⟩, ⟨rfl, rfl⟩, ⟨rfl, rfl⟩, ⟨rfl, rfl⟩, trivial⟩ ⟨⟨rfl, rfl, rfl⟩, trivial⟩ (by decide))
    ·have g14 : ¬ (((joinM l a).2.1 : Int) = ((joinR l a).2.1)) := beq_f h14
     refine step_g0 rfl h14 rfl ?_
     refine step_g0 rfl h14 rfl ?_
     refine step_g0 rfl h14 rfl ?_
     refine step_pickF rfl h14 rfl rfl ?_
     refine step_r rfl rfl trivial ?_
     refine step_nil ?_
     have e17 : turns22_J43 l a = false := by
      unfold turns22_J43
      try dsimp only
      rewrite [if_pos g12, if_neg g14]
      all_goals rfl
     exact cutW_n false e17 (Trans.ren [] (by decide +kernel) (by decide +kernel) rfl ⟨⟨rfl, rfl⟩, ⟨rfl, rfl⟩, ⟨rfl, rfl⟩, ⟨rfl, rfl⟩, ⟨rfl, rfl⟩, ⟨rfl, rfl⟩, ⟨rfl, rfl⟩, trivial⟩ ⟨⟨rfl, rfl, rfl⟩, trivial⟩ (by decide))
   ·have g12 : ¬ (((joinM l a).1) = ((joinR l a).1)) := of_decide_eq_false h12
    refine step_g0 rfl h12 rfl ?_
    refine step_g0 rfl h12 rfl ?_
    refine step_g0 rfl h12 rfl ?_
    refine step_pickF rfl h12 rfl rfl ?_
    refine step_r rfl rfl trivial ?_
    refine step_gf rfl rfl ?_
    refine step_gf rfl rfl ?_
    refine step_gf rfl rfl ?_
    refine step_r rfl rfl trivial ?_
    refine step_r rfl rfl trivial ?_
    refine step_nil ?_
    have e18 : turns22_J43 l a = false := by
     unfold turns22_J43
     try dsimp only
     rewrite [if_neg g12]
     all_goals rfl
    exact cutW_n false e18 (Trans.ren [] (by decide +kernel) (by decide +kernel) rfl ⟨⟨rfl, rfl⟩, ⟨rfl, rfl⟩, ⟨rfl, rfl⟩, ⟨rfl, rfl⟩, ⟨rfl, rfl⟩, ⟨rfl, rfl⟩, ⟨rfl, rfl⟩, trivial⟩ ⟨⟨rfl, rfl, rfl⟩, trivial⟩ (by decide))
  ·rintro same_43 (hJ10 : turns22_J43 l a = same_43)
   show seqK _ _ _ .normal (⟨[(0, .pv (.slc l.length l_f (l.flatMap encGMember))), (1, I a), (2, I b), (3, I group), (9, B (small22)), (10, .ref 0 2 0 l.length), (17, B same_43)], [(0, .row 31 2 (l.flatMap encGMember))], 1, [], 180, 0⟩ : St)
   refine seqK_n ?_
   refine sem_seq ?_
   refine sem_region rfl ?_
   refine step_r rfl rfl trivial ?_
   refine step_r rfl rfl trivial ?_
   refine step_callJ (Hin := [.row _ _ _]) (out' := .tup [.ref 1 _ _ _, _]) (H' := [(1, .row _ _ _), (0, .row _ _ _)]) (nx' := 2) [0] rfl rfl rfl rfl rfl rfl rfl rfl rfl (by (repeat' apply And.intro) <;> first | trivial | rfl | exact flat_len (s := 2) (enc := encGMember) (fun _ => rfl) _ | exact flat_len (fun _ => rfl) _ | exact encI_len _ | exact encB_len _ | exact encY_len _ | exact Nat.le_of_ble_eq_true rfl | assumption) (leaveM_ok l false a (by first | omega | (simp; omega))) rfl (by decide) rfl rfl ⟨encGMember_solid, trivial⟩ rfl rfl rfl rfl ?_
   have p20 := leaveM_len l a (by first | omega | (simp; omega))
   refine step_r rfl rfl trivial ?_
   refine step_r rfl rfl trivial ?_
   refine step_r rfl rfl trivial ?_
   refine step_r rfl rfl trivial ?_
   refine step_r rfl rfl trivial ?_
   refine step_nil ?_
   refine seqK_n ?_
   refine sem_seq ?_
   refine sem_region rfl ?_
   refine step_r rfl rfl trivial ?_
   refine step_r rfl rfl trivial ?_
   refine step_callJ (Hin := []) (out' := .tup [.ref 2 _ _ _, _]) (H' := [(2, .row _ _ _), (1, .row _ _ _), (0, .row _ _ _)]) (nx' := 3) [] rfl rfl rfl rfl rfl rfl rfl rfl rfl (by (repeat' apply And.intro) <;> first | trivial | rfl | exact flat_len (fun _ => rfl) _ | exact encI_len _ | exact encB_len _ | exact encY_len _ | exact Nat.le_of_ble_eq_true rfl | assumption) (leaveR_ok l false a (by first | omega | (simp; omega))) rfl (by decide) rfl rfl ⟨encGMember_solid, trivial⟩ rfl rfl rfl rfl ?_
   refine step_r rfl rfl trivial ?_
   refine step_r rfl rfl trivial ?_
   refine step_r rfl rfl trivial ?_
   refine step_r rfl rfl trivial ?_
   refine step_r rfl rfl trivial ?_
   refine step_nil ?_
   refine seqK_n ?_
   refine sem_seq ?_
   refine sem_cutW (fun same_68 : Bool => (⟨[(0, .pv (.slc l.length l_f (l.flatMap encGMember))), (1, I a), (2, I b), (3, I group), (9, B (small22)), (10, .ref 0 2 0 l.length), (11, .ref 1 2 0 (leaveM l a).1.length), (17, B same_68)], [(0, .row 31 2 (l.flatMap encGMember)), (1, .row 31 2 ((leaveM l a).1.flatMap encGMember))], 2, [], 180, 0⟩ : St)) (fun w_ => turns22_J68 l a same_43 = w_) ?_ ?_
   ·refine sem_region rfl ?_
    refine step_r rfl rfl trivial ?_
    refine step_r rfl rfl trivial ?_
    refine step_gs rfl (fun h25 => ?_) (fun h25 => ?_)
    ·have g25 : same_43 = true := h25
     refine step_g1 rfl h25 ?_
     refine step_r rfl rfl trivial ?_
     refine step_g1 rfl h25 ?_
     refine step_r rfl rfl trivial ?_
     refine step_g1 rfl h25 ?_
     refine step_callJ (Hin := [.row _ _ _, .row _ _ _]) (H' := [(2, .row _ _ _), (1, .row _ _ _), (0, .row _ _ _)]) (nx' := 3) [1, 2] rfl rfl rfl rfl rfl rfl rfl rfl rfl (by (repeat' apply And.intro) <;> first | trivial | rfl | exact flat_len (s := 2) (enc := encGMember) (fun _ => rfl) _ | exact flat_len (fun _ => rfl) _ | exact encI_len _ | exact encB_len _ | exact encY_len _ | exact Nat.le_of_ble_eq_true rfl | assumption) (sameMR ((leaveM l a).1) false ((leaveR l a).1) false) rfl (by decide) rfl rfl trivial rfl rfl rfl rfl ?_
     refine step_pickT rfl h25 rfl rfl ?_
     refine step_r rfl rfl trivial ?_
     refine step_gs rfl (fun h27 => ?_) (fun h27 => ?_)
     ·have g27 : ((leaveM l a).1) = ((leaveR l a).1) := of_decide_eq_true h27
      refine step_g1 rfl h27 ?_
      refine step_r rfl rfl trivial ?_
      refine step_g1 rfl h27 ?_
      refine step_r rfl rfl trivial ?_
      refine step_g1 rfl h27 ?_
      refine step_bin rfl rfl rfl rfl rfl trivial ?_
      refine step_pickT rfl h27 rfl rfl ?_
      refine step_r rfl rfl trivial ?_
      refine step_nil ?_
      have e29 : turns22_J68 l a same_43 = (((leaveM l a).2) == ((leaveR l a).2)) := by
       unfold turns22_J68
       try dsimp only
       rewrite [if_pos g25, if_pos g27]
       all_goals rfl
      exact cutW_n (((leaveM l a).2) == ((leaveR l a).2)) e29 (Trans.ren [] (by decide +kernel) (by decide +kernel) rfl ⟨⟨rfl, rfl⟩, ⟨rfl, rfl⟩, ⟨rfl, rfl⟩, ⟨rfl, rfl⟩, ⟨rfl, rfl⟩, ⟨rfl, rfl⟩, ⟨rfl, rfl⟩, ⟨rfl, rfl⟩, trivial⟩ ⟨⟨rfl, rfl, rfl⟩, ⟨rfl, rfl, rfl⟩, trivial⟩ (by decide))
     ·have g27 : ¬ (((leaveM l a).1) = ((leaveR l a).1)) := of_decide_eq_false h27
      refine step_g0 rfl h27 rfl ?_
      refine step_g0 rfl h27 rfl ?_
      refine step_g0 rfl h27 rfl ?_
      refine step_pickF rfl h27 rfl rfl ?_
      refine step_r rfl rfl trivial ?_
      refine step_nil ?_
      have e30 : turns22_J68 l a same_43 = false := by
       unfold turns22_J68
       try dsimp only
       rewrite [if_pos g25, if_neg g27]
       all_goals rfl
      exact cutW_n false e30 (Trans.ren [] (by decide +kernel) (by decide +kernel) rfl ⟨⟨rfl, rfl⟩, ⟨rfl, rfl⟩, ⟨rfl, rfl⟩, ⟨rfl, rfl⟩, ⟨rfl, rfl⟩, ⟨rfl, rfl⟩, ⟨rfl, rfl⟩, ⟨rfl, rfl⟩, trivial⟩ ⟨⟨rfl, rfl, rfl⟩, ⟨rfl, rfl, rfl⟩, trivial⟩ (by decide))
    ·have g25 : ¬ (same_43 = true) := boo_f h25
     refine step_g0 rfl h25 rfl ?_
     refine step_g0 rfl h25 rfl ?_
     refine step_g0 rfl h25 rfl ?_
     refine step_pickF rfl h25 rfl rfl ?_
     refine step_r rfl rfl trivial ?_
     refine step_gf rfl rfl ?_
     refine step_gf rfl rfl ?_
     refine step_gf rfl rfl ?_
     refine step_r rfl rfl trivial ?_
     refine step_r rfl rfl trivial ?_
     refine step_nil ?_
     have e31 : turns22_J68 l a same_43 = false := by
      unfold turns22_J68
      try dsimp only
      rewrite [if_neg g25]
      all_goals rfl
     exact cutW_n false e31 (Trans.ren [] (by decide +kernel) (by decide +kernel) rfl ⟨⟨rfl, rfl⟩, ⟨rfl, rfl⟩, ⟨rfl, rfl⟩, ⟨rfl, rfl⟩, ⟨rfl, rfl⟩, ⟨rfl, rfl⟩, ⟨rfl, rfl⟩, ⟨rfl, rfl⟩, trivial⟩ ⟨⟨rfl, rfl, rfl⟩, ⟨rfl, rfl, rfl⟩, trivial⟩ (by decide))
   ·rintro same_68 (hJ23 : turns22_J68 l a same_43 = same_68)
    show seqK _ _ _ .normal (⟨[(0, .pv (.slc l.length l_f (l.flatMap encGMember))), (1, I a), (2, I b), (3, I group), (9, B (small22)), (10, .ref 0 2 0 l.length), (11, .ref 1 2 0 (leaveM l a).1.length), (17, B same_68)], [(0, .row 31 2 (l.flatMap encGMember)), (1, .row 31 2 ((leaveM l a).1.flatMap encGMember))], 2, [], 180, 0⟩ : St)
    refine seqK_n ?_
    refine sem_seq ?_
    refine sem_seq ?_
    refine sem_region rfl ?_
    refine step_r rfl rfl trivial ?_
    refine step_nil ?_
    refine seqK_n ?_
    refine sem_cutW (fun w_ : Unit => match w_ with | () => (⟨[(0, .pv (.slc l.length l_f (l.flatMap encGMember))), (1, I a), (2, I b), (3, I group), (9, B (small22)), (10, .ref 0 2 0 l.length), (17, B same_68)], [(0, .row 31 2 (l.flatMap encGMember))], 1, [], 180, 0⟩ : St)) (fun w_ => turns22_L0 (((leaveM l a).1.length) - 0) 0 ((leaveM l a).1) = w_) ?_ ?_
    ·refine sem_block ?_
     refine sem_loopT (fun w_ : Nat × (List GMember) => match w_ with | (k0, x0') => (⟨[(0, .pv (.slc l.length l_f (l.flatMap encGMember))), (1, I a), (2, I b), (3, I group), (9, B (small22)), (10, .ref 0 2 0 l.length), (11, .ref 1 2 0 x0'.length), (17, B same_68), (20, I k0)], [(0, .row 31 2 (l.flatMap encGMember)), (1, .row 31 2 (x0'.flatMap encGMember))], 2, [], 180, 0⟩ : St)) (fun w_ : Nat × (List GMember) => match w_ with | (k0, x0') => turns22_L0 (((leaveM l a).1.length) - k0) k0 (x0') = turns22_L0 (((leaveM l a).1.length) - 0) 0 ((leaveM l a).1) ∧ k0 ≤ (leaveM l a).1.length ∧ x0'.length = (leaveM l a).1.length) (fun w_ : Nat × (List GMember) => match w_ with | (k0, x0') => (leaveM l a).1.length - k0) (0, (leaveM l a).1) (⟨rfl, (by first | omega | (simp; omega)), by first | omega | simp | (simp; omega)⟩) ?_ (fun w_ hh_ => ?_)
     ·exact (Trans.ren [] (by decide +kernel) (by decide +kernel) rfl ⟨⟨rfl, rfl⟩, ⟨rfl, rfl⟩, ⟨rfl, rfl⟩, ⟨rfl, rfl⟩, ⟨rfl, rfl⟩, ⟨rfl, rfl⟩, ⟨rfl, rfl⟩, ⟨rfl, rfl⟩, ⟨rfl, rfl⟩, trivial⟩ ⟨⟨rfl, rfl, rfl⟩, ⟨rfl, rfl, rfl⟩, trivial⟩ (by decide))
     obtain ⟨k0, x0'⟩ := w_
     obtain ⟨hI0, hb0, hv0⟩ := hh_
     show Walks Try.prog _ _ (⟨[(0, .pv (.slc l.length l_f (l.flatMap encGMember))), (1, I a), (2, I b), (3, I group), (9, B (small22)), (10, .ref 0 2 0 l.length), (11, .ref 1 2 0 x0'.length), (17, B same_68), (20, I k0)], [(0, .row 31 2 (l.flatMap encGMember)), (1, .row 31 2 (x0'.flatMap encGMember))], 2, [], 180, 0⟩ : St)
     refine sem_seq ?_
     refine sem_seq ?_
     refine sem_region rfl ?_
     refine step_r rfl rfl trivial ?_
     refine step_r rfl rfl trivial ?_
     refine step_r rfl rfl trivial ?_
     refine step_bin rfl rfl rfl rfl rfl trivial ?_
     refine step_nil ?_
     refine seqK_n ?_
     refine sem_cond rfl (fun h34 => ?_) (fun h34 => ?_)
     ·have g34 : (k0 : Int) < (x0'.length) := of_decide_eq_true h34
      have hm0 : (leaveM l a).1.length - k0 = ((leaveM l a).1.length - (k0 + 1)) + 1 := by omega
      refine sem_skip ?_
      refine seqK_n ?_
      refine sem_seq ?_
      refine sem_block ?_
      refine sem_region rfl ?_
      refine step_r rfl rfl trivial ?_
      refine step_r rfl rfl trivial ?_
      have jk35 : k0 < (x0').length := by first | assumption | omega | (simp only [List.length_set, List.length_append]; omega) | (simp only [IntKind.wrap_i64] at *; omega) | (simp; omega) | simp_all
      refine step_idxR (k := k0) rfl rfl rfl rfl jk35 rfl ?_
      refine step_r rfl rfl (by decide) ?_
      refine step_storeR rfl rfl rfl rfl (by have := flat_lt (s := 2) (enc := encGMember) (fun _ => rfl) jk35; show k0 * 2 + 0 < _; omega) (flat_set (enc := encGMember) (s := 2) (y := { ((x0').getD k0 default) with Unit := (-7) }) (fun _ => rfl) (get_getD jk35) (by decide) rfl) (.inl rfl) rfl ?_
      refine step_nil ?_
      refine blkK_n ?_
      refine seqK_n ?_
      refine sem_region rfl ?_
      refine step_r rfl rfl trivial ?_
      refine step_bin rfl rfl rfl rfl rfl trivial ?_
      refine step_r rfl rfl trivial ?_
      refine step_nil ?_
      have e37 : turns22_L0 (((leaveM l a).1.length) - k0) k0 (x0') = turns22_L0 (((leaveM l a).1.length) - (k0 + 1)) (k0 + 1) (x0'.set k0 { ((x0').getD k0 default) with Unit := (-7) }) := by
       rfl
      exact lup_againT (k0 + 1, (x0'.set k0 { ((x0').getD k0 default) with Unit := (-7) })) ⟨e37.symm.trans hI0, (by omega), by first | omega | assumption | (simp only [List.length_append, List.length_cons, List.length_nil, List.length_set]; omega) | (simp; omega) | grind⟩ (by show (leaveM l a).1.length - (k0 + 1) < (leaveM l a).1.length - k0; omega) (Trans.ren [] (by decide +kernel) (by decide +kernel) rfl ⟨⟨rfl, rfl⟩, ⟨rfl, rfl⟩, ⟨rfl, rfl⟩, ⟨rfl, rfl⟩, ⟨rfl, rfl⟩, ⟨rfl, rfl⟩, ⟨congrArg (fun n => some (AV.ref 1 2 0 n)) (by first | rfl | simp only [List.length_set] | simp | omega | (simp; omega)), rfl⟩, ⟨rfl, rfl⟩, ⟨congrArg (fun n => some (I n)) (wrapI (k := k0) (by first | omega | (simp; omega))), rfl⟩, trivial⟩ ⟨⟨rfl, rfl, rfl⟩, ⟨rfl, rfl, rfl⟩, trivial⟩ (by decide))
     ·have g34 : ¬ ((k0 : Int) < (x0'.length)) := of_decide_eq_false h34
      have hm0 : (leaveM l a).1.length - k0 = 0 := by omega
      refine sem_exit ?_
      refine seqK_e ?_
      refine lupK_e ?_
      refine blkK_t rfl ?_
      have e38 : turns22_L0 (((leaveM l a).1.length) - 0) 0 ((leaveM l a).1) = () := by
       rfl
      exact cutW_n () e38 (Trans.ren [] (by decide +kernel) (by decide +kernel) rfl ⟨⟨rfl, rfl⟩, ⟨rfl, rfl⟩, ⟨rfl, rfl⟩, ⟨rfl, rfl⟩, ⟨rfl, rfl⟩, ⟨rfl, rfl⟩, ⟨rfl, rfl⟩, trivial⟩ ⟨⟨rfl, rfl, rfl⟩, trivial⟩ (by decide))
    ·rintro ⟨⟩ (hJ32 : turns22_L0 (((leaveM l a).1.length) - 0) 0 ((leaveM l a).1) = ())
     show seqK _ _ _ .normal (⟨[(0, .pv (.slc l.length l_f (l.flatMap encGMember))), (1, I a), (2, I b), (3, I group), (9, B (small22)), (10, .ref 0 2 0 l.length), (17, B same_68)], [(0, .row 31 2 (l.flatMap encGMember))], 1, [], 180, 0⟩ : St)
     refine seqK_n ?_
     refine sem_seq ?_
     refine sem_region rfl ?_
     refine step_r rfl rfl trivial ?_
     refine step_r rfl rfl trivial ?_
     refine step_r rfl rfl trivial ?_
     refine step_callJ (Hin := [.row _ _ _]) (out' := .tup [.ref 1 _ _ _, _]) (H' := [(1, .row _ _ _), (0, .row _ _ _)]) (nx' := 2) [0] rfl rfl rfl rfl rfl rfl rfl rfl rfl (by (repeat' apply And.intro) <;> first | trivial | rfl | exact flat_len (s := 2) (enc := encGMember) (fun _ => rfl) _ | exact flat_len (fun _ => rfl) _ | exact encI_len _ | exact encB_len _ | exact encY_len _ | exact Nat.le_of_ble_eq_true rfl | assumption) (moveM_ok l false a group (by first | omega | (simp; omega))) rfl (by decide) rfl rfl ⟨encGMember_solid, trivial⟩ rfl rfl rfl rfl ?_
     have p41 := moveM_len l a group
     refine step_r rfl rfl trivial ?_
     refine step_r rfl rfl trivial ?_
     refine step_r rfl rfl trivial ?_
     refine step_r rfl rfl trivial ?_
     refine step_r rfl rfl trivial ?_
     refine step_nil ?_
     refine seqK_n ?_
     refine sem_seq ?_
     refine sem_region rfl ?_
     refine step_r rfl rfl trivial ?_
     refine step_r rfl rfl trivial ?_
     refine step_r rfl rfl trivial ?_
     refine step_callJ (Hin := []) (out' := .tup [.ref 2 _ _ _, _]) (H' := [(2, .row _ _ _), (1, .row _ _ _), (0, .row _ _ _)]) (nx' := 3) [] rfl rfl rfl rfl rfl rfl rfl rfl rfl (by (repeat' apply And.intro) <;> first | trivial | rfl | exact flat_len (fun _ => rfl) _ | exact encI_len _ | exact encB_len _ | exact encY_len _ | exact Nat.le_of_ble_eq_true rfl | assumption) (moveR_ok l false a group (by first | omega | (simp; omega))) rfl (by decide) rfl rfl ⟨encGMember_solid, trivial⟩ rfl rfl rfl rfl ?_
     refine step_r rfl rfl trivial ?_
     refine step_r rfl rfl trivial ?_
     refine step_r rfl rfl trivial ?_
     refine step_r rfl rfl trivial ?_
     refine step_r rfl rfl trivial ?_
     refine step_nil ?_
     refine seqK_n ?_
     refine sem_seq ?_
     refine sem_cutW (fun same_103 : Bool => (⟨[(0, .pv (.slc l.length l_f (l.flatMap encGMember))), (1, I a), (2, I b), (3, I group), (9, B (small22)), (10, .ref 0 2 0 l.length), (17, B same_103)], [(0, .row 31 2 (l.flatMap encGMember))], 1, [], 180, 0⟩ : St)) (fun w_ => turns22_J103 l a group same_68 = w_) ?_ ?_
     ·refine sem_region rfl ?_
      refine step_r rfl rfl trivial ?_
      refine step_r rfl rfl trivial ?_
      refine step_gs rfl (fun h46 => ?_) (fun h46 => ?_)
      ·have g46 : same_68 = true := h46
       refine step_g1 rfl h46 ?_
       refine step_r rfl rfl trivial ?_
       refine step_g1 rfl h46 ?_
       refine step_r rfl rfl trivial ?_
       refine step_g1 rfl h46 ?_
       refine step_callJ (Hin := [.row _ _ _, .row _ _ _]) (H' := [(2, .row _ _ _), (1, .row _ _ _), (0, .row _ _ _)]) (nx' := 3) [1, 2] rfl rfl rfl rfl rfl rfl rfl rfl rfl (by (repeat' apply And.intro) <;> first | trivial | rfl | exact flat_len (s := 2) (enc := encGMember) (fun _ => rfl) _ | exact flat_len (fun _ => rfl) _ | exact encI_len _ | exact encB_len _ | exact encY_len _ | exact Nat.le_of_ble_eq_true rfl | assumption) (sameMR ((moveM l a group).1) false ((moveR l a group).1) false) rfl (by decide) rfl rfl trivial rfl rfl rfl rfl ?_
       refine step_pickT rfl h46 rfl rfl ?_
       refine step_r rfl rfl trivial ?_
       refine step_gs rfl (fun h48 => ?_) (fun h48 => ?_)
       ·have g48 : ((moveM l a group).1) = ((moveR l a group).1) := of_decide_eq_true h48
        refine step_g1 rfl h48 ?_
        refine step_r rfl rfl trivial ?_
        refine step_g1 rfl h48 ?_
        refine step_r rfl rfl trivial ?_
        refine step_g1 rfl h48 ?_
        refine step_bin rfl rfl rfl rfl rfl trivial ?_
        refine step_pickT rfl h48 rfl rfl ?_
        refine step_r rfl rfl trivial ?_
        refine step_nil ?_
        have e50 : turns22_J103 l a group same_68 = (((moveM l a group).2 : Int) == ((moveR l a group).2)) := by
         unfold turns22_J103
         try dsimp only
         rewrite [if_pos g46, if_pos g48]
         all_goals rfl
        exact cutW_n (((moveM l a group).2 : Int) == ((moveR l a group).2)) e50 (Trans.ren [] (by decide +kernel) (by decide +kernel) rfl ⟨⟨rfl, rfl⟩, ⟨rfl, rfl⟩, ⟨rfl, rfl⟩, ⟨rfl, rfl⟩, ⟨rfl, rfl⟩, ⟨rfl, rfl⟩, ⟨rfl, rfl⟩, trivial⟩ ⟨⟨rfl, rfl, rfl⟩, trivial⟩ (by decide))
       ·have g48 : ¬ (((moveM l a group).1) = ((moveR l a group).1)) := of_decide_eq_false h48
        refine step_g0 rfl h48 rfl ?_
        refine step_g0 rfl h48 rfl ?_
        refine step_g0 rfl h48 rfl ?_
        refine step_pickF rfl h48 rfl rfl ?_
        refine step_r rfl rfl trivial ?_
        refine step_nil ?_
        have e51 : turns22_J103 l a group same_68 = false := by
         unfold turns22_J103
         try dsimp only
         rewrite [if_pos g46, if_neg g48]
         all_goals rfl
        exact cutW_n false e51 (Trans.ren [] (by decide +kernel) (by decide +kernel) rfl ⟨⟨rfl, rfl⟩, ⟨rfl, rfl⟩, ⟨rfl, rfl⟩, ⟨rfl, rfl⟩, ⟨rfl, rfl⟩, ⟨rfl, rfl⟩, ⟨rfl, rfl⟩, trivial⟩ ⟨⟨rfl, rfl, rfl⟩, trivial⟩ (by decide))
      ·have g46 : ¬ (same_68 = true) := boo_f h46
       refine step_g0 rfl h46 rfl ?_
       refine step_g0 rfl h46 rfl ?_
       refine step_g0 rfl h46 rfl ?_
       refine step_pickF rfl h46 rfl rfl ?_
       refine step_r rfl rfl trivial ?_
       refine step_gf rfl rfl ?_
       refine step_gf rfl rfl ?_
       refine step_gf rfl rfl ?_
       refine step_r rfl rfl trivial ?_
       refine step_r rfl rfl trivial ?_
       refine step_nil ?_
       have e52 : turns22_J103 l a group same_68 = false := by
        unfold turns22_J103
        try dsimp only
        rewrite [if_neg g46]
        all_goals rfl
       exact cutW_n false e52 (Trans.ren [] (by decide +kernel) (by decide +kernel) rfl ⟨⟨rfl, rfl⟩, ⟨rfl, rfl⟩, ⟨rfl, rfl⟩, ⟨rfl, rfl⟩, ⟨rfl, rfl⟩, ⟨rfl, rfl⟩, ⟨rfl, rfl⟩, trivial⟩ ⟨⟨rfl, rfl, rfl⟩, trivial⟩ (by decide))
     ·rintro same_103 (hJ44 : turns22_J103 l a group same_68 = same_103)
      show seqK _ _ _ .normal (⟨[(0, .pv (.slc l.length l_f (l.flatMap encGMember))), (1, I a), (2, I b), (3, I group), (9, B (small22)), (10, .ref 0 2 0 l.length), (17, B same_103)], [(0, .row 31 2 (l.flatMap encGMember))], 1, [], 180, 0⟩ : St)
      refine seqK_n ?_
      refine sem_seq ?_
      refine sem_region rfl ?_
      refine step_r rfl rfl trivial ?_
      refine step_r rfl rfl trivial ?_
      refine step_r rfl rfl trivial ?_
      refine step_callJ (Hin := [.row _ _ _]) (out' := .tup [.ref 1 _ _ _, _]) (H' := [(1, .row _ _ _), (0, .row _ _ _)]) (nx' := 2) [0] rfl rfl rfl rfl rfl rfl rfl rfl rfl (by (repeat' apply And.intro) <;> first | trivial | rfl | exact flat_len (s := 2) (enc := encGMember) (fun _ => rfl) _ | exact flat_len (fun _ => rfl) _ | exact encI_len _ | exact encB_len _ | exact encY_len _ | exact Nat.le_of_ble_eq_true rfl | assumption) (swapM_ok l false a b (by first | omega | (simp; omega))) rfl (by decide) rfl rfl ⟨encGMember_solid, trivial⟩ rfl rfl rfl rfl ?_
      have p55 := swapM_len l a b
      refine step_r rfl rfl trivial ?_
      refine step_r rfl rfl trivial ?_
      refine step_r rfl rfl trivial ?_
      refine step_r rfl rfl trivial ?_
      refine step_r rfl rfl trivial ?_
      refine step_nil ?_
      refine seqK_n ?_
      refine sem_seq ?_
      refine sem_region rfl ?_
      refine step_r rfl rfl trivial ?_
      refine step_r rfl rfl trivial ?_
      refine step_r rfl rfl trivial ?_
      refine step_callJ (Hin := []) (out' := .tup [.ref 2 _ _ _, _]) (H' := [(2, .row _ _ _), (1, .row _ _ _), (0, .row _ _ _)]) (nx' := 3) [] rfl rfl rfl rfl rfl rfl rfl rfl rfl (by (repeat' apply And.intro) <;> first | trivial | rfl | exact flat_len (fun _ => rfl) _ | exact encI_len _ | exact encB_len _ | exact encY_len _ | exact Nat.le_of_ble_eq_true rfl | assumption) (swapR_ok l false a b (by first | omega | (simp; omega))) rfl (by decide) rfl rfl ⟨encGMember_solid, trivial⟩ rfl rfl rfl rfl ?_
      refine step_r rfl rfl trivial ?_
      refine step_r rfl rfl trivial ?_
      refine step_r rfl rfl trivial ?_
      refine step_r rfl rfl trivial ?_
      refine step_r rfl rfl trivial ?_
      refine step_nil ?_
      refine seqK_n ?_
      refine sem_seq ?_
      refine sem_cutW (fun same_128 : Bool => (⟨[(0, .pv (.slc l.length l_f (l.flatMap encGMember))), (1, I a), (3, I group), (9, B (small22)), (10, .ref 0 2 0 l.length), (17, B same_128)], [(0, .row 31 2 (l.flatMap encGMember))], 1, [], 180, 0⟩ : St)) (fun w_ => turns22_J128 l a b same_103 = w_) ?_ ?_
      ·refine sem_region rfl ?_
       refine step_r rfl rfl trivial ?_
       refine step_r rfl rfl trivial ?_
       refine step_gs rfl (fun h60 => ?_) (fun h60 => ?_)
       ·have g60 : same_103 = true := h60
        refine step_g1 rfl h60 ?_
        refine step_r rfl rfl trivial ?_
        refine step_g1 rfl h60 ?_
        refine step_r rfl rfl trivial ?_
        refine step_g1 rfl h60 ?_
        refine step_callJ (Hin := [.row _ _ _, .row _ _ _]) (H' := [(2, .row _ _ _), (1, .row _ _ _), (0, .row _ _ _)]) (nx' := 3) [1, 2] rfl rfl rfl rfl rfl rfl rfl rfl rfl (by (repeat' apply And.intro) <;> first | trivial | rfl | exact flat_len (s := 2) (enc := encGMember) (fun _ => rfl) _ | exact flat_len (fun _ => rfl) _ | exact encI_len _ | exact encB_len _ | exact encY_len _ | exact Nat.le_of_ble_eq_true rfl | assumption) (sameMR ((swapM l a b).1) false ((swapR l a b).1) false) rfl (by decide) rfl rfl trivial rfl rfl rfl rfl ?_
        refine step_pickT rfl h60 rfl rfl ?_
        refine step_r rfl rfl trivial ?_
        refine step_gs rfl (fun h62 => ?_) (fun h62 => ?_)
        ·have g62 : ((swapM l a b).1) = ((swapR l a b).1) := of_decide_eq_true h62
         refine step_g1 rfl h62 ?_
         refine step_r rfl rfl trivial ?_
         refine step_g1 rfl h62 ?_
         refine step_r rfl rfl trivial ?_
         refine step_g1 rfl h62 ?_
         refine step_bin rfl rfl rfl rfl rfl trivial ?_
         refine step_pickT rfl h62 rfl rfl ?_
         refine step_r rfl rfl trivial ?_
         refine step_nil ?_
         have e64 : turns22_J128 l a b same_103 = (((swapM l a b).2 : Int) == ((swapR l a b).2)) := by
          unfold turns22_J128
          try dsimp only
          rewrite [if_pos g60, if_pos g62]
          all_goals rfl
         exact cutW_n (((swapM l a b).2 : Int) == ((swapR l a b).2)) e64 (Trans.ren [] (by decide +kernel) (by decide +kernel) rfl ⟨⟨rfl, rfl⟩, ⟨rfl, rfl⟩, ⟨rfl, rfl⟩, ⟨rfl, rfl⟩, ⟨rfl, rfl⟩, ⟨rfl, rfl⟩, trivial⟩ ⟨⟨rfl, rfl, rfl⟩, trivial⟩ (by decide))
        ·have g62 : ¬ (((swapM l a b).1) = ((swapR l a b).1)) := of_decide_eq_false h62
         refine step_g0 rfl h62 rfl ?_
         refine step_g0 rfl h62 rfl ?_
         refine step_g0 rfl h62 rfl ?_
         refine step_pickF rfl h62 rfl rfl ?_
         refine step_r rfl rfl trivial ?_
         refine step_nil ?_
         have e65 : turns22_J128 l a b same_103 = false := by
          unfold turns22_J128
          try dsimp only
          rewrite [if_pos g60, if_neg g62]
          all_goals rfl
         exact cutW_n false e65 (Trans.ren [] (by decide +kernel) (by decide +kernel) rfl ⟨⟨rfl, rfl⟩, ⟨rfl, rfl⟩, ⟨rfl, rfl⟩, ⟨rfl, rfl⟩, ⟨rfl, rfl⟩, ⟨rfl, rfl⟩, trivial⟩ ⟨⟨rfl, rfl, rfl⟩, trivial⟩ (by decide))
       ·have g60 : ¬ (same_103 = true) := boo_f h60
        refine step_g0 rfl h60 rfl ?_
        refine step_g0 rfl h60 rfl ?_
        refine step_g0 rfl h60 rfl ?_
        refine step_pickF rfl h60 rfl rfl ?_
        refine step_r rfl rfl trivial ?_
        refine step_gf rfl rfl ?_
        refine step_gf rfl rfl ?_
        refine step_gf rfl rfl ?_
        refine step_r rfl rfl trivial ?_
        refine step_r rfl rfl trivial ?_
        refine step_nil ?_
        have e66 : turns22_J128 l a b same_103 = false := by
         unfold turns22_J128
         try dsimp only
         rewrite [if_neg g60]
         all_goals rfl
        exact cutW_n false e66 (Trans.ren [] (by decide +kernel) (by decide +kernel) rfl ⟨⟨rfl, rfl⟩, ⟨rfl, rfl⟩, ⟨rfl, rfl⟩, ⟨rfl, rfl⟩, ⟨rfl, rfl⟩, ⟨rfl, rfl⟩, trivial⟩ ⟨⟨rfl, rfl, rfl⟩, trivial⟩ (by decide))
      ·rintro same_128 (hJ58 : turns22_J128 l a b same_103 = same_128)
       show seqK _ _ _ .normal (⟨[(0, .pv (.slc l.length l_f (l.flatMap encGMember))), (1, I a), (3, I group), (9, B (small22)), (10, .ref 0 2 0 l.length), (17, B same_128)], [(0, .row 31 2 (l.flatMap encGMember))], 1, [], 180, 0⟩ : St)
       refine seqK_n ?_
       refine sem_seq ?_
       refine sem_region rfl ?_
       refine step_r rfl rfl trivial ?_
       refine step_r rfl rfl trivial ?_
       refine step_gs rfl (fun h68 => ?_) (fun h68 => ?_)
       ·have g68 : small22 = true := h68
        refine step_g1 rfl h68 ?_
        refine step_r rfl rfl trivial ?_
        refine step_pickT rfl h68 rfl rfl ?_
        refine step_r rfl rfl trivial ?_
        refine step_gs rfl (fun h70 => ?_) (fun h70 => ?_)
        ·have g70 : same_128 = true := h70
         refine step_g1 rfl h70 ?_
         refine step_r rfl rfl trivial ?_
         refine step_g1 rfl h70 ?_
         refine step_callJ (Hin := [.row _ _ _]) (H' := [(0, .row _ _ _)]) (nx' := 1) [0] rfl rfl rfl rfl rfl rfl rfl rfl rfl (by (repeat' apply And.intro) <;> first | trivial | rfl | exact flat_len (s := 2) (enc := encGMember) (fun _ => rfl) _ | exact flat_len (fun _ => rfl) _ | exact encI_len _ | exact encB_len _ | exact encY_len _ | exact Nat.le_of_ble_eq_true rfl | assumption) (rightM_ok l false) rfl (by decide) rfl rfl trivial rfl rfl rfl rfl ?_
         refine step_g1 rfl h70 ?_
         refine step_r rfl rfl trivial ?_
         refine step_g1 rfl h70 ?_
         refine step_call rfl rfl rfl rfl (rightR_ok l l_f (by first | omega | (simp; omega))) rfl rfl rfl ?_
         refine step_g1 rfl h70 ?_
         refine step_bin rfl rfl rfl rfl rfl trivial ?_
         refine step_pickT rfl h70 rfl rfl ?_
         refine step_r rfl rfl trivial ?_
         refine step_gs rfl (fun h72 => ?_) (fun h72 => ?_)
         ·have g72 : (rightM l) = (rightR l) := beq_t h72
          refine step_g1 rfl h72 ?_
          refine step_r rfl rfl trivial ?_
          refine step_g1 rfl h72 ?_
          refine step_r rfl rfl trivial ?_
          refine step_g1 rfl h72 ?_
          refine step_callJ (Hin := [.row _ _ _]) (H' := [(0, .row _ _ _)]) (nx' := 1) [0] rfl rfl rfl rfl rfl rfl rfl rfl rfl (by (repeat' apply And.intro) <;> first | trivial | rfl | exact flat_len (s := 2) (enc := encGMember) (fun _ => rfl) _ | exact flat_len (fun _ => rfl) _ | exact encI_len _ | exact encB_len _ | exact encY_len _ | exact Nat.le_of_ble_eq_true rfl | assumption) (groupM_ok l false a) rfl (by decide) rfl rfl trivial rfl rfl rfl rfl ?_
          refine step_g1 rfl h72 ?_
          refine step_r rfl rfl trivial ?_
          refine step_g1 rfl h72 ?_
          refine step_r rfl rfl trivial ?_
          refine step_g1 rfl h72 ?_
          refine step_call rfl rfl rfl rfl (groupR_ok l l_f a) rfl rfl rfl ?_
          refine step_g1 rfl h72 ?_
          refine step_bin rfl rfl rfl rfl rfl trivial ?_
          refine step_pickT rfl h72 rfl rfl ?_
          refine step_r rfl rfl trivial ?_
          refine step_gs rfl (fun h75 => ?_) (fun h75 => ?_)
          ·have g75 : (groupM l a : Int) = (groupR l a) := beq_t h75
           refine step_g1 rfl h75 ?_
           refine step_r rfl rfl trivial ?_
           refine step_g1 rfl h75 ?_
           refine step_r rfl rfl trivial ?_
           refine step_g1 rfl h75 ?_
           refine step_callJ (Hin := [.row _ _ _]) (out' := .ref 1 _ _ _) (H' := [(1, .row _ _ _), (0, .row _ _ _)]) (nx' := 2) [0] rfl rfl rfl rfl rfl rfl rfl rfl rfl (by (repeat' apply And.intro) <;> first | trivial | rfl | exact flat_len (s := 2) (enc := encGMember) (fun _ => rfl) _ | exact flat_len (fun _ => rfl) _ | exact encI_len _ | exact encB_len _ | exact encY_len _ | exact Nat.le_of_ble_eq_true rfl | assumption) (inM_ok l false group (by first | omega | (simp; omega))) rfl (by decide) rfl rfl ⟨encI_solid, trivial⟩ rfl rfl rfl rfl ?_
           refine step_g1 rfl h75 ?_
           refine step_r rfl rfl trivial ?_
           refine step_g1 rfl h75 ?_
           refine step_r rfl rfl trivial ?_
           refine step_g1 rfl h75 ?_
           refine step_callJ (Hin := []) (out' := .ref 2 _ _ _) (H' := [(2, .row _ _ _), (1, .row _ _ _), (0, .row _ _ _)]) (nx' := 3) [] rfl rfl rfl rfl rfl rfl rfl rfl rfl (by (repeat' apply And.intro) <;> first | trivial | rfl | exact flat_len (fun _ => rfl) _ | exact encI_len _ | exact encB_len _ | exact encY_len _ | exact Nat.le_of_ble_eq_true rfl | assumption) (inR_ok l false group (by first | omega | (simp; omega))) rfl (by decide) rfl rfl ⟨encI_solid, trivial⟩ rfl rfl rfl rfl ?_
           refine step_g1 rfl h75 ?_
           refine step_callJ (Hin := [.row _ _ _, .row _ _ _]) (H' := [(2, .row _ _ _), (1, .row _ _ _), (0, .row _ _ _)]) (nx' := 3) [1, 2] rfl rfl rfl rfl rfl rfl rfl rfl rfl (by (repeat' apply And.intro) <;> first | trivial | rfl | exact flat_len (fun _ => rfl) _ | exact encI_len _ | exact encB_len _ | exact encY_len _ | exact Nat.le_of_ble_eq_true rfl | assumption) (sameI (inM l group) false (inR l group) false) rfl (by decide) rfl rfl trivial rfl rfl rfl rfl ?_
           refine step_pickT rfl h75 rfl rfl ?_
           refine step_r rfl rfl trivial ?_
           refine step_gs rfl (fun h78 => ?_) (fun h78 => ?_)
           ·have g78 : (inM l group) = (inR l group) := of_decide_eq_true h78
            refine step_g1 rfl h78 ?_
            refine step_r rfl rfl trivial ?_
            refine step_g1 rfl h78 ?_
            refine step_callJ (Hin := [.row _ _ _]) (H' := [(2, .row _ _ _), (1, .row _ _ _), (0, .row _ _ _)]) (nx' := 3) [0] rfl rfl rfl rfl rfl rfl rfl rfl rfl (by (repeat' apply And.intro) <;> first | trivial | rfl | exact flat_len (s := 2) (enc := encGMember) (fun _ => rfl) _ | exact flat_len (fun _ => rfl) _ | exact encI_len _ | exact encB_len _ | exact encY_len _ | exact Nat.le_of_ble_eq_true rfl | assumption) (leadM_ok l false) rfl (by decide) rfl rfl trivial rfl rfl rfl rfl ?_
            refine step_g1 rfl h78 ?_
            refine step_r rfl rfl trivial ?_
            refine step_g1 rfl h78 ?_
            refine step_call rfl rfl rfl rfl (leadR_ok l l_f) rfl rfl rfl ?_
            refine step_g1 rfl h78 ?_
            refine step_bin rfl rfl rfl rfl rfl trivial ?_
            refine step_pickT rfl h78 rfl rfl ?_
            refine step_r rfl rfl trivial ?_
            refine step_gs rfl (fun h80 => ?_) (fun h80 => ?_)
            ·have g80 : (leadM l : Int) = (leadR l) := beq_t h80
             refine step_g1 rfl h80 ?_
             refine step_r rfl rfl trivial ?_
             refine step_g1 rfl h80 ?_
             refine step_r rfl rfl trivial ?_
             refine step_g1 rfl h80 ?_
             refine step_callJ (Hin := [.row _ _ _]) (H' := [(2, .row _ _ _), (1, .row _ _ _), (0, .row _ _ _)]) (nx' := 3) [0] rfl rfl rfl rfl rfl rfl rfl rfl rfl (by (repeat' apply And.intro) <;> first | trivial | rfl | exact flat_len (s := 2) (enc := encGMember) (fun _ => rfl) _ | exact flat_len (fun _ => rfl) _ | exact encI_len _ | exact encB_len _ | exact encY_len _ | exact Nat.le_of_ble_eq_true rfl | assumption) (sameMR l false l false) rfl (by decide) rfl rfl trivial rfl rfl rfl rfl ?_
             refine step_pickT rfl h80 rfl rfl ?_
             refine step_r rfl rfl trivial ?_
             refine step_nil ?_
             refine seqK_n ?_
             refine sem_ret ?_
             have e82 : turns22 l a b group = (decide (l = l)) := by
              unfold turns22
              try dsimp only
              rewrite [if_neg g2, hJ10]
              try dsimp only
              rewrite [hJ23]
              try dsimp only
              rewrite [hJ44]
              try dsimp only
              rewrite [hJ58]
              try dsimp only
              rewrite [if_pos g68, if_pos g70, if_pos g72, if_pos g75, if_pos g78, if_pos g80]
              all_goals rfl
             rw [e82]
             exact answersR rfl ⟨trivial, trivial⟩ (rfl) rfl
            ·have g80 : ¬ ((leadM l : Int) = (leadR l)) := beq_f h80
             refine step_g0 rfl h80 rfl ?_
             refine step_g0 rfl h80 rfl ?_
             refine step_g0 rfl h80 rfl ?_
             refine step_pickF rfl h80 rfl rfl ?_
             refine step_r rfl rfl trivial ?_
             refine step_nil ?_
             refine seqK_n ?_
             refine sem_ret ?_
             have e83 : turns22 l a b group = false := by
              unfold turns22
              try dsimp only
              rewrite [if_neg g2, hJ10]
              try dsimp only
              rewrite [hJ23]
              try dsimp only
              rewrite [hJ44]
              try dsimp only
              rewrite [hJ58]
              try dsimp only
              rewrite [if_pos g68, if_pos g70, if_pos g72, if_pos g75, if_pos g78, if_neg g80]
              all_goals rfl
             rw [e83]
             exact answersR rfl ⟨trivial, trivial⟩ (rfl) rfl
           ·have g78 : ¬ ((inM l group) = (inR l group)) := of_decide_eq_false h78
            refine step_g0 rfl h78 rfl ?_
            refine step_g0 rfl h78 rfl ?_
            refine step_g0 rfl h78 rfl ?_
            refine step_g0 rfl h78 rfl ?_
            refine step_g0 rfl h78 rfl ?_
            refine step_pickF rfl h78 rfl rfl ?_
            refine step_r rfl rfl trivial ?_
            refine step_gf rfl rfl ?_
            refine step_gf rfl rfl ?_
            refine step_gf rfl rfl ?_
            refine step_r rfl rfl trivial ?_
            refine step_r rfl rfl trivial ?_
            refine step_nil ?_
            refine seqK_n ?_
            refine sem_ret ?_
            have e84 : turns22 l a b group = false := by
             unfold turns22
             try dsimp only
             rewrite [if_neg g2, hJ10]
             try dsimp only
             rewrite [hJ23]
             try dsimp only
             rewrite [hJ44]
             try dsimp only
             rewrite [hJ58]
             try dsimp only
             rewrite [if_pos g68, if_pos g70, if_pos g72, if_pos g75, if_neg g78]
             all_goals rfl
            rw [e84]
            exact answersR rfl ⟨trivial, trivial⟩ (rfl) rfl
          ·have g75 : ¬ ((groupM l a : Int) = (groupR l a)) := beq_f h75
           refine step_g0 rfl h75 rfl ?_
           refine step_g0 rfl h75 rfl ?_
           refine step_g0 rfl h75 rfl ?_
           refine step_g0 rfl h75 rfl ?_
           refine step_g0 rfl h75 rfl ?_
           refine step_g0 rfl h75 rfl ?_
           refine step_g0 rfl h75 rfl ?_
           refine step_pickF rfl h75 rfl rfl ?_
           refine step_r rfl rfl trivial ?_
           refine step_gf rfl rfl ?_
           refine step_gf rfl rfl ?_
           refine step_gf rfl rfl ?_
           refine step_gf rfl rfl ?_
           refine step_gf rfl rfl ?_
           refine step_r rfl rfl trivial ?_
           refine step_r rfl rfl trivial ?_
           refine step_gf rfl rfl ?_
           refine step_gf rfl rfl ?_
           refine step_gf rfl rfl ?_
           refine step_r rfl rfl trivial ?_
           refine step_r rfl rfl trivial ?_
           refine step_nil ?_
           refine seqK_n ?_
           refine sem_ret ?_
           have e85 : turns22 l a b group = false := by
            unfold turns22
            try dsimp only
            rewrite [if_neg g2, hJ10]
            try dsimp only
            rewrite [hJ23]
            try dsimp only
            rewrite [hJ44]
            try dsimp only
            rewrite [hJ58]
            try dsimp only
            rewrite [if_pos g68, if_pos g70, if_pos g72, if_neg g75]
            all_goals rfl
           rw [e85]
           exact answersR rfl ⟨trivial, trivial⟩ (rfl) rfl
         ·have g72 : ¬ ((rightM l) = (rightR l)) := beq_f h72
          refine step_g0 rfl h72 rfl ?_
          refine step_g0 rfl h72 rfl ?_
          refine step_g0 rfl h72 rfl ?_
          refine step_g0 rfl h72 rfl ?_
          refine step_g0 rfl h72 rfl ?_
          refine step_g0 rfl h72 rfl ?_
          refine step_g0 rfl h72 rfl ?_
          refine step_pickF rfl h72 rfl rfl ?_
          refine step_r rfl rfl trivial ?_
          refine step_gf rfl rfl ?_
          refine step_gf rfl rfl ?_
          refine step_gf rfl rfl ?_
          refine step_gf rfl rfl ?_
          refine step_gf rfl rfl ?_
          refine step_gf rfl rfl ?_
          refine step_gf rfl rfl ?_
          refine step_r rfl rfl trivial ?_
          refine step_r rfl rfl trivial ?_
          refine step_gf rfl rfl ?_
          refine step_gf rfl rfl ?_
          refine step_gf rfl rfl ?_
          refine step_gf rfl rfl ?_
          refine step_gf rfl rfl ?_
          refine step_r rfl rfl trivial ?_
          refine step_r rfl rfl trivial ?_
          refine step_gf rfl rfl ?_
          refine step_gf rfl rfl ?_
          refine step_gf rfl rfl ?_
          refine step_r rfl rfl trivial ?_
          refine step_r rfl rfl trivial ?_
          refine step_nil ?_
          refine seqK_n ?_
          refine sem_ret ?_
          have e86 : turns22 l a b group = false := by
           unfold turns22
           try dsimp only
           rewrite [if_neg g2, hJ10]
           try dsimp only
           rewrite [hJ23]
           try dsimp only
           rewrite [hJ44]
           try dsimp only
           rewrite [hJ58]
           try dsimp only
           rewrite [if_pos g68, if_pos g70, if_neg g72]
           all_goals rfl
          rw [e86]
          exact answersR rfl ⟨trivial, trivial⟩ (rfl) rfl
        ·have g70 : ¬ (same_128 = true) := boo_f h70
         refine step_g0 rfl h70 rfl ?_
         refine step_g0 rfl h70 rfl ?_
         refine step_g0 rfl h70 rfl ?_
         refine step_g0 rfl h70 rfl ?_
         refine step_g0 rfl h70 rfl ?_
         refine step_pickF rfl h70 rfl rfl ?_
         refine step_r rfl rfl trivial ?_
         refine step_gf rfl rfl ?_
         refine step_gf rfl rfl ?_
         refine step_gf rfl rfl ?_
         refine step_gf rfl rfl ?_
         refine step_gf rfl rfl ?_
         refine step_gf rfl rfl ?_
         refine step_gf rfl rfl ?_
         refine step_r rfl rfl trivial ?_
         refine step_r rfl rfl trivial ?_
         refine step_gf rfl rfl ?_
         refine step_gf rfl rfl ?_
         refine step_gf rfl rfl ?_
         refine step_gf rfl rfl ?_
         refine step_gf rfl rfl ?_
         refine step_gf rfl rfl ?_
         refine step_gf rfl rfl ?_
         refine step_r rfl rfl trivial ?_
         refine step_r rfl rfl trivial ?_
         refine step_gf rfl rfl ?_
         refine step_gf rfl rfl ?_
         refine step_gf rfl rfl ?_
         refine step_gf rfl rfl ?_
         refine step_gf rfl rfl ?_
         refine step_r rfl rfl trivial ?_
         refine step_r rfl rfl trivial ?_
         refine step_gf rfl rfl ?_
         refine step_gf rfl rfl ?_
         refine step_gf rfl rfl ?_
         refine step_r rfl rfl trivial ?_
         refine step_r rfl rfl trivial ?_
         refine step_nil ?_
         refine seqK_n ?_
         refine sem_ret ?_
         have e87 : turns22 l a b group = false := by
          unfold turns22
          try dsimp only
          rewrite [if_neg g2, hJ10]
          try dsimp only
          rewrite [hJ23]
          try dsimp only
          rewrite [hJ44]
          try dsimp only
          rewrite [hJ58]
          try dsimp only
          rewrite [if_pos g68, if_neg g70]
          all_goals rfl
         rw [e87]
         exact answersR rfl ⟨trivial, trivial⟩ (rfl) rfl
       ·have g68 : ¬ (small22 = true) := boo_f h68
        refine step_g0 rfl h68 rfl ?_
        refine step_pickF rfl h68 rfl rfl ?_
        refine step_r rfl rfl trivial ?_
        refine step_gf rfl rfl ?_
        refine step_gf rfl rfl ?_
        refine step_gf rfl rfl ?_
        refine step_gf rfl rfl ?_
        refine step_gf rfl rfl ?_
        refine step_r rfl rfl trivial ?_
        refine step_r rfl rfl trivial ?_
        refine step_gf rfl rfl ?_
        refine step_gf rfl rfl ?_
        refine step_gf rfl rfl ?_
        refine step_gf rfl rfl ?_
        refine step_gf rfl rfl ?_
        refine step_gf rfl rfl ?_
        refine step_gf rfl rfl ?_
        refine step_r rfl rfl trivial ?_
        refine step_r rfl rfl trivial ?_
        refine step_gf rfl rfl ?_
        refine step_gf rfl rfl ?_
        refine step_gf rfl rfl ?_
        refine step_gf rfl rfl ?_
        refine step_gf rfl rfl ?_
        refine step_gf rfl rfl ?_
        refine step_gf rfl rfl ?_
        refine step_r rfl rfl trivial ?_
        refine step_r rfl rfl trivial ?_
        refine step_gf rfl rfl ?_
        refine step_gf rfl rfl ?_
        refine step_gf rfl rfl ?_
        refine step_gf rfl rfl ?_
        refine step_gf rfl rfl ?_
        refine step_r rfl rfl trivial ?_
        refine step_r rfl rfl trivial ?_
        refine step_gf rfl rfl ?_
        refine step_gf rfl rfl ?_
        refine step_gf rfl rfl ?_
        refine step_r rfl rfl trivial ?_
        refine step_r rfl rfl trivial ?_
        refine step_nil ?_
        refine seqK_n ?_
        refine sem_ret ?_
        have e88 : turns22 l a b group = false := by
         unfold turns22
         try dsimp only
         rewrite [if_neg g2, hJ10]
         try dsimp only
         rewrite [hJ23]
         try dsimp only
         rewrite [hJ44]
         try dsimp only
         rewrite [hJ58]
         try dsimp only
         rewrite [if_neg g68]
         all_goals rfl
        rw [e88]
        exact answersR rfl ⟨trivial, trivial⟩ (rfl) rfl

theorem small22_true : small22 = true := by decide +kernel
theorem turns22_true (l : List GMember) (a b group : Int) : turns22 l a b group = true := by
  unfold turns22
  by_cases h : (l.length : Int) > 80
  · rw [if_pos h]; exact small22_true
  · rw [if_neg h]
    have hl : l.length ≤ 1000000 := by omega
    simp [turns22_J43, turns22_J68, turns22_J103, turns22_J128, joinM_eq hl, leaveM_eq, moveM_eq hl, swapM_eq hl, rightM_eq hl, groupM_eq, inM_eq, leadM_eq, small22_true]
theorem turns22_yes (l : List GMember) (l_f : Bool) (a b group : Int) : Ok Try.prog 3 [.pv (.slc l.length l_f (l.flatMap encGMember)), I a, I b, I group] [] (B true) [] [] := by
  have h := turns22_ok l l_f a b group
  rwa [turns22_true] at h

def fills22_L0 : Nat → Nat → (List GMember) → Sum Bool (List GMember)
  | 0, k0, l0 => .inr l0
  | n_ + 1, k0, l0 => if ((joinM l0 (IntKind.i64.wrap (k0 + 1))).2.2 : Int) = 0 then (if ((joinM l0 (IntKind.i64.wrap (k0 + 1))).2.1 : Int) = (IntKind.i64.wrap ((IntKind.i64.wrap ((k0 : Int).tdiv 5)) + 1)) then fills22_L0 n_ (k0 + 1) ((joinM l0 (IntKind.i64.wrap (k0 + 1))).1) else .inl false) else .inl false
def fills22_J63 (n : Int) (out : Int) (l_0 : List GMember) : Sum Bool Unit :=
  if (out : Int) ≥ 1 then (if ((leaveM l_0 out).2) = (decide ((out : Int) ≤ n)) then (if (((joinM l_0 100).2.2 : Int) == 4) = ((n : Int) == 40) then .inr () else .inl false) else .inl false) else if ((leaveM l_0 out).2) = false then (if (((joinM l_0 100).2.2 : Int) == 4) = ((n : Int) == 40) then .inr () else .inl false) else .inl false
def fills22_L1 (out : Int) (l_0 : List GMember) : Nat → Nat → Sum Bool Unit
  | 0, k1 => .inr ()
  | n_ + 1, k1 => if (k1 : Int) = out then fills22_L1 out l_0 n_ (k1 + 1) else if (groupM ((leaveM l_0 out).1) k1 : Int) = (groupM l_0 k1) then fills22_L1 out l_0 n_ (k1 + 1) else .inl false
def fills22 (n : Int) (out : Int) : Bool :=
  if (n : Int) < 0 then (small22) else if (n : Int) > 40 then (small22) else (match fills22_L0 (n.toNat - 0) 0 ([]) with
    | .inl r_ => r_
    | .inr l_0 => (match fills22_J63 n out l_0 with
    | .inl r_ => r_
    | .inr () => (match fills22_L1 out l_0 ((n.toNat + 1) - 1) 1 with
    | .inl r_ => r_
    | .inr () => if small22 = true then (if (leaveM l_0 out).2 = true then (if ((joinM ((leaveM l_0 out).1) 101).2.2 : Int) = 0 then (((joinM ((leaveM l_0 out).1) 101).2.1 : Int) == (IntKind.i64.wrap ((IntKind.i64.wrap ((IntKind.i64.wrap (out - 1) : Int).tdiv 5)) + 1))) else false) else true) else false)))
theorem fills22_ok (n : Int) (out : Int) : Ok Try.prog 5 [I n, I out] [] (B (fills22 n out)) [] [] := by
 refine ok_of_sem Try.func5 rfl ?_
 show Walks Try.prog _ _ ⟨[(0, I n), (1, I out)], [], 0, [], 119, 0⟩
 refine sem_seq ?_
 refine sem_region rfl ?_
 refine step_r rfl rfl trivial ?_
 refine step_nil ?_
 refine seqK_n ?_
 refine sem_seq ?_
 refine sem_region rfl ?_
 refine step_call rfl rfl rfl rfl (small22_ok ) rfl rfl rfl ?_
 refine step_r rfl rfl trivial ?_
 refine step_nil ?_
 refine seqK_n ?_
 refine sem_seq ?_
 refine sem_seq ?_
 refine sem_region rfl ?_
 refine step_r rfl rfl trivial ?_
 refine step_bin rfl rfl rfl rfl rfl trivial ?_
 refine step_r rfl rfl trivial ?_
 refine step_gs rfl (fun h4 => ?_) (fun h4 => ?_)
 ·have g4 : (n : Int) < 0 := of_decide_eq_true h4
  refine step_g0 rfl h4 rfl ?_
  refine step_g0 rfl h4 rfl ?_
  refine step_pickT rfl h4 rfl rfl ?_
  refine step_nil ?_
  refine seqK_n ?_
  refine sem_condT rfl ?_
  refine sem_seq ?_
  refine sem_region rfl ?_
  refine step_r rfl rfl trivial ?_
  refine step_r rfl rfl trivial ?_
  refine step_nil ?_
  refine seqK_n ?_
  refine sem_ret ?_
  refine seqK_r ?_
  have e5 : fills22 n out = (small22) := by
   unfold fills22
   try dsimp only
   rewrite [if_pos g4]
   all_goals rfl
  rw [e5]
  exact answersR rfl ⟨trivial, trivial⟩ (rfl) rfl
 ·have g4 : ¬ ((n : Int) < 0) := of_decide_eq_false h4
  refine step_g1 rfl h4 ?_
  refine step_r rfl rfl trivial ?_
  refine step_g1 rfl h4 ?_
  refine step_bin rfl rfl rfl rfl rfl trivial ?_
  refine step_pickF rfl h4 rfl rfl ?_
  refine step_nil ?_
  refine seqK_n ?_
  refine sem_cond rfl (fun h7 => ?_) (fun h7 => ?_)
  ·have g7 : (n : Int) > 40 := of_decide_eq_true h7
   refine sem_seq ?_
   refine sem_region rfl ?_
   refine step_r rfl rfl trivial ?_
   refine step_r rfl rfl trivial ?_
   refine step_nil ?_
   refine seqK_n ?_
   refine sem_ret ?_
   refine seqK_r ?_
   have e8 : fills22 n out = (small22) := by
    unfold fills22
    try dsimp only
    rewrite [if_neg g4, if_pos g7]
    all_goals rfl
   rw [e8]
   exact answersR rfl ⟨trivial, trivial⟩ (rfl) rfl
  ·have g7 : ¬ ((n : Int) > 40) := of_decide_eq_false h7
   refine sem_skip ?_
   refine seqK_n ?_
   refine sem_seq ?_
   refine sem_region rfl ?_
   refine step_n (nx' := 1) rfl rfl rfl trivial ?_
   refine step_nil ?_
   refine seqK_n ?_
   refine sem_seq ?_
   refine sem_seq ?_
   refine sem_region rfl ?_
   refine step_r rfl rfl trivial ?_
   refine step_nil ?_
   refine seqK_n ?_
   refine sem_cutW (fun l_0 : List GMember => (⟨[(0, I n), (1, I out), (5, B (small22)), (6, .ref 0 2 0 l_0.length)], [(0, .row 31 2 (l_0.flatMap encGMember))], 1, [], 119, 0⟩ : St)) (fun l_0 : List GMember => fills22_L0 (n.toNat - 0) 0 ([]) = .inr l_0 ∧ (l_0.length ≤ 40)) ?_ ?_
   ·refine sem_block ?_
    refine sem_loopT (fun w_ : Nat × (List GMember) => match w_ with | (k0, l0) => (⟨[(0, I n), (1, I out), (5, B (small22)), (6, .ref 0 2 0 l0.length), (7, I k0)], [(0, .row 31 2 (l0.flatMap encGMember))], 1, [], 119, 0⟩ : St)) (fun w_ : Nat × (List GMember) => match w_ with | (k0, l0) => fills22_L0 (n.toNat - k0) k0 l0 = fills22_L0 (n.toNat - 0) 0 ([]) ∧ k0 ≤ n.toNat ∧ l0.length ≤ k0) (fun w_ : Nat × (List GMember) => match w_ with | (k0, l0) => n.toNat - k0) (0, []) (⟨rfl, (by first | omega | (simp; omega)), by first | omega | simp | (simp; omega)⟩) ?_ (fun w_ hh_ => ?_)
    ·exact (Trans.ren [] (by decide +kernel) (by decide +kernel) rfl ⟨⟨rfl, rfl⟩, ⟨rfl, rfl⟩, ⟨rfl, rfl⟩, ⟨congrArg (fun n => some (AV.ref 0 2 0 n)) (by first | rfl | simp only [List.length_set] | simp | omega | (simp; omega)), rfl⟩, ⟨rfl, rfl⟩, trivial⟩ ⟨⟨rfl, rfl, rfl⟩, trivial⟩ (by decide))
    obtain ⟨k0, l0⟩ := w_
    obtain ⟨hI0, hb0, hv0⟩ := hh_
    show Walks Try.prog _ _ (⟨[(0, I n), (1, I out), (5, B (small22)), (6, .ref 0 2 0 l0.length), (7, I k0)], [(0, .row 31 2 (l0.flatMap encGMember))], 1, [], 119, 0⟩ : St)
    refine sem_seq ?_
    refine sem_seq ?_
    refine sem_region rfl ?_
    refine step_r rfl rfl trivial ?_
    refine step_r rfl rfl trivial ?_
    refine step_bin rfl rfl rfl rfl rfl trivial ?_
    refine step_nil ?_
    refine seqK_n ?_
    refine sem_cond rfl (fun h12 => ?_) (fun h12 => ?_)
    ·have g12 : (k0 : Int) < n := of_decide_eq_true h12
     have hm0 : n.toNat - k0 = (n.toNat - (k0 + 1)) + 1 := by omega
     refine sem_skip ?_
     refine seqK_n ?_
     refine sem_seq ?_
     refine sem_block ?_
     refine sem_seq ?_
     refine sem_region rfl ?_
     refine step_r rfl rfl trivial ?_
     refine step_r rfl rfl trivial ?_
     refine step_bin rfl rfl rfl rfl rfl trivial ?_
     refine step_callJ (Hin := [.row _ _ _]) (out' := .tup [.ref 1 _ _ _, _, _]) (H' := [(1, .row _ _ _), (0, .row _ _ _)]) (nx' := 2) [0] rfl rfl rfl rfl rfl rfl rfl rfl rfl (by (repeat' apply And.intro) <;> first | trivial | rfl | exact flat_len (s := 2) (enc := encGMember) (fun _ => rfl) _ | exact flat_len (fun _ => rfl) _ | exact encI_len _ | exact encB_len _ | exact encY_len _ | exact Nat.le_of_ble_eq_true rfl | assumption) (joinM_ok l0 false (IntKind.i64.wrap (k0 + 1)) (by first | omega | (simp; omega))) rfl (by decide) rfl rfl ⟨encGMember_solid, trivial⟩ rfl rfl rfl rfl ?_
     have p13 := joinM_len l0 (IntKind.i64.wrap (k0 + 1))
     refine step_r rfl rfl trivial ?_
     refine step_r rfl rfl trivial ?_
     refine step_r rfl rfl trivial ?_
     refine step_r rfl rfl trivial ?_
     refine step_r rfl rfl trivial ?_
     refine step_r rfl rfl trivial ?_
     refine step_r rfl rfl trivial ?_
     refine step_nil ?_
     refine seqK_n ?_
     refine sem_seq ?_
     refine sem_seq ?_
     refine sem_region rfl ?_
     refine step_r rfl rfl trivial ?_
     refine step_bin rfl rfl rfl rfl rfl trivial ?_
     refine step_r rfl rfl trivial ?_
     refine step_gs rfl (fun h17 => ?_) (fun h17 => ?_)
     ·have g17 : ¬ (((joinM l0 (IntKind.i64.wrap (k0 + 1))).2.2 : Int) = 0) := bne_t h17
      refine step_g0 rfl h17 rfl ?_
      refine step_g0 rfl h17 rfl ?_
      refine step_g0 rfl h17 rfl ?_
      refine step_g0 rfl h17 rfl ?_
      refine step_g0 rfl h17 rfl ?_
      refine step_pickT rfl h17 rfl rfl ?_
      refine step_nil ?_
      refine seqK_n ?_
      refine sem_condT rfl ?_
      refine sem_seq ?_
      refine sem_region rfl ?_
      refine step_r rfl rfl trivial ?_
      refine step_nil ?_
      refine seqK_n ?_
      refine sem_ret ?_
      refine seqK_r ?_
      refine blkK_r ?_
      refine seqK_r ?_
      refine lupK_r ?_
      refine blkK_r ?_
      refine cutW_r ?_
      refine seqK_r ?_
      have e18 : fills22_L0 (n.toNat - 0) 0 ([]) = .inl false := by
       rewrite [← hI0, hm0]
       rewrite [fills22_L0]
       try dsimp only
       rewrite [if_neg g17]
       all_goals rfl
      have e19 : fills22 n out = false := by
       unfold fills22
       try dsimp only
       rewrite [if_neg g4, if_neg g7, e18]
       try dsimp only
       all_goals rfl
      rw [e19]
      exact answersR rfl ⟨trivial, trivial⟩ (rfl) rfl
     ·have g17 : ((joinM l0 (IntKind.i64.wrap (k0 + 1))).2.2 : Int) = 0 := bne_f h17
      refine step_g1 rfl h17 ?_
      refine step_r rfl rfl trivial ?_
      refine step_g1 rfl h17 ?_
      refine step_r rfl rfl trivial ?_
      refine step_g1 rfl h17 ?_
      refine step_bin rfl rfl rfl rfl rfl (by first | decide | omega | simp_all) ?_
      refine step_g1 rfl h17 ?_
      refine step_bin rfl rfl rfl rfl rfl trivial ?_
      refine step_g1 rfl h17 ?_
      refine step_bin rfl rfl rfl rfl rfl trivial ?_
      refine step_pickF rfl h17 rfl rfl ?_
      refine step_nil ?_
      refine seqK_n ?_
      refine sem_cond rfl (fun h21 => ?_) (fun h21 => ?_)
      ·have g21 : ¬ (((joinM l0 (IntKind.i64.wrap (k0 + 1))).2.1 : Int) = (IntKind.i64.wrap ((IntKind.i64.wrap ((k0 : Int).tdiv 5)) + 1))) := bne_t h21
       refine sem_seq ?_
       refine sem_region rfl ?_
       refine step_r rfl rfl trivial ?_
       refine step_nil ?_
       refine seqK_n ?_
       refine sem_ret ?_
       refine seqK_r ?_
       refine blkK_r ?_
       refine seqK_r ?_
       refine lupK_r ?_
       refine blkK_r ?_
       refine cutW_r ?_
       refine seqK_r ?_
       have e22 : fills22_L0 (n.toNat - 0) 0 ([]) = .inl false := by
        rewrite [← hI0, hm0]
        rewrite [fills22_L0]
        try dsimp only
        rewrite [if_pos g17, if_neg g21]
        all_goals rfl
       have e23 : fills22 n out = false := by
        unfold fills22
        try dsimp only
        rewrite [if_neg g4, if_neg g7, e22]
        try dsimp only
        all_goals rfl
       rw [e23]
       exact answersR rfl ⟨trivial, trivial⟩ (rfl) rfl
      ·have g21 : ((joinM l0 (IntKind.i64.wrap (k0 + 1))).2.1 : Int) = (IntKind.i64.wrap ((IntKind.i64.wrap ((k0 : Int).tdiv 5)) + 1)) := bne_f h21
       refine sem_skip ?_
       refine seqK_n ?_
       refine sem_region rfl ?_
       refine step_r rfl rfl trivial ?_
       refine step_r rfl rfl trivial ?_
       refine step_nil ?_
       refine blkK_n ?_
       refine seqK_n ?_
       refine sem_region rfl ?_
       refine step_r rfl rfl trivial ?_
       refine step_bin rfl rfl rfl rfl rfl trivial ?_
       refine step_r rfl rfl trivial ?_
       refine step_nil ?_
       have e25 : fills22_L0 (n.toNat - k0) k0 l0 = fills22_L0 (n.toNat - (k0 + 1)) (k0 + 1) ((joinM l0 (IntKind.i64.wrap (k0 + 1))).1) := by
        rewrite [hm0]
        rewrite [fills22_L0]
        try dsimp only
        rewrite [if_pos g17, if_pos g21]
        all_goals rfl
       exact lup_againT (k0 + 1, (joinM l0 (IntKind.i64.wrap (k0 + 1))).1) ⟨e25.symm.trans hI0, (by omega), by first | omega | assumption | (simp only [List.length_append, List.length_cons, List.length_nil, List.length_set]; omega) | (simp; omega) | grind⟩ (by show n.toNat - (k0 + 1) < n.toNat - k0; omega) (Trans.ren [(0, 1), (1, 0)] (by decide +kernel) (by decide +kernel) rfl ⟨⟨rfl, rfl⟩, ⟨rfl, rfl⟩, ⟨rfl, rfl⟩, ⟨rfl, rfl⟩, ⟨congrArg (fun n => some (I n)) (wrapI (k := k0) (by first | omega | (simp; omega))), rfl⟩, trivial⟩ ⟨⟨rfl, rfl, rfl⟩, trivial⟩ (by decide))
    ·have g12 : ¬ ((k0 : Int) < n) := of_decide_eq_false h12
     have hm0 : n.toNat - k0 = 0 := by omega
     refine sem_exit ?_
     refine seqK_e ?_
     refine lupK_e ?_
     refine blkK_t rfl ?_
     have e26 : fills22_L0 (n.toNat - 0) 0 ([]) = .inr l0 := by
      rewrite [← hI0, hm0]
      rewrite [fills22_L0]
      try dsimp only
      all_goals rfl
     exact cutW_n l0 ⟨e26, by first | assumption | omega | (simp; omega) | simp_all | grind⟩ (Trans.ren [] (by decide +kernel) (by decide +kernel) rfl ⟨⟨rfl, rfl⟩, ⟨rfl, rfl⟩, ⟨rfl, rfl⟩, ⟨rfl, rfl⟩, trivial⟩ ⟨⟨rfl, rfl, rfl⟩, trivial⟩ (by decide))
   ·rintro l_0 ⟨(hJ9 : fills22_L0 (n.toNat - 0) 0 ([]) = .inr l_0), hE0⟩
    show seqK _ _ _ .normal (⟨[(0, I n), (1, I out), (5, B (small22)), (6, .ref 0 2 0 l_0.length)], [(0, .row 31 2 (l_0.flatMap encGMember))], 1, [], 119, 0⟩ : St)
    refine seqK_n ?_
    refine sem_seq ?_
    refine sem_region rfl ?_
    refine step_r rfl rfl trivial ?_
    refine step_callJ (Hin := [.row _ _ _]) (out' := .tup [.ref 1 _ _ _, _, _]) (H' := [(1, .row _ _ _), (0, .row _ _ _)]) (nx' := 2) [0] rfl rfl rfl rfl rfl rfl rfl rfl rfl (by (repeat' apply And.intro) <;> first | trivial | rfl | exact flat_len (s := 2) (enc := encGMember) (fun _ => rfl) _ | exact flat_len (fun _ => rfl) _ | exact encI_len _ | exact encB_len _ | exact encY_len _ | exact Nat.le_of_ble_eq_true rfl | assumption) (joinM_ok l_0 false 100 (by first | omega | (simp; omega))) rfl (by decide) rfl rfl ⟨encGMember_solid, trivial⟩ rfl rfl rfl rfl ?_
    have p27 := joinM_len l_0 100
    refine step_r rfl rfl trivial ?_
    refine step_r rfl rfl trivial ?_
    refine step_r rfl rfl trivial ?_
    refine step_r rfl rfl trivial ?_
    refine step_r rfl rfl trivial ?_
    refine step_r rfl rfl trivial ?_
    refine step_r rfl rfl trivial ?_
    refine step_nil ?_
    refine seqK_n ?_
    refine sem_seq ?_
    refine sem_region rfl ?_
    refine step_r rfl rfl trivial ?_
    refine step_r rfl rfl trivial ?_
    refine step_callJ (Hin := [.row _ _ _]) (out' := .tup [.ref 2 _ _ _, _]) (H' := [(2, .row _ _ _), (1, .row _ _ _), (0, .row _ _ _)]) (nx' := 3) [0] rfl rfl rfl rfl rfl rfl rfl rfl rfl (by (repeat' apply And.intro) <;> first | trivial | rfl | exact flat_len (s := 2) (enc := encGMember) (fun _ => rfl) _ | exact flat_len (fun _ => rfl) _ | exact encI_len _ | exact encB_len _ | exact encY_len _ | exact Nat.le_of_ble_eq_true rfl | assumption) (leaveM_ok l_0 false out (by first | omega | (simp; omega))) rfl (by decide) rfl rfl ⟨encGMember_solid, trivial⟩ rfl rfl rfl rfl ?_
    have p31 := leaveM_len l_0 out (by first | omega | (simp; omega))
    refine step_r rfl rfl trivial ?_
    refine step_r rfl rfl trivial ?_
    refine step_r rfl rfl trivial ?_
    refine step_r rfl rfl trivial ?_
    refine step_r rfl rfl trivial ?_
    refine step_nil ?_
    refine seqK_n ?_
    refine sem_seq ?_
    refine sem_cutW (fun w_ : Unit => match w_ with | () => (⟨[(0, I n), (1, I out), (5, B (small22)), (6, .ref 0 2 0 l_0.length), (14, .ref 1 2 0 (leaveM l_0 out).1.length), (15, B (leaveM l_0 out).2)], [(0, .row 31 2 (l_0.flatMap encGMember)), (1, .row 31 2 ((leaveM l_0 out).1.flatMap encGMember))], 2, [], 119, 0⟩ : St)) (fun w_ => fills22_J63 n out l_0 = .inr w_) ?_ ?_
    ·refine sem_seq ?_
     refine sem_region rfl ?_
     refine step_r rfl rfl trivial ?_
     refine step_r rfl rfl trivial ?_
     refine step_bin rfl rfl rfl rfl rfl trivial ?_
     refine step_r rfl rfl trivial ?_
     refine step_gs rfl (fun h35 => ?_) (fun h35 => ?_)
     ·have g35 : (out : Int) ≥ 1 := of_decide_eq_true h35
      refine step_g1 rfl h35 ?_
      refine step_r rfl rfl trivial ?_
      refine step_g1 rfl h35 ?_
      refine step_r rfl rfl trivial ?_
      refine step_g1 rfl h35 ?_
      refine step_bin rfl rfl rfl rfl rfl trivial ?_
      refine step_pickT rfl h35 rfl rfl ?_
      refine step_bin rfl rfl rfl rfl rfl trivial ?_
      refine step_r rfl rfl trivial ?_
      refine step_gs rfl (fun h39 => ?_) (fun h39 => ?_)
      ·have g39 : ¬ (((leaveM l_0 out).2) = (decide ((out : Int) ≤ n))) := beq_f (not_t h39)
       refine step_g0 rfl h39 rfl ?_
       refine step_g0 rfl h39 rfl ?_
       refine step_g0 rfl h39 rfl ?_
       refine step_g0 rfl h39 rfl ?_
       refine step_g0 rfl h39 rfl ?_
       refine step_pickT rfl h39 rfl rfl ?_
       refine step_nil ?_
       refine seqK_n ?_
       refine sem_condT rfl ?_
       refine sem_seq ?_
       refine sem_region rfl ?_
       refine step_r rfl rfl trivial ?_
       refine step_nil ?_
       refine seqK_n ?_
       refine sem_ret ?_
       refine cutW_r ?_
       refine seqK_r ?_
       have e40 : fills22_J63 n out l_0 = .inl false := by
        unfold fills22_J63
        try dsimp only
        rewrite [if_pos g35, if_neg g39]
        all_goals rfl
       have e41 : fills22 n out = false := by
        unfold fills22
        try dsimp only
        rewrite [if_neg g4, if_neg g7, hJ9]
        try dsimp only
        rewrite [e40]
        try dsimp only
        all_goals rfl
       rw [e41]
       exact answersR rfl ⟨trivial, trivial⟩ (rfl) rfl
      ·have g39 : ((leaveM l_0 out).2) = (decide ((out : Int) ≤ n)) := beq_t (not_f h39)
       refine step_g1 rfl h39 ?_
       refine step_r rfl rfl trivial ?_
       refine step_g1 rfl h39 ?_
       refine step_bin rfl rfl rfl rfl rfl trivial ?_
       refine step_g1 rfl h39 ?_
       refine step_r rfl rfl trivial ?_
       refine step_g1 rfl h39 ?_
       refine step_bin rfl rfl rfl rfl rfl trivial ?_
       refine step_g1 rfl h39 ?_
       refine step_bin rfl rfl rfl rfl rfl trivial ?_
       refine step_pickF rfl h39 rfl rfl ?_
       refine step_nil ?_
       refine seqK_n ?_
       refine sem_cond rfl (fun h43 => ?_) (fun h43 => ?_)
       ·have g43 : ¬ ((((joinM l_0 100).2.2 : Int) == 4) = ((n : Int) == 40)) := beq_f (not_t h43)
        refine sem_seq ?_
        refine sem_region rfl ?_
        refine step_r rfl rfl trivial ?_
        refine step_nil ?_
        refine seqK_n ?_
        refine sem_ret ?_
        refine cutW_r ?_
        refine seqK_r ?_
        have e44 : fills22_J63 n out l_0 = .inl false := by
         unfold fills22_J63
         try dsimp only
         rewrite [if_pos g35, if_pos g39, if_neg g43]
         all_goals rfl
        have e45 : fills22 n out = false := by
         unfold fills22
         try dsimp only
         rewrite [if_neg g4, if_neg g7, hJ9]
         try dsimp only
         rewrite [e44]
         try dsimp only
         all_goals rfl
        rw [e45]
        exact answersR rfl ⟨trivial, trivial⟩ (rfl) rfl
       ·have g43 : (((joinM l_0 100).2.2 : Int) == 4) = ((n : Int) == 40) := beq_t (not_f h43)
        refine sem_skip ?_
        have e46 : fills22_J63 n out l_0 = .inr () := by
         unfold fills22_J63
         try dsimp only
         rewrite [if_pos g35, if_pos g39, if_pos g43]
         all_goals rfl
        exact cutW_n () e46 (Trans.ren [(1, 2), (2, 1)] (by decide +kernel) (by decide +kernel) rfl ⟨⟨rfl, rfl⟩, ⟨rfl, rfl⟩, ⟨rfl, rfl⟩, ⟨rfl, rfl⟩, ⟨rfl, rfl⟩, ⟨rfl, rfl⟩, trivial⟩ ⟨⟨rfl, rfl, rfl⟩, ⟨rfl, rfl, rfl⟩, trivial⟩ (by decide))
     ·have g35 : ¬ ((out : Int) ≥ 1) := of_decide_eq_false h35
      refine step_g0 rfl h35 rfl ?_
      refine step_g0 rfl h35 rfl ?_
      refine step_g0 rfl h35 rfl ?_
      refine step_pickF rfl h35 rfl rfl ?_
      refine step_bin rfl rfl rfl rfl rfl trivial ?_
      refine step_r rfl rfl trivial ?_
      refine step_gs rfl (fun h48 => ?_) (fun h48 => ?_)
      ·have g48 : ¬ (((leaveM l_0 out).2) = false) := beq_f (not_t h48)
       refine step_g0 rfl h48 rfl ?_
       refine step_g0 rfl h48 rfl ?_
       refine step_g0 rfl h48 rfl ?_
       refine step_g0 rfl h48 rfl ?_
       refine step_g0 rfl h48 rfl ?_
       refine step_pickT rfl h48 rfl rfl ?_
       refine step_nil ?_
       refine seqK_n ?_
       refine sem_condT rfl ?_
       refine sem_seq ?_
       refine sem_region rfl ?_
       refine step_r rfl rfl trivial ?_
       refine step_nil ?_
       refine seqK_n ?_
       refine sem_ret ?_
       refine cutW_r ?_
       refine seqK_r ?_
       have e49 : fills22_J63 n out l_0 = .inl false := by
        unfold fills22_J63
        try dsimp only
        rewrite [if_neg g35, if_neg g48]
        all_goals rfl
       have e50 : fills22 n out = false := by
        unfold fills22
        try dsimp only
        rewrite [if_neg g4, if_neg g7, hJ9]
        try dsimp only
        rewrite [e49]
        try dsimp only
        all_goals rfl
       rw [e50]
       exact answersR rfl ⟨trivial, trivial⟩ (rfl) rfl
      ·have g48 : ((leaveM l_0 out).2) = false := beq_t (not_f h48)
       refine step_g1 rfl h48 ?_
       refine step_r rfl rfl trivial ?_
       refine step_g1 rfl h48 ?_
       refine step_bin rfl rfl rfl rfl rfl trivial ?_
       refine step_g1 rfl h48 ?_
       refine step_r rfl rfl trivial ?_
       refine step_g1 rfl h48 ?_
       refine step_bin rfl rfl rfl rfl rfl trivial ?_
       refine step_g1 rfl h48 ?_
       refine step_bin rfl rfl rfl rfl rfl trivial ?_
       refine step_pickF rfl h48 rfl rfl ?_
       refine step_nil ?_
       refine seqK_n ?_
       refine sem_cond rfl (fun h53 => ?_) (fun h53 => ?_)
       ·have g53 : ¬ ((((joinM l_0 100).2.2 : Int) == 4) = ((n : Int) == 40)) := beq_f (not_t h53)
        refine sem_seq ?_
        refine sem_region rfl ?_
        refine step_r rfl rfl trivial ?_
        refine step_nil ?_
        refine seqK_n ?_
        refine sem_ret ?_
        refine cutW_r ?_
        refine seqK_r ?_
        have e54 : fills22_J63 n out l_0 = .inl false := by
         unfold fills22_J63
         try dsimp only
         rewrite [if_neg g35, if_pos g48, if_neg g53]
         all_goals rfl
        have e55 : fills22 n out = false := by
         unfold fills22
         try dsimp only
         rewrite [if_neg g4, if_neg g7, hJ9]
         try dsimp only
         rewrite [e54]
         try dsimp only
         all_goals rfl
        rw [e55]
        exact answersR rfl ⟨trivial, trivial⟩ (rfl) rfl
       ·have g53 : (((joinM l_0 100).2.2 : Int) == 4) = ((n : Int) == 40) := beq_t (not_f h53)
        refine sem_skip ?_
        have e56 : fills22_J63 n out l_0 = .inr () := by
         unfold fills22_J63
         try dsimp only
         rewrite [if_neg g35, if_pos g48, if_pos g53]
         all_goals rfl
        exact cutW_n () e56 (Trans.ren [(1, 2), (2, 1)] (by decide +kernel) (by decide +kernel) rfl ⟨⟨rfl, rfl⟩, ⟨rfl, rfl⟩, ⟨rfl, rfl⟩, ⟨rfl, rfl⟩, ⟨rfl, rfl⟩, ⟨rfl, rfl⟩, trivial⟩ ⟨⟨rfl, rfl, rfl⟩, ⟨rfl, rfl, rfl⟩, trivial⟩ (by decide))
    ·rintro ⟨⟩ (hJ33 : fills22_J63 n out l_0 = .inr ())
     show seqK _ _ _ .normal (⟨[(0, I n), (1, I out), (5, B (small22)), (6, .ref 0 2 0 l_0.length), (14, .ref 1 2 0 (leaveM l_0 out).1.length), (15, B (leaveM l_0 out).2)], [(0, .row 31 2 (l_0.flatMap encGMember)), (1, .row 31 2 ((leaveM l_0 out).1.flatMap encGMember))], 2, [], 119, 0⟩ : St)
     refine seqK_n ?_
     refine sem_seq ?_
     refine sem_seq ?_
     refine sem_region rfl ?_
     refine step_r rfl rfl trivial ?_
     refine step_nil ?_
     refine seqK_n ?_
     refine sem_cutW (fun w_ : Unit => match w_ with | () => (⟨[(1, I out), (5, B (small22)), (14, .ref 0 2 0 (leaveM l_0 out).1.length), (15, B (leaveM l_0 out).2)], [(0, .row 31 2 ((leaveM l_0 out).1.flatMap encGMember))], 1, [], 119, 0⟩ : St)) (fun w_ => fills22_L1 out l_0 ((n.toNat + 1) - 1) 1 = .inr w_) ?_ ?_
     ·refine sem_block ?_
      refine sem_loopT (fun k1 : Nat => (⟨[(0, I n), (1, I out), (5, B (small22)), (6, .ref 0 2 0 l_0.length), (14, .ref 1 2 0 (leaveM l_0 out).1.length), (15, B (leaveM l_0 out).2), (16, I k1)], [(0, .row 31 2 (l_0.flatMap encGMember)), (1, .row 31 2 ((leaveM l_0 out).1.flatMap encGMember))], 2, [], 119, 0⟩ : St)) (fun k1 : Nat => fills22_L1 out l_0 ((n.toNat + 1) - k1) k1 = fills22_L1 out l_0 ((n.toNat + 1) - 1) 1 ∧ k1 ≤ n.toNat + 1) (fun k1 : Nat => n.toNat + 1 - k1) 1 (⟨rfl, (by first | omega | (simp; omega))⟩) ?_ (fun k1 hh_ => ?_)
      ·exact (Trans.ren [] (by decide +kernel) (by decide +kernel) rfl ⟨⟨rfl, rfl⟩, ⟨rfl, rfl⟩, ⟨rfl, rfl⟩, ⟨rfl, rfl⟩, ⟨rfl, rfl⟩, ⟨rfl, rfl⟩, ⟨rfl, rfl⟩, trivial⟩ ⟨⟨rfl, rfl, rfl⟩, ⟨rfl, rfl, rfl⟩, trivial⟩ (by decide))
      obtain ⟨hI1, hb1⟩ := hh_
      show Walks Try.prog _ _ (⟨[(0, I n), (1, I out), (5, B (small22)), (6, .ref 0 2 0 l_0.length), (14, .ref 1 2 0 (leaveM l_0 out).1.length), (15, B (leaveM l_0 out).2), (16, I k1)], [(0, .row 31 2 (l_0.flatMap encGMember)), (1, .row 31 2 ((leaveM l_0 out).1.flatMap encGMember))], 2, [], 119, 0⟩ : St)
      refine sem_seq ?_
      refine sem_seq ?_
      refine sem_region rfl ?_
      refine step_r rfl rfl trivial ?_
      refine step_r rfl rfl trivial ?_
      refine step_bin rfl rfl rfl rfl rfl trivial ?_
      refine step_nil ?_
      refine seqK_n ?_
      refine sem_cond rfl (fun h60 => ?_) (fun h60 => ?_)
      ·have g60 : (k1 : Int) ≤ n := of_decide_eq_true h60
       have hm1 : n.toNat + 1 - k1 = (n.toNat + 1 - (k1 + 1)) + 1 := by omega
       refine sem_skip ?_
       refine seqK_n ?_
       refine sem_seq ?_
       refine sem_block ?_
       refine sem_seq ?_
       refine sem_region rfl ?_
       refine step_r rfl rfl trivial ?_
       refine step_r rfl rfl trivial ?_
       refine step_bin rfl rfl rfl rfl rfl trivial ?_
       refine step_r rfl rfl trivial ?_
       refine step_gs rfl (fun h63 => ?_) (fun h63 => ?_)
       ·have g63 : ¬ ((k1 : Int) = out) := bne_t h63
        refine step_g1 rfl h63 ?_
        refine step_r rfl rfl trivial ?_
        refine step_g1 rfl h63 ?_
        refine step_r rfl rfl trivial ?_
        refine step_g1 rfl h63 ?_
        refine step_callJ (Hin := [.row _ _ _]) (H' := [(0, .row _ _ _), (1, .row _ _ _)]) (nx' := 2) [1] rfl rfl rfl rfl rfl rfl rfl rfl rfl (by (repeat' apply And.intro) <;> first | trivial | rfl | exact flat_len (s := 2) (enc := encGMember) (fun _ => rfl) _ | exact flat_len (fun _ => rfl) _ | exact encI_len _ | exact encB_len _ | exact encY_len _ | exact Nat.le_of_ble_eq_true rfl | assumption) (groupM_ok ((leaveM l_0 out).1) false k1) rfl (by decide) rfl rfl trivial rfl rfl rfl rfl ?_
        refine step_g1 rfl h63 ?_
        refine step_r rfl rfl trivial ?_
        refine step_g1 rfl h63 ?_
        refine step_r rfl rfl trivial ?_
        refine step_g1 rfl h63 ?_
        refine step_callJ (Hin := [.row _ _ _]) (H' := [(0, .row _ _ _), (1, .row _ _ _)]) (nx' := 2) [0] rfl rfl rfl rfl rfl rfl rfl rfl rfl (by (repeat' apply And.intro) <;> first | trivial | rfl | exact flat_len (s := 2) (enc := encGMember) (fun _ => rfl) _ | exact flat_len (fun _ => rfl) _ | exact encI_len _ | exact encB_len _ | exact encY_len _ | exact Nat.le_of_ble_eq_true rfl | assumption) (groupM_ok l_0 false k1) rfl (by decide) rfl rfl trivial rfl rfl rfl rfl ?_
        refine step_g1 rfl h63 ?_
        refine step_bin rfl rfl rfl rfl rfl trivial ?_
        refine step_pickT rfl h63 rfl rfl ?_
        refine step_nil ?_
        refine seqK_n ?_
        refine sem_cond rfl (fun h65 => ?_) (fun h65 => ?_)
        ·have g65 : ¬ ((groupM ((leaveM l_0 out).1) k1 : Int) = (groupM l_0 k1)) := bne_t h65
         refine sem_seq ?_
         refine sem_region rfl ?_
         refine step_r rfl rfl trivial ?_
         refine step_nil ?_
         refine seqK_n ?_
         refine sem_ret ?_
         refine blkK_r ?_
         refine seqK_r ?_
         refine lupK_r ?_
         refine blkK_r ?_
         refine cutW_r ?_
         refine seqK_r ?_
         have e66 : fills22_L1 out l_0 ((n.toNat + 1) - 1) 1 = .inl false := by
          rewrite [← hI1, hm1]
          rewrite [fills22_L1]
          try dsimp only
          rewrite [if_neg g63, if_neg g65]
          all_goals rfl
         have e67 : fills22 n out = false := by
          unfold fills22
          try dsimp only
          rewrite [if_neg g4, if_neg g7, hJ9]
          try dsimp only
          rewrite [hJ33]
          try dsimp only
          rewrite [e66]
          try dsimp only
          all_goals rfl
         rw [e67]
         exact answersR rfl ⟨trivial, trivial⟩ (rfl) rfl
        ·have g65 : (groupM ((leaveM l_0 out).1) k1 : Int) = (groupM l_0 k1) := bne_f h65
         refine sem_skip ?_
         refine blkK_n ?_
         refine seqK_n ?_
         refine sem_region rfl ?_
         refine step_r rfl rfl trivial ?_
         refine step_bin rfl rfl rfl rfl rfl trivial ?_
         refine step_r rfl rfl trivial ?_
         refine step_nil ?_
         have e69 : fills22_L1 out l_0 ((n.toNat + 1) - k1) k1 = fills22_L1 out l_0 ((n.toNat + 1) - (k1 + 1)) (k1 + 1) := by
          rewrite [hm1]
          rewrite [fills22_L1]
          try dsimp only
          rewrite [if_neg g63, if_pos g65]
          all_goals rfl
         exact lup_againT (k1 + 1) ⟨e69.symm.trans hI1, (by omega)⟩ (by show n.toNat + 1 - (k1 + 1) < n.toNat + 1 - k1; omega) (Trans.ren [] (by decide +kernel) (by decide +kernel) rfl ⟨⟨rfl, rfl⟩, ⟨rfl, rfl⟩, ⟨rfl, rfl⟩, ⟨rfl, rfl⟩, ⟨rfl, rfl⟩, ⟨rfl, rfl⟩, ⟨congrArg (fun n => some (I n)) (wrapI (k := k1) (by first | omega | (simp; omega))), rfl⟩, trivial⟩ ⟨⟨rfl, rfl, rfl⟩, ⟨rfl, rfl, rfl⟩, trivial⟩ (by decide))
       ·have g63 : (k1 : Int) = out := bne_f h63
        refine step_g0 rfl h63 rfl ?_
        refine step_g0 rfl h63 rfl ?_
        refine step_g0 rfl h63 rfl ?_
        refine step_g0 rfl h63 rfl ?_
        refine step_g0 rfl h63 rfl ?_
        refine step_g0 rfl h63 rfl ?_
        refine step_g0 rfl h63 rfl ?_
        refine step_pickF rfl h63 rfl rfl ?_
        refine step_nil ?_
        refine seqK_n ?_
        refine sem_condF rfl ?_
        refine sem_skip ?_
        refine blkK_n ?_
        refine seqK_n ?_
        refine sem_region rfl ?_
        refine step_r rfl rfl trivial ?_
        refine step_bin rfl rfl rfl rfl rfl trivial ?_
        refine step_r rfl rfl trivial ?_
        refine step_nil ?_
        have e71 : fills22_L1 out l_0 ((n.toNat + 1) - k1) k1 = fills22_L1 out l_0 ((n.toNat + 1) - (k1 + 1)) (k1 + 1) := by
         rewrite [hm1]
         rewrite [fills22_L1]
         try dsimp only
         rewrite [if_pos g63]
         all_goals rfl
        exact lup_againT (k1 + 1) ⟨e71.symm.trans hI1, (by omega)⟩ (by show n.toNat + 1 - (k1 + 1) < n.toNat + 1 - k1; omega) (Trans.ren [] (by decide +kernel) (by decide +kernel) rfl ⟨⟨rfl, rfl⟩, ⟨rfl, rfl⟩, ⟨rfl, rfl⟩, ⟨rfl, rfl⟩, ⟨rfl, rfl⟩, ⟨rfl, rfl⟩, ⟨congrArg (fun n => some (I n)) (wrapI (k := k1) (by first | omega | (simp; omega))), rfl⟩, trivial⟩ ⟨⟨rfl, rfl, rfl⟩, ⟨rfl, rfl, rfl⟩, trivial⟩ (by decide))
      ·have g60 : ¬ ((k1 : Int) ≤ n) := of_decide_eq_false h60
       have hm1 : n.toNat + 1 - k1 = 0 := by omega
       refine sem_exit ?_
       refine seqK_e ?_
       refine lupK_e ?_
       refine blkK_t rfl ?_
       have e72 : fills22_L1 out l_0 ((n.toNat + 1) - 1) 1 = .inr () := by
        rewrite [← hI1, hm1]
        rewrite [fills22_L1]
        try dsimp only
        all_goals rfl
       exact cutW_n () e72 (Trans.ren [(0, 1), (1, 0)] (by decide +kernel) (by decide +kernel) rfl ⟨⟨rfl, rfl⟩, ⟨rfl, rfl⟩, ⟨rfl, rfl⟩, ⟨rfl, rfl⟩, trivial⟩ ⟨⟨rfl, rfl, rfl⟩, trivial⟩ (by decide))
     ·rintro ⟨⟩ (hJ57 : fills22_L1 out l_0 ((n.toNat + 1) - 1) 1 = .inr ())
      show seqK _ _ _ .normal (⟨[(1, I out), (5, B (small22)), (14, .ref 0 2 0 (leaveM l_0 out).1.length), (15, B (leaveM l_0 out).2)], [(0, .row 31 2 ((leaveM l_0 out).1.flatMap encGMember))], 1, [], 119, 0⟩ : St)
      refine seqK_n ?_
      refine sem_seq ?_
      refine sem_region rfl ?_
      refine step_r rfl rfl trivial ?_
      refine step_callJ (Hin := [.row _ _ _]) (out' := .tup [.ref 1 _ _ _, _, _]) (H' := [(1, .row _ _ _), (0, .row _ _ _)]) (nx' := 2) [0] rfl rfl rfl rfl rfl rfl rfl rfl rfl (by (repeat' apply And.intro) <;> first | trivial | rfl | exact flat_len (s := 2) (enc := encGMember) (fun _ => rfl) _ | exact flat_len (fun _ => rfl) _ | exact encI_len _ | exact encB_len _ | exact encY_len _ | exact Nat.le_of_ble_eq_true rfl | assumption) (joinM_ok ((leaveM l_0 out).1) false 101 (by first | omega | (simp; omega))) rfl (by decide) rfl rfl ⟨encGMember_solid, trivial⟩ rfl rfl rfl rfl ?_
      have p73 := joinM_len ((leaveM l_0 out).1) 101
      refine step_r rfl rfl trivial ?_
      refine step_r rfl rfl trivial ?_
      refine step_r rfl rfl trivial ?_
      refine step_r rfl rfl trivial ?_
      refine step_r rfl rfl trivial ?_
      refine step_r rfl rfl trivial ?_
      refine step_r rfl rfl trivial ?_
      refine step_nil ?_
      refine seqK_n ?_
      refine sem_seq ?_
      refine sem_region rfl ?_
      refine step_r rfl rfl trivial ?_
      refine step_r rfl rfl trivial ?_
      refine step_gs rfl (fun h77 => ?_) (fun h77 => ?_)
      ·have g77 : small22 = true := h77
       refine step_g1 rfl h77 ?_
       refine step_r rfl rfl trivial ?_
       refine step_g1 rfl h77 ?_
       refine step_r rfl rfl trivial ?_
       refine step_g1 rfl h77 ?_
       refine step_r rfl rfl trivial ?_
       refine step_gs rfl (fun h80 => ?_) (fun h80 => ?_)
       ·have g80 : ¬ ((leaveM l_0 out).2 = true) := boo_f (not_t h80)
        refine step_g0 rfl h80 rfl ?_
        refine step_g0 rfl h80 rfl ?_
        refine step_g0 rfl h80 rfl ?_
        refine step_gf rfl rfl ?_
        refine step_gf rfl rfl ?_
        refine step_gf rfl rfl ?_
        refine step_gf rfl rfl ?_
        refine step_gf rfl rfl ?_
        refine step_gf rfl rfl ?_
        refine step_g0 rfl h80 rfl ?_
        refine step_g1 rfl h77 ?_
        refine step_pickT rfl h80 rfl rfl ?_
        refine step_pickT rfl h77 rfl rfl ?_
        refine step_r rfl rfl trivial ?_
        refine step_nil ?_
        refine seqK_n ?_
        refine sem_ret ?_
        have e81 : fills22 n out = true := by
         unfold fills22
         try dsimp only
         rewrite [if_neg g4, if_neg g7, hJ9]
         try dsimp only
         rewrite [hJ33]
         try dsimp only
         rewrite [hJ57]
         try dsimp only
         rewrite [if_pos g77, if_neg g80]
         all_goals rfl
        rw [e81]
        exact answersR rfl ⟨trivial, trivial⟩ (rfl) rfl
       ·have g80 : (leaveM l_0 out).2 = true := (not_f h80)
        refine step_g1 rfl h80 ?_
        refine step_r rfl rfl trivial ?_
        refine step_g1 rfl h80 ?_
        refine step_bin rfl rfl rfl rfl rfl trivial ?_
        refine step_g1 rfl h80 ?_
        refine step_r rfl rfl trivial ?_
        refine step_gs rfl (fun h83 => ?_) (fun h83 => ?_)
        ·have g83 : ((joinM ((leaveM l_0 out).1) 101).2.2 : Int) = 0 := beq_t h83
         refine step_g1 rfl h83 ?_
         refine step_r rfl rfl trivial ?_
         refine step_g1 rfl h83 ?_
         refine step_r rfl rfl trivial ?_
         refine step_g1 rfl h83 ?_
         refine step_bin rfl rfl rfl rfl rfl trivial ?_
         refine step_g1 rfl h83 ?_
         refine step_bin rfl rfl rfl rfl rfl (by first | decide | omega | simp_all) ?_
         refine step_g1 rfl h83 ?_
         refine step_bin rfl rfl rfl rfl rfl trivial ?_
         refine step_g1 rfl h83 ?_
         refine step_bin rfl rfl rfl rfl rfl trivial ?_
         refine step_g1 rfl h80 ?_
         refine step_pickT rfl h83 rfl rfl ?_
         refine step_g1 rfl h77 ?_
         refine step_pickF rfl h80 rfl rfl ?_
         refine step_pickT rfl h77 rfl rfl ?_
         refine step_r rfl rfl trivial ?_
         refine step_nil ?_
         refine seqK_n ?_
         refine sem_ret ?_
         have e86 : fills22 n out = (((joinM ((leaveM l_0 out).1) 101).2.1 : Int) == (IntKind.i64.wrap ((IntKind.i64.wrap ((IntKind.i64.wrap (out - 1) : Int).tdiv 5)) + 1))) := by
          unfold fills22
          try dsimp only
          rewrite [if_neg g4, if_neg g7, hJ9]
          try dsimp only
          rewrite [hJ33]
          try dsimp only
          rewrite [hJ57]
          try dsimp only
          rewrite [if_pos g77, if_pos g80, if_pos g83]
          all_goals rfl
         rw [e86]
         exact answersR rfl ⟨trivial, trivial⟩ (rfl) rfl
        ·have g83 : ¬ (((joinM ((leaveM l_0 out).1) 101).2.2 : Int) = 0) := beq_f h83
         refine step_g0 rfl h83 rfl ?_
         refine step_g0 rfl h83 rfl ?_
         refine step_g0 rfl h83 rfl ?_
         refine step_g0 rfl h83 rfl ?_
         refine step_g0 rfl h83 rfl ?_
         refine step_g0 rfl h83 rfl ?_
         refine step_g1 rfl h80 ?_
         refine step_pickF rfl h83 rfl rfl ?_
         refine step_g1 rfl h77 ?_
         refine step_pickF rfl h80 rfl rfl ?_
         refine step_pickT rfl h77 rfl rfl ?_
         refine step_r rfl rfl trivial ?_
         refine step_nil ?_
         refine seqK_n ?_
         refine sem_ret ?_
         have e87 : fills22 n out = false := by
          unfold fills22
          try dsimp only
          rewrite [if_neg g4, if_neg g7, hJ9]
          try dsimp only
          rewrite [hJ33]
          try dsimp only
          rewrite [hJ57]
          try dsimp only
          rewrite [if_pos g77, if_pos g80, if_neg g83]
          all_goals rfl
         rw [e87]
         exact answersR rfl ⟨trivial, trivial⟩ (rfl) rfl
      ·have g77 : ¬ (small22 = true) := boo_f h77
       refine step_g0 rfl h77 rfl ?_
       refine step_g0 rfl h77 rfl ?_
       refine step_g0 rfl h77 rfl ?_
       refine step_gf rfl rfl ?_
       refine step_gf rfl rfl ?_
       refine step_gf rfl rfl ?_
       refine step_gf rfl rfl ?_
       refine step_gf rfl rfl ?_
       refine step_gf rfl rfl ?_
       refine step_gf rfl rfl ?_
       refine step_gf rfl rfl ?_
       refine step_gf rfl rfl ?_
       refine step_gf rfl rfl ?_
       refine step_g0 rfl h77 rfl ?_
       refine step_pickF rfl h77 rfl rfl ?_
       refine step_r rfl rfl trivial ?_
       refine step_nil ?_
       refine seqK_n ?_
       refine sem_ret ?_
       have e88 : fills22 n out = false := by
        unfold fills22
        try dsimp only
        rewrite [if_neg g4, if_neg g7, hJ9]
        try dsimp only
        rewrite [hJ33]
        try dsimp only
        rewrite [hJ57]
        try dsimp only
        rewrite [if_neg g77]
        all_goals rfl
       rw [e88]
       exact answersR rfl ⟨trivial, trivial⟩ (rfl) rfl

structure A3int where
  (f0 : Int)
  (f1 : Int)
  (f2 : Int)
  deriving DecidableEq, Inhabited
def encA3int (x : A3int) : List PV := [i64 x.f0, i64 x.f1, i64 x.f2]
abbrev aA3int (x : A3int) : AV := .agg [I x.f0, I x.f1, I x.f2]
def wfA3int (x : A3int) : Prop := (InR x.f0) ∧ (InR x.f1) ∧ (InR x.f2)
theorem encA3int_solid {l : List A3int} : ∀ p ∈ l.flatMap encA3int, solidP p = true := flat_solid (fun x p h => by simp only [encA3int, List.mem_cons, List.mem_nil_iff, or_false] at h; rcases h with rfl | rfl | rfl <;> rfl)

def stays22_J112 (l0 : List GMember) (x0 : A3int) : Int :=
  if (leaveM l0 (IntKind.i64.wrap (1 + (andK IntKind.i64 x0.f1 63)))).2 = true then 0 else 5
def stays22_J45 (l0 : List GMember) (x0 : A3int) : Sum Bool ((List GMember) × Int) :=
  if (andK IntKind.i64 x0.f0 3 : Int) = 0 then (if ((joinM l0 (IntKind.i64.wrap (1 + (andK IntKind.i64 x0.f1 63)))).2.2 : Int) = 0 then (if ((joinM l0 (IntKind.i64.wrap (1 + (andK IntKind.i64 x0.f1 63)))).1.length : Int) = (IntKind.i64.wrap (l0.length + 1)) then (if ((((joinM l0 (IntKind.i64.wrap (1 + (andK IntKind.i64 x0.f1 63)))).1).getD ((IntKind.i64.wrap (((joinM l0 (IntKind.i64.wrap (1 + (andK IntKind.i64 x0.f1 63)))).1.length) - 1)).toNat) default).Unit : Int) = (IntKind.i64.wrap (1 + (andK IntKind.i64 x0.f1 63))) then (if ((((joinM l0 (IntKind.i64.wrap (1 + (andK IntKind.i64 x0.f1 63)))).1).getD ((IntKind.i64.wrap (((joinM l0 (IntKind.i64.wrap (1 + (andK IntKind.i64 x0.f1 63)))).1.length) - 1)).toNat) default).Group : Int) = ((joinM l0 (IntKind.i64.wrap (1 + (andK IntKind.i64 x0.f1 63)))).2.1) then (if ((joinM l0 (IntKind.i64.wrap (1 + (andK IntKind.i64 x0.f1 63)))).2.2 : Int) = 4 then (if (l0.length : Int) = 40 then .inr ((joinM l0 (IntKind.i64.wrap (1 + (andK IntKind.i64 x0.f1 63)))).1, (joinM l0 (IntKind.i64.wrap (1 + (andK IntKind.i64 x0.f1 63)))).2.2) else .inl false) else .inr ((joinM l0 (IntKind.i64.wrap (1 + (andK IntKind.i64 x0.f1 63)))).1, (joinM l0 (IntKind.i64.wrap (1 + (andK IntKind.i64 x0.f1 63)))).2.2)) else .inl false) else .inl false) else .inl false) else if ((joinM l0 (IntKind.i64.wrap (1 + (andK IntKind.i64 x0.f1 63)))).2.2 : Int) = 4 then (if (l0.length : Int) = 40 then .inr ((joinM l0 (IntKind.i64.wrap (1 + (andK IntKind.i64 x0.f1 63)))).1, (joinM l0 (IntKind.i64.wrap (1 + (andK IntKind.i64 x0.f1 63)))).2.2) else .inl false) else .inr ((joinM l0 (IntKind.i64.wrap (1 + (andK IntKind.i64 x0.f1 63)))).1, (joinM l0 (IntKind.i64.wrap (1 + (andK IntKind.i64 x0.f1 63)))).2.2)) else if (andK IntKind.i64 x0.f0 3 : Int) = 1 then (let e_112 := stays22_J112 l0 x0; if (groupM ((leaveM l0 (IntKind.i64.wrap (1 + (andK IntKind.i64 x0.f1 63)))).1) (IntKind.i64.wrap (1 + (andK IntKind.i64 x0.f1 63))) : Int) = 0 then (if (leaveM l0 (IntKind.i64.wrap (1 + (andK IntKind.i64 x0.f1 63)))).2 = true then (if ((leaveM l0 (IntKind.i64.wrap (1 + (andK IntKind.i64 x0.f1 63)))).1.length : Int) = (IntKind.i64.wrap (l0.length - 1)) then .inr ((leaveM l0 (IntKind.i64.wrap (1 + (andK IntKind.i64 x0.f1 63)))).1, e_112) else .inl false) else .inr ((leaveM l0 (IntKind.i64.wrap (1 + (andK IntKind.i64 x0.f1 63)))).1, e_112)) else .inl false) else if (andK IntKind.i64 x0.f0 3 : Int) = 2 then (if ((moveM l0 (IntKind.i64.wrap (1 + (andK IntKind.i64 x0.f1 63))) (IntKind.i64.wrap ((andK IntKind.i64 x0.f2 7) + 1))).2 : Int) = 0 then (if (groupM ((moveM l0 (IntKind.i64.wrap (1 + (andK IntKind.i64 x0.f1 63))) (IntKind.i64.wrap ((andK IntKind.i64 x0.f2 7) + 1))).1) (IntKind.i64.wrap (1 + (andK IntKind.i64 x0.f1 63))) : Int) = (IntKind.i64.wrap ((andK IntKind.i64 x0.f2 7) + 1)) then .inr ((moveM l0 (IntKind.i64.wrap (1 + (andK IntKind.i64 x0.f1 63))) (IntKind.i64.wrap ((andK IntKind.i64 x0.f2 7) + 1))).1, (moveM l0 (IntKind.i64.wrap (1 + (andK IntKind.i64 x0.f1 63))) (IntKind.i64.wrap ((andK IntKind.i64 x0.f2 7) + 1))).2) else .inl false) else .inr ((moveM l0 (IntKind.i64.wrap (1 + (andK IntKind.i64 x0.f1 63))) (IntKind.i64.wrap ((andK IntKind.i64 x0.f2 7) + 1))).1, (moveM l0 (IntKind.i64.wrap (1 + (andK IntKind.i64 x0.f1 63))) (IntKind.i64.wrap ((andK IntKind.i64 x0.f2 7) + 1))).2)) else if (andK IntKind.i64 x0.f0 3 : Int) = 3 then (if ((swapM l0 (IntKind.i64.wrap (1 + (andK IntKind.i64 x0.f1 63))) (IntKind.i64.wrap (1 + (andK IntKind.i64 x0.f2 63)))).2 : Int) = 0 then (if ((swapM ((swapM l0 (IntKind.i64.wrap (1 + (andK IntKind.i64 x0.f1 63))) (IntKind.i64.wrap (1 + (andK IntKind.i64 x0.f2 63)))).1) (IntKind.i64.wrap (1 + (andK IntKind.i64 x0.f1 63))) (IntKind.i64.wrap (1 + (andK IntKind.i64 x0.f2 63)))).2 : Int) = 0 then (if ((swapM ((swapM l0 (IntKind.i64.wrap (1 + (andK IntKind.i64 x0.f1 63))) (IntKind.i64.wrap (1 + (andK IntKind.i64 x0.f2 63)))).1) (IntKind.i64.wrap (1 + (andK IntKind.i64 x0.f1 63))) (IntKind.i64.wrap (1 + (andK IntKind.i64 x0.f2 63)))).1) = l0 then .inr ((swapM l0 (IntKind.i64.wrap (1 + (andK IntKind.i64 x0.f1 63))) (IntKind.i64.wrap (1 + (andK IntKind.i64 x0.f2 63)))).1, (swapM l0 (IntKind.i64.wrap (1 + (andK IntKind.i64 x0.f1 63))) (IntKind.i64.wrap (1 + (andK IntKind.i64 x0.f2 63)))).2) else .inl false) else .inl false) else .inr ((swapM l0 (IntKind.i64.wrap (1 + (andK IntKind.i64 x0.f1 63))) (IntKind.i64.wrap (1 + (andK IntKind.i64 x0.f2 63)))).1, (swapM l0 (IntKind.i64.wrap (1 + (andK IntKind.i64 x0.f1 63))) (IntKind.i64.wrap (1 + (andK IntKind.i64 x0.f2 63)))).2)) else .inr ([], 5)
def stays22_J184 (l0 : List GMember) (m_45 : List GMember) (e_45 : Int) : List GMember :=
  if (e_45 : Int) = 0 then m_45 else l0
def stays22_L0 : List A3int → Nat → (List GMember) → Sum Bool (List GMember)
  | [], k0, l0 => .inr l0
  | x0 :: l_, k0, l0 => (match stays22_J45 l0 x0 with
    | .inl r_ => .inl r_
    | .inr (m_45, e_45) => (let l_184 := stays22_J184 l0 m_45 e_45; if rightM l_184 = true then (if (l_184.length : Int) > 40 then .inl false else stays22_L0 l_ (k0 + 1) l_184) else .inl false))
def stays22_L1 (l_0 : List GMember) : Nat → Nat → Int → Sum Bool Int
  | 0, k1, n1 => .inr n1
  | n_ + 1, k1, n1 => if ((inM l_0 k1).length : Int) > 5 then .inl false else stays22_L1 l_0 n_ (k1 + 1) (IntKind.i64.wrap (n1 + ((inM l_0 k1).length)))
def stays22 (steps : List A3int) : Bool :=
  if (steps.length : Int) > 200 then (small22) else (match stays22_L0 steps 0 ([]) with
    | .inl r_ => r_
    | .inr l_0 => (match stays22_L1 l_0 (9 - 1) 1 0 with
    | .inl r_ => r_
    | .inr n_1 => if small22 = true then (if (n_1 : Int) = l_0.length then (if (l_0.length : Int) = 0 then true else ((leadM l_0 : Int) == ((l_0.getD 0 default).Unit))) else false) else false))
theorem stays22_ok (steps : List A3int) (steps_f : Bool) : Ok Try.prog 4 [.pv (.slc steps.length steps_f (steps.flatMap encA3int))] [] (B (stays22 steps)) [] [] := by
 refine Ok.len fun hlen => ?_
 have hl_steps : steps.length ≤ maxLen := hlen _ (by simp [lensL, lens, lensP])
 unfold maxLen at hl_steps
 refine ok_of_sem Try.func4 rfl ?_
 show Walks Try.prog _ _ ⟨[(0, .pv (.slc steps.length steps_f (steps.flatMap encA3int)))], [], 0, [], 229, 0⟩
 refine sem_seq ?_
 refine sem_region rfl ?_
 refine step_r rfl rfl trivial ?_
 refine step_nil ?_
 refine seqK_n ?_
 refine sem_seq ?_
 refine sem_region rfl ?_
 refine step_call rfl rfl rfl rfl (small22_ok ) rfl rfl rfl ?_
 refine step_r rfl rfl trivial ?_
 refine step_nil ?_
 refine seqK_n ?_
 refine sem_seq ?_
 refine sem_seq ?_
 refine sem_region rfl ?_
 refine step_r rfl rfl trivial ?_
 refine step_r rfl rfl trivial ?_
 refine step_bin rfl rfl rfl rfl rfl trivial ?_
 refine step_nil ?_
 refine seqK_n ?_
 refine sem_cond rfl (fun h2 => ?_) (fun h2 => ?_)
 ·have g2 : (steps.length : Int) > 200 := of_decide_eq_true h2
  refine sem_seq ?_
  refine sem_region rfl ?_
  refine step_r rfl rfl trivial ?_
  refine step_r rfl rfl trivial ?_
  refine step_nil ?_
  refine seqK_n ?_
  refine sem_ret ?_
  refine seqK_r ?_
  have e3 : stays22 steps = (small22) := by
   unfold stays22
   try dsimp only
   rewrite [if_pos g2]
   all_goals rfl
  rw [e3]
  exact answersR rfl ⟨trivial, trivial⟩ (rfl) rfl
 ·have g2 : ¬ ((steps.length : Int) > 200) := of_decide_eq_false h2
  refine sem_skip ?_
  refine seqK_n ?_
  refine sem_seq ?_
  refine sem_region rfl ?_
  refine step_n (nx' := 1) rfl rfl rfl trivial ?_
  refine step_nil ?_
  refine seqK_n ?_
  refine sem_seq ?_
  refine sem_seq ?_
  refine sem_region rfl ?_
  refine step_r rfl rfl trivial ?_
  refine step_nil ?_
  refine seqK_n ?_
  refine sem_cutW (fun l_0 : List GMember => (⟨[(3, B (small22)), (4, .ref 0 2 0 l_0.length)], [(0, .row 31 2 (l_0.flatMap encGMember))], 1, [], 229, 0⟩ : St)) (fun l_0 : List GMember => stays22_L0 steps 0 ([]) = .inr l_0 ∧ (l_0.length ≤ 40)) ?_ ?_
  ·refine sem_block ?_
   refine sem_loopT (fun w_ : Nat × (List GMember) => match w_ with | (k0, l0) => (⟨[(0, .pv (.slc steps.length steps_f (steps.flatMap encA3int))), (3, B (small22)), (4, .ref 0 2 0 l0.length), (5, I k0)], [(0, .row 31 2 (l0.flatMap encGMember))], 1, [], 229, 0⟩ : St)) (fun w_ : Nat × (List GMember) => match w_ with | (k0, l0) => stays22_L0 (steps.drop k0) k0 l0 = stays22_L0 steps 0 ([]) ∧ k0 ≤ steps.length ∧ l0.length ≤ 40) (fun w_ : Nat × (List GMember) => match w_ with | (k0, l0) => steps.length - k0) (0, []) (⟨rfl, Nat.zero_le _, by first | omega | simp | (simp; omega)⟩) ?_ (fun w_ hh_ => ?_)
   ·exact (Trans.ren [] (by decide +kernel) (by decide +kernel) rfl ⟨⟨rfl, rfl⟩, ⟨rfl, rfl⟩, ⟨congrArg (fun n => some (AV.ref 0 2 0 n)) (by first | rfl | simp only [List.length_set] | simp | omega | (simp; omega)), rfl⟩, ⟨rfl, rfl⟩, trivial⟩ ⟨⟨rfl, rfl, rfl⟩, trivial⟩ (by decide))
   obtain ⟨k0, l0⟩ := w_
   obtain ⟨hI0, hb0, hv0⟩ := hh_
   show Walks Try.prog _ _ (⟨[(0, .pv (.slc steps.length steps_f (steps.flatMap encA3int))), (3, B (small22)), (4, .ref 0 2 0 l0.length), (5, I k0)], [(0, .row 31 2 (l0.flatMap encGMember))], 1, [], 229, 0⟩ : St)
   refine sem_seq ?_
   refine sem_seq ?_
   refine sem_region rfl ?_
   refine step_r rfl rfl trivial ?_
   refine step_r rfl rfl trivial ?_
   refine step_r rfl rfl trivial ?_
   refine step_bin rfl rfl rfl rfl rfl trivial ?_
   refine step_nil ?_
   refine seqK_n ?_
   refine sem_cond rfl (fun h6 => ?_) (fun h6 => ?_)
   ·have g6 : (k0 : Int) < steps.length := of_decide_eq_true h6
    have hk0 : k0 < steps.length := by omega
    obtain ⟨x0, hx0⟩ : ∃ z_, steps[k0]? = some z_ := ⟨_, List.getElem?_eq_getElem hk0⟩
    refine sem_skip ?_
    refine seqK_n ?_
    refine sem_seq ?_
    refine sem_block ?_
    refine sem_seq ?_
    refine sem_region rfl ?_
    refine step_r rfl rfl trivial ?_
    refine step_r rfl rfl trivial ?_
    refine step_idxS (k := k0) rfl rfl rfl rfl hk0 (flat_ne (s := 3) (enc := encA3int) (fun _ => rfl) (by decide) hk0) rfl ?_
    refine step_r rfl rfl ⟨by decide, by decide⟩ ?_
    refine step_load_one rfl rfl rfl (flat_get (s := 3) (enc := encA3int) (fun _ => rfl) hx0 (o := 1) rfl (by decide)) rfl ?_
    refine step_bin rfl rfl rfl rfl rfl trivial ?_
    refine step_bin rfl rfl rfl rfl rfl trivial ?_
    refine step_r rfl rfl trivial ?_
    refine step_nil ?_
    refine seqK_n ?_
    refine sem_seq ?_
    refine sem_region rfl ?_
    refine step_r rfl rfl trivial ?_
    refine step_r rfl rfl trivial ?_
    refine step_idxS (k := k0) rfl rfl rfl rfl hk0 (flat_ne (s := 3) (enc := encA3int) (fun _ => rfl) (by decide) hk0) rfl ?_
    refine step_r rfl rfl ⟨by decide, by decide⟩ ?_
    refine step_load_one rfl rfl rfl (flat_get (s := 3) (enc := encA3int) (fun _ => rfl) hx0 (o := 2) rfl (by decide)) rfl ?_
    refine step_bin rfl rfl rfl rfl rfl trivial ?_
    refine step_bin rfl rfl rfl rfl rfl trivial ?_
    refine step_r rfl rfl trivial ?_
    refine step_nil ?_
    refine seqK_n ?_
    refine sem_seq ?_
    refine sem_region rfl ?_
    refine step_n (nx' := 2) rfl rfl rfl trivial ?_
    refine step_nil ?_
    refine seqK_n ?_
    refine sem_seq ?_
    refine sem_region rfl ?_
    refine step_r rfl rfl trivial ?_
    refine step_nil ?_
    refine seqK_n ?_
    refine sem_seq ?_
    refine sem_cutW (fun w_ : (List GMember) × Int => match w_ with | (m_45, e_45) => (⟨[(0, .pv (.slc steps.length steps_f (steps.flatMap encA3int))), (3, B (small22)), (4, .ref 0 2 0 l0.length), (5, I k0), (8, .ref 1 2 0 m_45.length), (9, I e_45)], [(0, .row 31 2 (l0.flatMap encGMember)), (1, .row 31 2 (m_45.flatMap encGMember))], 2, [], 229, 0⟩ : St)) (fun w_ => stays22_J45 l0 x0 = .inr w_) ?_ ?_
    ·refine sem_seq ?_
     refine sem_region rfl ?_
     refine step_r rfl rfl trivial ?_
     refine step_r rfl rfl trivial ?_
     refine step_idxS (k := k0) rfl rfl rfl rfl hk0 (flat_ne (s := 3) (enc := encA3int) (fun _ => rfl) (by decide) hk0) rfl ?_
     refine step_r rfl rfl ⟨by decide, by decide⟩ ?_
     refine step_load_one rfl rfl rfl (flat_get (s := 3) (enc := encA3int) (fun _ => rfl) hx0 (o := 0) rfl (by decide)) rfl ?_
     refine step_bin rfl rfl rfl rfl rfl trivial ?_
     refine step_nil ?_
     refine seqK_n ?_
     refine sem_block ?_
     refine sem_seq ?_
     refine sem_region rfl ?_
     refine step_bin rfl rfl rfl rfl rfl trivial ?_
     refine step_r rfl rfl trivial ?_
     refine step_nil ?_
     refine seqK_n ?_
     refine sem_cond rfl (fun h11 => ?_) (fun h11 => ?_)
     ·have g11 : (andK IntKind.i64 x0.f0 3 : Int) = 0 := beq_t h11
      refine sem_seq ?_
      refine sem_region rfl ?_
      refine step_r rfl rfl trivial ?_
      refine step_r rfl rfl trivial ?_
      refine step_callJ (Hin := [.row _ _ _]) (out' := .tup [.ref 2 _ _ _, _, _]) (H' := [(2, .row _ _ _), (1, .row _ _ _), (0, .row _ _ _)]) (nx' := 3) [0] rfl rfl rfl rfl rfl rfl rfl rfl rfl (by (repeat' apply And.intro) <;> first | trivial | rfl | exact flat_len (s := 2) (enc := encGMember) (fun _ => rfl) _ | exact flat_len (fun _ => rfl) _ | exact encI_len _ | exact encB_len _ | exact encY_len _ | exact Nat.le_of_ble_eq_true rfl | assumption) (joinM_ok l0 false (IntKind.i64.wrap (1 + (andK IntKind.i64 x0.f1 63))) (by first | omega | (simp; omega))) rfl (by decide) rfl rfl ⟨encGMember_solid, trivial⟩ rfl rfl rfl rfl ?_
      have p12 := joinM_len l0 (IntKind.i64.wrap (1 + (andK IntKind.i64 x0.f1 63)))
      refine step_r rfl rfl trivial ?_
      refine step_r rfl rfl trivial ?_
      refine step_r rfl rfl trivial ?_
      refine step_r rfl rfl trivial ?_
      refine step_r rfl rfl trivial ?_
      refine step_r rfl rfl trivial ?_
      refine step_r rfl rfl trivial ?_
      refine step_nil ?_
      refine seqK_n ?_
      refine sem_seq ?_
      refine sem_region rfl ?_
      refine step_r rfl rfl trivial ?_
      refine step_r rfl rfl trivial ?_
      refine step_nil ?_
      refine seqK_n ?_
      refine sem_seq ?_
      refine sem_region rfl ?_
      refine step_r rfl rfl trivial ?_
      refine step_r rfl rfl trivial ?_
      refine step_nil ?_
      refine seqK_n ?_
      refine sem_seq ?_
      refine sem_region rfl ?_
      refine step_r rfl rfl trivial ?_
      refine step_bin rfl rfl rfl rfl rfl trivial ?_
      refine step_r rfl rfl trivial ?_
      refine step_gs rfl (fun h16 => ?_) (fun h16 => ?_)
      ·have g16 : ((joinM l0 (IntKind.i64.wrap (1 + (andK IntKind.i64 x0.f1 63)))).2.2 : Int) = 0 := beq_t h16
       refine step_g1 rfl h16 ?_
       refine step_r rfl rfl trivial ?_
       refine step_g1 rfl h16 ?_
       refine step_r rfl rfl trivial ?_
       refine step_g1 rfl h16 ?_
       refine step_r rfl rfl trivial ?_
       refine step_g1 rfl h16 ?_
       refine step_r rfl rfl trivial ?_
       refine step_g1 rfl h16 ?_
       refine step_bin rfl rfl rfl rfl rfl trivial ?_
       refine step_g1 rfl h16 ?_
       refine step_bin rfl rfl rfl rfl rfl trivial ?_
       refine step_g1 rfl h16 ?_
       refine step_r rfl rfl trivial ?_
       refine step_gs rfl (fun h18 => ?_) (fun h18 => ?_)
       ·have g18 : ¬ (((joinM l0 (IntKind.i64.wrap (1 + (andK IntKind.i64 x0.f1 63)))).1.length : Int) = (IntKind.i64.wrap (l0.length + 1))) := bne_t h18
        refine step_g0 rfl h18 rfl ?_
        refine step_g0 rfl h18 rfl ?_
        refine step_g0 rfl h18 rfl ?_
        refine step_g0 rfl h18 rfl ?_
        refine step_g0 rfl h18 rfl ?_
        refine step_g0 rfl h18 rfl ?_
        refine step_g0 rfl h18 rfl ?_
        refine step_g0 rfl h18 rfl ?_
        refine step_g0 rfl h18 rfl ?_
        refine step_g1 rfl h16 ?_
        refine step_pickT rfl h18 rfl rfl ?_
        refine step_g1 rfl h16 ?_
        refine step_r rfl rfl trivial ?_
        refine step_gf rfl rfl ?_
        refine step_gf rfl rfl ?_
        refine step_gf rfl rfl ?_
        refine step_gf rfl rfl ?_
        refine step_gf rfl rfl ?_
        refine step_gf rfl rfl ?_
        refine step_gf rfl rfl ?_
        refine step_gf rfl rfl ?_
        refine step_gf rfl rfl ?_
        refine step_g1 rfl h16 ?_
        refine step_r rfl rfl trivial ?_
        refine step_pickT rfl h16 rfl rfl ?_
        refine step_r rfl rfl trivial ?_
        refine step_gf rfl rfl ?_
        refine step_gf rfl rfl ?_
        refine step_gf rfl rfl ?_
        refine step_gf rfl rfl ?_
        refine step_gf rfl rfl ?_
        refine step_gf rfl rfl ?_
        refine step_gf rfl rfl ?_
        refine step_r rfl rfl trivial ?_
        refine step_nil ?_
        refine seqK_n ?_
        refine sem_condT rfl ?_
        refine sem_seq ?_
        refine sem_region rfl ?_
        refine step_r rfl rfl trivial ?_
        refine step_nil ?_
        refine seqK_n ?_
        refine sem_ret ?_
        refine blkK_r ?_
        refine cutW_r ?_
        refine seqK_r ?_
        refine blkK_r ?_
        refine seqK_r ?_
        refine lupK_r ?_
        refine blkK_r ?_
        refine cutW_r ?_
        refine seqK_r ?_
        have e19 : stays22_J45 l0 x0 = .inl false := by
         unfold stays22_J45
         try dsimp only
         rewrite [if_pos g11, if_pos g16, if_neg g18]
         all_goals rfl
        have e20 : stays22_L0 steps 0 ([]) = .inl false := by
         rewrite [← hI0, drop_cons hx0]
         rewrite [stays22_L0]
         try dsimp only
         rewrite [e19]
         try dsimp only
         all_goals rfl
        have e21 : stays22 steps = false := by
         unfold stays22
         try dsimp only
         rewrite [if_neg g2, e20]
         try dsimp only
         all_goals rfl
        rw [e21]
        exact answersR rfl ⟨trivial, trivial⟩ (rfl) rfl
       ·have g18 : ((joinM l0 (IntKind.i64.wrap (1 + (andK IntKind.i64 x0.f1 63)))).1.length : Int) = (IntKind.i64.wrap (l0.length + 1)) := bne_f h18
        refine step_g1 rfl h18 ?_
        refine step_r rfl rfl trivial ?_
        refine step_g1 rfl h18 ?_
        refine step_r rfl rfl trivial ?_
        refine step_g1 rfl h18 ?_
        refine step_r rfl rfl trivial ?_
        refine step_g1 rfl h18 ?_
        refine step_bin rfl rfl rfl rfl rfl trivial ?_
        refine step_g1 rfl h18 ?_
        have jk22 : (IntKind.i64.wrap (((joinM l0 (IntKind.i64.wrap (1 + (andK IntKind.i64 x0.f1 63)))).1.length) - 1)).toNat < ((joinM l0 (IntKind.i64.wrap (1 + (andK IntKind.i64 x0.f1 63)))).1).length := by first | assumption | omega | (simp only [List.length_set, List.length_append]; omega) | (simp only [IntKind.wrap_i64] at *; omega) | (simp; omega) | simp_all
        refine step_idxR' (k := (IntKind.i64.wrap (((joinM l0 (IntKind.i64.wrap (1 + (andK IntKind.i64 x0.f1 63)))).1.length) - 1)).toNat) rfl rfl (Int.toNat_of_nonneg (by first | omega | (simp only [IntKind.wrap_i64]; omega) | (simp only [IntKind.wrap_i64] at *; omega) | (simp; omega))).symm rfl rfl jk22 rfl ?_
        refine step_g1 rfl h18 ?_
        refine step_r rfl rfl (by decide) ?_
        refine step_g1 rfl h18 ?_
        refine step_load_oneR rfl rfl rfl rfl (flat_get (s := 2) (enc := encGMember) (fun _ => rfl) (get_getD jk22) (o := 0) rfl (by decide)) rfl ?_
        refine step_g1 rfl h18 ?_
        refine step_r rfl rfl trivial ?_
        refine step_g1 rfl h18 ?_
        refine step_bin rfl rfl rfl rfl rfl trivial ?_
        refine step_g1 rfl h16 ?_
        refine step_pickF rfl h18 rfl rfl ?_
        refine step_g1 rfl h16 ?_
        refine step_r rfl rfl trivial ?_
        refine step_gs rfl (fun h24 => ?_) (fun h24 => ?_)
        ·have g24 : ¬ (((((joinM l0 (IntKind.i64.wrap (1 + (andK IntKind.i64 x0.f1 63)))).1).getD ((IntKind.i64.wrap (((joinM l0 (IntKind.i64.wrap (1 + (andK IntKind.i64 x0.f1 63)))).1.length) - 1)).toNat) default).Unit : Int) = (IntKind.i64.wrap (1 + (andK IntKind.i64 x0.f1 63)))) := bne_t h24
         refine step_g0 rfl h24 rfl ?_
         refine step_g0 rfl h24 rfl ?_
         refine step_g0 rfl h24 rfl ?_
         refine step_g0 rfl h24 rfl ?_
         refine step_g0 rfl h24 rfl ?_
         refine step_g0 rfl h24 rfl ?_
         refine step_g0 rfl h24 rfl ?_
         refine step_g0 rfl h24 rfl ?_
         refine step_g0 rfl h24 rfl ?_
         refine step_g1 rfl h16 ?_
         refine step_pickT rfl h24 rfl rfl ?_
         refine step_pickT rfl h16 rfl rfl ?_
         refine step_r rfl rfl trivial ?_
         refine step_gf rfl rfl ?_
         refine step_gf rfl rfl ?_
         refine step_gf rfl rfl ?_
         refine step_gf rfl rfl ?_
         refine step_gf rfl rfl ?_
         refine step_gf rfl rfl ?_
         refine step_gf rfl rfl ?_
         refine step_r rfl rfl trivial ?_
         refine step_nil ?_
         refine seqK_n ?_
         refine sem_condT rfl ?_
         refine sem_seq ?_
         refine sem_region rfl ?_
         refine step_r rfl rfl trivial ?_
         refine step_nil ?_
         refine seqK_n ?_
         refine sem_ret ?_
         refine blkK_r ?_
         refine cutW_r ?_
         refine seqK_r ?_
         refine blkK_r ?_
         refine seqK_r ?_
         refine lupK_r ?_
         refine blkK_r ?_
         refine cutW_r ?_
         refine seqK_r ?_
         have e25 : stays22_J45 l0 x0 = .inl false := by
          unfold stays22_J45
          try dsimp only
          rewrite [if_pos g11, if_pos g16, if_pos g18, if_neg g24]
          all_goals rfl
         have e26 : stays22_L0 steps 0 ([]) = .inl false := by
          rewrite [← hI0, drop_cons hx0]
          rewrite [stays22_L0]
          try dsimp only
          rewrite [e25]
          try dsimp only
          all_goals rfl
         have e27 : stays22 steps = false := by
          unfold stays22
          try dsimp only
          rewrite [if_neg g2, e26]
          try dsimp only
          all_goals rfl
         rw [e27]
         exact answersR rfl ⟨trivial, trivial⟩ (rfl) rfl
        ·have g24 : ((((joinM l0 (IntKind.i64.wrap (1 + (andK IntKind.i64 x0.f1 63)))).1).getD ((IntKind.i64.wrap (((joinM l0 (IntKind.i64.wrap (1 + (andK IntKind.i64 x0.f1 63)))).1.length) - 1)).toNat) default).Unit : Int) = (IntKind.i64.wrap (1 + (andK IntKind.i64 x0.f1 63))) := bne_f h24
         refine step_g1 rfl h24 ?_
         refine step_r rfl rfl trivial ?_
         refine step_g1 rfl h24 ?_
         refine step_r rfl rfl trivial ?_
         refine step_g1 rfl h24 ?_
         refine step_r rfl rfl trivial ?_
         refine step_g1 rfl h24 ?_
         refine step_bin rfl rfl rfl rfl rfl trivial ?_
         refine step_g1 rfl h24 ?_
         refine step_idxR' (k := (IntKind.i64.wrap (((joinM l0 (IntKind.i64.wrap (1 + (andK IntKind.i64 x0.f1 63)))).1.length) - 1)).toNat) rfl rfl (Int.toNat_of_nonneg (by first | omega | (simp only [IntKind.wrap_i64]; omega) | (simp only [IntKind.wrap_i64] at *; omega) | (simp; omega))).symm rfl rfl jk22 rfl ?_
         refine step_g1 rfl h24 ?_
         refine step_r rfl rfl (by decide) ?_
         refine step_g1 rfl h24 ?_
         refine step_load_oneR rfl rfl rfl rfl (flat_get (s := 2) (enc := encGMember) (fun _ => rfl) (get_getD jk22) (o := 1) rfl (by decide)) rfl ?_
         refine step_g1 rfl h24 ?_
         refine step_r rfl rfl trivial ?_
         refine step_g1 rfl h24 ?_
         refine step_bin rfl rfl rfl rfl rfl trivial ?_
         refine step_g1 rfl h16 ?_
         refine step_pickF rfl h24 rfl rfl ?_
         refine step_pickT rfl h16 rfl rfl ?_
         refine step_r rfl rfl trivial ?_
         refine step_gs rfl (fun h29 => ?_) (fun h29 => ?_)
         ·have g29 : ¬ (((((joinM l0 (IntKind.i64.wrap (1 + (andK IntKind.i64 x0.f1 63)))).1).getD ((IntKind.i64.wrap (((joinM l0 (IntKind.i64.wrap (1 + (andK IntKind.i64 x0.f1 63)))).1.length) - 1)).toNat) default).Group : Int) = ((joinM l0 (IntKind.i64.wrap (1 + (andK IntKind.i64 x0.f1 63)))).2.1)) := bne_t h29
          refine step_g0 rfl h29 rfl ?_
          refine step_g0 rfl h29 rfl ?_
          refine step_g0 rfl h29 rfl ?_
          refine step_gf rfl rfl ?_
          refine step_gf rfl rfl ?_
          refine step_gf rfl rfl ?_
          refine step_g0 rfl h29 rfl ?_
          refine step_pickT rfl h29 rfl rfl ?_
          refine step_nil ?_
          refine seqK_n ?_
          refine sem_condT rfl ?_
          refine sem_seq ?_
          refine sem_region rfl ?_
          refine step_r rfl rfl trivial ?_
          refine step_nil ?_
          refine seqK_n ?_
          refine sem_ret ?_
          refine blkK_r ?_
          refine cutW_r ?_
          refine seqK_r ?_
          refine blkK_r ?_
          refine seqK_r ?_
          refine lupK_r ?_
          refine blkK_r ?_
          refine cutW_r ?_
          refine seqK_r ?_
          have e30 : stays22_J45 l0 x0 = .inl false := by
           unfold stays22_J45
           try dsimp only
           rewrite [if_pos g11, if_pos g16, if_pos g18, if_pos g24, if_neg g29]
           all_goals rfl
          have e31 : stays22_L0 steps 0 ([]) = .inl false := by
           rewrite [← hI0, drop_cons hx0]
           rewrite [stays22_L0]
           try dsimp only
           rewrite [e30]
           try dsimp only
           all_goals rfl
          have e32 : stays22 steps = false := by
           unfold stays22
           try dsimp only
           rewrite [if_neg g2, e31]
           try dsimp only
           all_goals rfl
          rw [e32]
          exact answersR rfl ⟨trivial, trivial⟩ (rfl) rfl
         ·have g29 : ((((joinM l0 (IntKind.i64.wrap (1 + (andK IntKind.i64 x0.f1 63)))).1).getD ((IntKind.i64.wrap (((joinM l0 (IntKind.i64.wrap (1 + (andK IntKind.i64 x0.f1 63)))).1.length) - 1)).toNat) default).Group : Int) = ((joinM l0 (IntKind.i64.wrap (1 + (andK IntKind.i64 x0.f1 63)))).2.1) := bne_f h29
          refine step_g1 rfl h29 ?_
          refine step_r rfl rfl trivial ?_
          refine step_g1 rfl h29 ?_
          refine step_bin rfl rfl rfl rfl rfl trivial ?_
          refine step_g1 rfl h29 ?_
          refine step_r rfl rfl trivial ?_
          refine step_gs rfl (fun h34 => ?_) (fun h34 => ?_)
          ·have g34 : ((joinM l0 (IntKind.i64.wrap (1 + (andK IntKind.i64 x0.f1 63)))).2.2 : Int) = 4 := beq_t h34
           refine step_g1 rfl h34 ?_
           refine step_r rfl rfl trivial ?_
           refine step_g1 rfl h34 ?_
           refine step_r rfl rfl trivial ?_
           refine step_g1 rfl h34 ?_
           refine step_bin rfl rfl rfl rfl rfl trivial ?_
           refine step_g1 rfl h29 ?_
           refine step_pickT rfl h34 rfl rfl ?_
           refine step_pickF rfl h29 rfl rfl ?_
           refine step_nil ?_
           refine seqK_n ?_
           refine sem_cond rfl (fun h36 => ?_) (fun h36 => ?_)
           ·have g36 : ¬ ((l0.length : Int) = 40) := bne_t h36
            refine sem_seq ?_
            refine sem_region rfl ?_
            refine step_r rfl rfl trivial ?_
            refine step_nil ?_
            refine seqK_n ?_
            refine sem_ret ?_
            refine blkK_r ?_
            refine cutW_r ?_
            refine seqK_r ?_
            refine blkK_r ?_
            refine seqK_r ?_
            refine lupK_r ?_
            refine blkK_r ?_
            refine cutW_r ?_
            refine seqK_r ?_
            have e37 : stays22_J45 l0 x0 = .inl false := by
             unfold stays22_J45
             try dsimp only
             rewrite [if_pos g11, if_pos g16, if_pos g18, if_pos g24, if_pos g29, if_pos g34, if_neg g36]
             all_goals rfl
            have e38 : stays22_L0 steps 0 ([]) = .inl false := by
             rewrite [← hI0, drop_cons hx0]
             rewrite [stays22_L0]
             try dsimp only
             rewrite [e37]
             try dsimp only
             all_goals rfl
            have e39 : stays22 steps = false := by
             unfold stays22
             try dsimp only
             rewrite [if_neg g2, e38]
             try dsimp only
             all_goals rfl
            rw [e39]
            exact answersR rfl ⟨trivial, trivial⟩ (rfl) rfl
           ·have g36 : (l0.length : Int) = 40 := bne_f h36
            refine sem_skip ?_
            refine blkK_n ?_
            have e40 : stays22_J45 l0 x0 = .inr ((joinM l0 (IntKind.i64.wrap (1 + (andK IntKind.i64 x0.f1 63)))).1, (joinM l0 (IntKind.i64.wrap (1 + (andK IntKind.i64 x0.f1 63)))).2.2) := by
             unfold stays22_J45
             try dsimp only
             rewrite [if_pos g11, if_pos g16, if_pos g18, if_pos g24, if_pos g29, if_pos g34, if_pos g36]
             all_goals rfl
            exact cutW_n ((joinM l0 (IntKind.i64.wrap (1 + (andK IntKind.i64 x0.f1 63)))).1, (joinM l0 (IntKind.i64.wrap (1 + (andK IntKind.i64 x0.f1 63)))).2.2) e40 (Trans.ren [(1, 2), (2, 1)] (by decide +kernel) (by decide +kernel) rfl ⟨⟨rfl, rfl⟩, ⟨rfl, rfl⟩, ⟨rfl, rfl⟩, ⟨rfl, rfl⟩, ⟨rfl, rfl⟩, ⟨rfl, rfl⟩, trivial⟩ ⟨⟨rfl, rfl, rfl⟩, ⟨rfl, rfl, rfl⟩, trivial⟩ (by decide))
          ·have g34 : ¬ (((joinM l0 (IntKind.i64.wrap (1 + (andK IntKind.i64 x0.f1 63)))).2.2 : Int) = 4) := beq_f h34
           refine step_g0 rfl h34 rfl ?_
           refine step_g0 rfl h34 rfl ?_
           refine step_g0 rfl h34 rfl ?_
           refine step_g1 rfl h29 ?_
           refine step_pickF rfl h34 rfl rfl ?_
           refine step_pickF rfl h29 rfl rfl ?_
           refine step_nil ?_
           refine seqK_n ?_
           refine sem_condF rfl ?_
           refine sem_skip ?_
           refine blkK_n ?_
           have e41 : stays22_J45 l0 x0 = .inr ((joinM l0 (IntKind.i64.wrap (1 + (andK IntKind.i64 x0.f1 63)))).1, (joinM l0 (IntKind.i64.wrap (1 + (andK IntKind.i64 x0.f1 63)))).2.2) := by
            unfold stays22_J45
            try dsimp only
            rewrite [if_pos g11, if_pos g16, if_pos g18, if_pos g24, if_pos g29, if_neg g34]
            all_goals rfl
           exact cutW_n ((joinM l0 (IntKind.i64.wrap (1 + (andK IntKind.i64 x0.f1 63)))).1, (joinM l0 (IntKind.i64.wrap (1 + (andK IntKind.i64 x0.f1 63)))).2.2) e41 (Trans.ren [(1, 2), (2, 1)] (by decide +kernel) (by decide +kernel) rfl ⟨⟨rfl, rfl⟩, ⟨rfl, rfl⟩, ⟨rfl, rfl⟩, ⟨rfl, rfl⟩, ⟨rfl, rfl⟩, ⟨rfl, rfl⟩, trivial⟩ ⟨⟨rfl, rfl, rfl⟩, ⟨rfl, rfl, rfl⟩, trivial⟩ (by decide))
      ·have g16 : ¬ (((joinM l0 (IntKind.i64.wrap (1 + (andK IntKind.i64 x0.f1 63)))).2.2 : Int) = 0) := beq_f h16
       refine step_g0 rfl h16 rfl ?_
       refine step_g0 rfl h16 rfl ?_
       refine step_g0 rfl h16 rfl ?_
       refine step_g0 rfl h16 rfl ?_
       refine step_g0 rfl h16 rfl ?_
       refine step_g0 rfl h16 rfl ?_
       refine step_g0 rfl h16 rfl ?_
       refine step_gf rfl rfl ?_
       refine step_gf rfl rfl ?_
       refine step_gf rfl rfl ?_
       refine step_gf rfl rfl ?_
       refine step_gf rfl rfl ?_
       refine step_gf rfl rfl ?_
       refine step_gf rfl rfl ?_
       refine step_gf rfl rfl ?_
       refine step_gf rfl rfl ?_
       refine step_g0 rfl h16 rfl ?_
       refine step_g0 rfl h16 rfl ?_
       refine step_gf rfl rfl ?_
       refine step_gf rfl rfl ?_
       refine step_gf rfl rfl ?_
       refine step_gf rfl rfl ?_
       refine step_gf rfl rfl ?_
       refine step_gf rfl rfl ?_
       refine step_gf rfl rfl ?_
       refine step_gf rfl rfl ?_
       refine step_gf rfl rfl ?_
       refine step_g0 rfl h16 rfl ?_
       refine step_pickF rfl h16 rfl rfl ?_
       refine step_r rfl rfl trivial ?_
       refine step_gt rfl ?_
       refine step_r rfl rfl trivial ?_
       refine step_gt rfl ?_
       refine step_bin rfl rfl rfl rfl rfl trivial ?_
       refine step_gt rfl ?_
       refine step_r rfl rfl trivial ?_
       refine step_gs rfl (fun h43 => ?_) (fun h43 => ?_)
       ·have g43 : ((joinM l0 (IntKind.i64.wrap (1 + (andK IntKind.i64 x0.f1 63)))).2.2 : Int) = 4 := beq_t h43
        refine step_g1 rfl h43 ?_
        refine step_r rfl rfl trivial ?_
        refine step_g1 rfl h43 ?_
        refine step_r rfl rfl trivial ?_
        refine step_g1 rfl h43 ?_
        refine step_bin rfl rfl rfl rfl rfl trivial ?_
        refine step_gt rfl ?_
        refine step_pickT rfl h43 rfl rfl ?_
        refine step_r rfl rfl trivial ?_
        refine step_nil ?_
        refine seqK_n ?_
        refine sem_cond rfl (fun h45 => ?_) (fun h45 => ?_)
        ·have g45 : ¬ ((l0.length : Int) = 40) := bne_t h45
         refine sem_seq ?_
         refine sem_region rfl ?_
         refine step_r rfl rfl trivial ?_
         refine step_nil ?_
         refine seqK_n ?_
         refine sem_ret ?_
         refine blkK_r ?_
         refine cutW_r ?_
         refine seqK_r ?_
         refine blkK_r ?_
         refine seqK_r ?_
         refine lupK_r ?_
         refine blkK_r ?_
         refine cutW_r ?_
         refine seqK_r ?_
         have e46 : stays22_J45 l0 x0 = .inl false := by
          unfold stays22_J45
          try dsimp only
          rewrite [if_pos g11, if_neg g16, if_pos g43, if_neg g45]
          all_goals rfl
         have e47 : stays22_L0 steps 0 ([]) = .inl false := by
          rewrite [← hI0, drop_cons hx0]
          rewrite [stays22_L0]
          try dsimp only
          rewrite [e46]
          try dsimp only
          all_goals rfl
         have e48 : stays22 steps = false := by
          unfold stays22
          try dsimp only
          rewrite [if_neg g2, e47]
          try dsimp only
          all_goals rfl
         rw [e48]
         exact answersR rfl ⟨trivial, trivial⟩ (rfl) rfl
        ·have g45 : (l0.length : Int) = 40 := bne_f h45
         refine sem_skip ?_
         refine blkK_n ?_
         have e49 : stays22_J45 l0 x0 = .inr ((joinM l0 (IntKind.i64.wrap (1 + (andK IntKind.i64 x0.f1 63)))).1, (joinM l0 (IntKind.i64.wrap (1 + (andK IntKind.i64 x0.f1 63)))).2.2) := by
          unfold stays22_J45
          try dsimp only
          rewrite [if_pos g11, if_neg g16, if_pos g43, if_pos g45]
          all_goals rfl
         exact cutW_n ((joinM l0 (IntKind.i64.wrap (1 + (andK IntKind.i64 x0.f1 63)))).1, (joinM l0 (IntKind.i64.wrap (1 + (andK IntKind.i64 x0.f1 63)))).2.2) e49 (Trans.ren [(1, 2), (2, 1)] (by decide +kernel) (by decide +kernel) rfl ⟨⟨rfl, rfl⟩, ⟨rfl, rfl⟩, ⟨rfl, rfl⟩, ⟨rfl, rfl⟩, ⟨rfl, rfl⟩, ⟨rfl, rfl⟩, trivial⟩ ⟨⟨rfl, rfl, rfl⟩, ⟨rfl, rfl, rfl⟩, trivial⟩ (by decide))
       ·have g43 : ¬ (((joinM l0 (IntKind.i64.wrap (1 + (andK IntKind.i64 x0.f1 63)))).2.2 : Int) = 4) := beq_f h43
        refine step_g0 rfl h43 rfl ?_
        refine step_g0 rfl h43 rfl ?_
        refine step_g0 rfl h43 rfl ?_
        refine step_gt rfl ?_
        refine step_pickF rfl h43 rfl rfl ?_
        refine step_r rfl rfl trivial ?_
        refine step_nil ?_
        refine seqK_n ?_
        refine sem_condF rfl ?_
        refine sem_skip ?_
        refine blkK_n ?_
        have e50 : stays22_J45 l0 x0 = .inr ((joinM l0 (IntKind.i64.wrap (1 + (andK IntKind.i64 x0.f1 63)))).1, (joinM l0 (IntKind.i64.wrap (1 + (andK IntKind.i64 x0.f1 63)))).2.2) := by
         unfold stays22_J45
         try dsimp only
         rewrite [if_pos g11, if_neg g16, if_neg g43]
         all_goals rfl
        exact cutW_n ((joinM l0 (IntKind.i64.wrap (1 + (andK IntKind.i64 x0.f1 63)))).1, (joinM l0 (IntKind.i64.wrap (1 + (andK IntKind.i64 x0.f1 63)))).2.2) e50 (Trans.ren [(1, 2), (2, 1)] (by decide +kernel) (by decide +kernel) rfl ⟨⟨rfl, rfl⟩, ⟨rfl, rfl⟩, ⟨rfl, rfl⟩, ⟨rfl, rfl⟩, ⟨rfl, rfl⟩, ⟨rfl, rfl⟩, trivial⟩ ⟨⟨rfl, rfl, rfl⟩, ⟨rfl, rfl, rfl⟩, trivial⟩ (by decide))
     ·have g11 : ¬ ((andK IntKind.i64 x0.f0 3 : Int) = 0) := beq_f h11
      refine sem_seq ?_
      refine sem_region rfl ?_
      refine step_bin rfl rfl rfl rfl rfl trivial ?_
      refine step_r rfl rfl trivial ?_
      refine step_nil ?_
      refine seqK_n ?_
      refine sem_cond rfl (fun h52 => ?_) (fun h52 => ?_)
      ·have g52 : (andK IntKind.i64 x0.f0 3 : Int) = 1 := beq_t h52
       refine sem_seq ?_
       refine sem_region rfl ?_
       refine step_r rfl rfl trivial ?_
       refine step_r rfl rfl trivial ?_
       refine step_callJ (Hin := [.row _ _ _]) (out' := .tup [.ref 2 _ _ _, _]) (H' := [(2, .row _ _ _), (1, .row _ _ _), (0, .row _ _ _)]) (nx' := 3) [0] rfl rfl rfl rfl rfl rfl rfl rfl rfl (by (repeat' apply And.intro) <;> first | trivial | rfl | exact flat_len (s := 2) (enc := encGMember) (fun _ => rfl) _ | exact flat_len (fun _ => rfl) _ | exact encI_len _ | exact encB_len _ | exact encY_len _ | exact Nat.le_of_ble_eq_true rfl | assumption) (leaveM_ok l0 false (IntKind.i64.wrap (1 + (andK IntKind.i64 x0.f1 63))) (by first | omega | (simp; omega))) rfl (by decide) rfl rfl ⟨encGMember_solid, trivial⟩ rfl rfl rfl rfl ?_
       have p53 := leaveM_len l0 (IntKind.i64.wrap (1 + (andK IntKind.i64 x0.f1 63))) (by first | omega | (simp; omega))
       refine step_r rfl rfl trivial ?_
       refine step_r rfl rfl trivial ?_
       refine step_r rfl rfl trivial ?_
       refine step_r rfl rfl trivial ?_
       refine step_r rfl rfl trivial ?_
       refine step_nil ?_
       refine seqK_n ?_
       refine sem_seq ?_
       refine sem_region rfl ?_
       refine step_r rfl rfl trivial ?_
       refine step_r rfl rfl trivial ?_
       refine step_nil ?_
       refine seqK_n ?_
       refine sem_seq ?_
       refine sem_cutW (fun e_112 : Int => (⟨[(0, .pv (.slc steps.length steps_f (steps.flatMap encA3int))), (3, B (small22)), (4, .ref 0 2 0 l0.length), (5, I k0), (6, I (IntKind.i64.wrap (1 + (andK IntKind.i64 x0.f1 63)))), (8, .ref 1 2 0 (leaveM l0 (IntKind.i64.wrap (1 + (andK IntKind.i64 x0.f1 63)))).1.length), (9, I e_112), (13, .ref 1 2 0 (leaveM l0 (IntKind.i64.wrap (1 + (andK IntKind.i64 x0.f1 63)))).1.length), (14, B (leaveM l0 (IntKind.i64.wrap (1 + (andK IntKind.i64 x0.f1 63)))).2)], [(0, .row 31 2 (l0.flatMap encGMember)), (1, .row 31 2 ((leaveM l0 (IntKind.i64.wrap (1 + (andK IntKind.i64 x0.f1 63)))).1.flatMap encGMember))], 2, [], 229, 0⟩ : St)) (fun w_ => stays22_J112 l0 x0 = w_) ?_ ?_
       ·refine sem_seq ?_
        refine sem_region rfl ?_
        refine step_r rfl rfl trivial ?_
        refine step_nil ?_
        refine seqK_n ?_
        refine sem_cond rfl (fun h56 => ?_) (fun h56 => ?_)
        ·have g56 : (leaveM l0 (IntKind.i64.wrap (1 + (andK IntKind.i64 x0.f1 63)))).2 = true := h56
         refine sem_region rfl ?_
         refine step_r rfl rfl trivial ?_
         refine step_nil ?_
         have e57 : stays22_J112 l0 x0 = 0 := by
          unfold stays22_J112
          try dsimp only
          rewrite [if_pos g56]
          all_goals rfl
         exact cutW_n 0 e57 (Trans.ren [(1, 2), (2, 1)] (by decide +kernel) (by decide +kernel) rfl ⟨⟨rfl, rfl⟩, ⟨rfl, rfl⟩, ⟨rfl, rfl⟩, ⟨rfl, rfl⟩, ⟨rfl, rfl⟩, ⟨rfl, rfl⟩, ⟨rfl, rfl⟩, ⟨rfl, rfl⟩, ⟨rfl, rfl⟩, trivial⟩ ⟨⟨rfl, rfl, rfl⟩, ⟨rfl, rfl, rfl⟩, trivial⟩ (by decide))
        ·have g56 : ¬ ((leaveM l0 (IntKind.i64.wrap (1 + (andK IntKind.i64 x0.f1 63)))).2 = true) := boo_f h56
         refine sem_skip ?_
         have e58 : stays22_J112 l0 x0 = 5 := by
          unfold stays22_J112
          try dsimp only
          rewrite [if_neg g56]
          all_goals rfl
         exact cutW_n 5 e58 (Trans.ren [(1, 2), (2, 1)] (by decide +kernel) (by decide +kernel) rfl ⟨⟨rfl, rfl⟩, ⟨rfl, rfl⟩, ⟨rfl, rfl⟩, ⟨rfl, rfl⟩, ⟨rfl, rfl⟩, ⟨rfl, rfl⟩, ⟨rfl, rfl⟩, ⟨rfl, rfl⟩, ⟨rfl, rfl⟩, trivial⟩ ⟨⟨rfl, rfl, rfl⟩, ⟨rfl, rfl, rfl⟩, trivial⟩ (by decide))
       ·rintro e_112 (hJ55 : stays22_J112 l0 x0 = e_112)
        show seqK _ _ _ .normal (⟨[(0, .pv (.slc steps.length steps_f (steps.flatMap encA3int))), (3, B (small22)), (4, .ref 0 2 0 l0.length), (5, I k0), (6, I (IntKind.i64.wrap (1 + (andK IntKind.i64 x0.f1 63)))), (8, .ref 1 2 0 (leaveM l0 (IntKind.i64.wrap (1 + (andK IntKind.i64 x0.f1 63)))).1.length), (9, I e_112), (13, .ref 1 2 0 (leaveM l0 (IntKind.i64.wrap (1 + (andK IntKind.i64 x0.f1 63)))).1.length), (14, B (leaveM l0 (IntKind.i64.wrap (1 + (andK IntKind.i64 x0.f1 63)))).2)], [(0, .row 31 2 (l0.flatMap encGMember)), (1, .row 31 2 ((leaveM l0 (IntKind.i64.wrap (1 + (andK IntKind.i64 x0.f1 63)))).1.flatMap encGMember))], 2, [], 229, 0⟩ : St)
        refine seqK_n ?_
        refine sem_seq ?_
        refine sem_region rfl ?_
        refine step_r rfl rfl trivial ?_
        refine step_r rfl rfl trivial ?_
        refine step_callJ (Hin := [.row _ _ _]) (H' := [(0, .row _ _ _), (1, .row _ _ _)]) (nx' := 2) [1] rfl rfl rfl rfl rfl rfl rfl rfl rfl (by (repeat' apply And.intro) <;> first | trivial | rfl | exact flat_len (s := 2) (enc := encGMember) (fun _ => rfl) _ | exact flat_len (fun _ => rfl) _ | exact encI_len _ | exact encB_len _ | exact encY_len _ | exact Nat.le_of_ble_eq_true rfl | assumption) (groupM_ok ((leaveM l0 (IntKind.i64.wrap (1 + (andK IntKind.i64 x0.f1 63)))).1) false (IntKind.i64.wrap (1 + (andK IntKind.i64 x0.f1 63)))) rfl (by decide) rfl rfl trivial rfl rfl rfl rfl ?_
        refine step_bin rfl rfl rfl rfl rfl trivial ?_
        refine step_r rfl rfl trivial ?_
        refine step_gs rfl (fun h61 => ?_) (fun h61 => ?_)
        ·have g61 : ¬ ((groupM ((leaveM l0 (IntKind.i64.wrap (1 + (andK IntKind.i64 x0.f1 63)))).1) (IntKind.i64.wrap (1 + (andK IntKind.i64 x0.f1 63))) : Int) = 0) := bne_t h61
         refine step_g0 rfl h61 rfl ?_
         refine step_g0 rfl h61 rfl ?_
         refine step_gf rfl rfl ?_
         refine step_gf rfl rfl ?_
         refine step_gf rfl rfl ?_
         refine step_gf rfl rfl ?_
         refine step_gf rfl rfl ?_
         refine step_gf rfl rfl ?_
         refine step_g0 rfl h61 rfl ?_
         refine step_pickT rfl h61 rfl rfl ?_
         refine step_nil ?_
         refine seqK_n ?_
         refine sem_condT rfl ?_
         refine sem_seq ?_
         refine sem_region rfl ?_
         refine step_r rfl rfl trivial ?_
         refine step_nil ?_
         refine seqK_n ?_
         refine sem_ret ?_
         refine blkK_r ?_
         refine cutW_r ?_
         refine seqK_r ?_
         refine blkK_r ?_
         refine seqK_r ?_
         refine lupK_r ?_
         refine blkK_r ?_
         refine cutW_r ?_
         refine seqK_r ?_
         have e62 : stays22_J45 l0 x0 = .inl false := by
          unfold stays22_J45
          try dsimp only
          rewrite [if_neg g11, if_pos g52, hJ55]
          try dsimp only
          rewrite [if_neg g61]
          all_goals rfl
         have e63 : stays22_L0 steps 0 ([]) = .inl false := by
          rewrite [← hI0, drop_cons hx0]
          rewrite [stays22_L0]
          try dsimp only
          rewrite [e62]
          try dsimp only
          all_goals rfl
         have e64 : stays22 steps = false := by
          unfold stays22
          try dsimp only
          rewrite [if_neg g2, e63]
          try dsimp only
          all_goals rfl
         rw [e64]
         exact answersR rfl ⟨trivial, trivial⟩ (rfl) rfl
        ·have g61 : (groupM ((leaveM l0 (IntKind.i64.wrap (1 + (andK IntKind.i64 x0.f1 63)))).1) (IntKind.i64.wrap (1 + (andK IntKind.i64 x0.f1 63))) : Int) = 0 := bne_f h61
         refine step_g1 rfl h61 ?_
         refine step_r rfl rfl trivial ?_
         refine step_g1 rfl h61 ?_
         refine step_r rfl rfl trivial ?_
         refine step_gs rfl (fun h66 => ?_) (fun h66 => ?_)
         ·have g66 : (leaveM l0 (IntKind.i64.wrap (1 + (andK IntKind.i64 x0.f1 63)))).2 = true := h66
          refine step_g1 rfl h66 ?_
          refine step_r rfl rfl trivial ?_
          refine step_g1 rfl h66 ?_
          refine step_r rfl rfl trivial ?_
          refine step_g1 rfl h66 ?_
          refine step_r rfl rfl trivial ?_
          refine step_g1 rfl h66 ?_
          refine step_r rfl rfl trivial ?_
          refine step_g1 rfl h66 ?_
          refine step_bin rfl rfl rfl rfl rfl trivial ?_
          refine step_g1 rfl h66 ?_
          refine step_bin rfl rfl rfl rfl rfl trivial ?_
          refine step_g1 rfl h61 ?_
          refine step_pickT rfl h66 rfl rfl ?_
          refine step_pickF rfl h61 rfl rfl ?_
          refine step_nil ?_
          refine seqK_n ?_
          refine sem_cond rfl (fun h68 => ?_) (fun h68 => ?_)
          ·have g68 : ¬ (((leaveM l0 (IntKind.i64.wrap (1 + (andK IntKind.i64 x0.f1 63)))).1.length : Int) = (IntKind.i64.wrap (l0.length - 1))) := bne_t h68
           refine sem_seq ?_
           refine sem_region rfl ?_
           refine step_r rfl rfl trivial ?_
           refine step_nil ?_
           refine seqK_n ?_
           refine sem_ret ?_
           refine blkK_r ?_
           refine cutW_r ?_
           refine seqK_r ?_
           refine blkK_r ?_
           refine seqK_r ?_
           refine lupK_r ?_
           refine blkK_r ?_
           refine cutW_r ?_
           refine seqK_r ?_
           have e69 : stays22_J45 l0 x0 = .inl false := by
            unfold stays22_J45
            try dsimp only
            rewrite [if_neg g11, if_pos g52, hJ55]
            try dsimp only
            rewrite [if_pos g61, if_pos g66, if_neg g68]
            all_goals rfl
           have e70 : stays22_L0 steps 0 ([]) = .inl false := by
            rewrite [← hI0, drop_cons hx0]
            rewrite [stays22_L0]
            try dsimp only
            rewrite [e69]
            try dsimp only
            all_goals rfl
           have e71 : stays22 steps = false := by
            unfold stays22
            try dsimp only
            rewrite [if_neg g2, e70]
            try dsimp only
            all_goals rfl
           rw [e71]
           exact answersR rfl ⟨trivial, trivial⟩ (rfl) rfl
          ·have g68 : ((leaveM l0 (IntKind.i64.wrap (1 + (andK IntKind.i64 x0.f1 63)))).1.length : Int) = (IntKind.i64.wrap (l0.length - 1)) := bne_f h68
           refine sem_skip ?_
           refine blkK_n ?_
           have e72 : stays22_J45 l0 x0 = .inr ((leaveM l0 (IntKind.i64.wrap (1 + (andK IntKind.i64 x0.f1 63)))).1, e_112) := by
            unfold stays22_J45
            try dsimp only
            rewrite [if_neg g11, if_pos g52, hJ55]
            try dsimp only
            rewrite [if_pos g61, if_pos g66, if_pos g68]
            all_goals rfl
           exact cutW_n ((leaveM l0 (IntKind.i64.wrap (1 + (andK IntKind.i64 x0.f1 63)))).1, e_112) e72 (Trans.ren [] (by decide +kernel) (by decide +kernel) rfl ⟨⟨rfl, rfl⟩, ⟨rfl, rfl⟩, ⟨rfl, rfl⟩, ⟨rfl, rfl⟩, ⟨rfl, rfl⟩, ⟨rfl, rfl⟩, trivial⟩ ⟨⟨rfl, rfl, rfl⟩, ⟨rfl, rfl, rfl⟩, trivial⟩ (by decide))
         ·have g66 : ¬ ((leaveM l0 (IntKind.i64.wrap (1 + (andK IntKind.i64 x0.f1 63)))).2 = true) := boo_f h66
          refine step_g0 rfl h66 rfl ?_
          refine step_g0 rfl h66 rfl ?_
          refine step_g0 rfl h66 rfl ?_
          refine step_g0 rfl h66 rfl ?_
          refine step_g0 rfl h66 rfl ?_
          refine step_g0 rfl h66 rfl ?_
          refine step_g1 rfl h61 ?_
          refine step_pickF rfl h66 rfl rfl ?_
          refine step_pickF rfl h61 rfl rfl ?_
          refine step_nil ?_
          refine seqK_n ?_
          refine sem_condF rfl ?_
          refine sem_skip ?_
          refine blkK_n ?_
          have e73 : stays22_J45 l0 x0 = .inr ((leaveM l0 (IntKind.i64.wrap (1 + (andK IntKind.i64 x0.f1 63)))).1, e_112) := by
           unfold stays22_J45
           try dsimp only
           rewrite [if_neg g11, if_pos g52, hJ55]
           try dsimp only
           rewrite [if_pos g61, if_neg g66]
           all_goals rfl
          exact cutW_n ((leaveM l0 (IntKind.i64.wrap (1 + (andK IntKind.i64 x0.f1 63)))).1, e_112) e73 (Trans.ren [] (by decide +kernel) (by decide +kernel) rfl ⟨⟨rfl, rfl⟩, ⟨rfl, rfl⟩, ⟨rfl, rfl⟩, ⟨rfl, rfl⟩, ⟨rfl, rfl⟩, ⟨rfl, rfl⟩, trivial⟩ ⟨⟨rfl, rfl, rfl⟩, ⟨rfl, rfl, rfl⟩, trivial⟩ (by decide))
      ·have g52 : ¬ ((andK IntKind.i64 x0.f0 3 : Int) = 1) := beq_f h52
       refine sem_seq ?_
       refine sem_region rfl ?_
       refine step_bin rfl rfl rfl rfl rfl trivial ?_
       refine step_r rfl rfl trivial ?_
       refine step_nil ?_
       refine seqK_n ?_
       refine sem_cond rfl (fun h75 => ?_) (fun h75 => ?_)
       ·have g75 : (andK IntKind.i64 x0.f0 3 : Int) = 2 := beq_t h75
        refine sem_seq ?_
        refine sem_region rfl ?_
        refine step_r rfl rfl trivial ?_
        refine step_r rfl rfl trivial ?_
        refine step_r rfl rfl trivial ?_
        refine step_r rfl rfl trivial ?_
        refine step_idxS (k := k0) rfl rfl rfl rfl hk0 (flat_ne (s := 3) (enc := encA3int) (fun _ => rfl) (by decide) hk0) rfl ?_
        refine step_r rfl rfl ⟨by decide, by decide⟩ ?_
        refine step_load_one rfl rfl rfl (flat_get (s := 3) (enc := encA3int) (fun _ => rfl) hx0 (o := 2) rfl (by decide)) rfl ?_
        refine step_bin rfl rfl rfl rfl rfl trivial ?_
        refine step_bin rfl rfl rfl rfl rfl trivial ?_
        refine step_callJ (Hin := [.row _ _ _]) (out' := .tup [.ref 2 _ _ _, _]) (H' := [(2, .row _ _ _), (1, .row _ _ _), (0, .row _ _ _)]) (nx' := 3) [0] rfl rfl rfl rfl rfl rfl rfl rfl rfl (by (repeat' apply And.intro) <;> first | trivial | rfl | exact flat_len (s := 2) (enc := encGMember) (fun _ => rfl) _ | exact flat_len (fun _ => rfl) _ | exact encI_len _ | exact encB_len _ | exact encY_len _ | exact Nat.le_of_ble_eq_true rfl | assumption) (moveM_ok l0 false (IntKind.i64.wrap (1 + (andK IntKind.i64 x0.f1 63))) (IntKind.i64.wrap ((andK IntKind.i64 x0.f2 7) + 1)) (by first | omega | (simp; omega))) rfl (by decide) rfl rfl ⟨encGMember_solid, trivial⟩ rfl rfl rfl rfl ?_
        have p76 := moveM_len l0 (IntKind.i64.wrap (1 + (andK IntKind.i64 x0.f1 63))) (IntKind.i64.wrap ((andK IntKind.i64 x0.f2 7) + 1))
        refine step_r rfl rfl trivial ?_
        refine step_r rfl rfl trivial ?_
        refine step_r rfl rfl trivial ?_
        refine step_r rfl rfl trivial ?_
        refine step_r rfl rfl trivial ?_
        refine step_nil ?_
        refine seqK_n ?_
        refine sem_seq ?_
        refine sem_drawn rfl (by decide +kernel) rfl ?_
        refine step_r rfl rfl trivial ?_
        refine step_bin rfl rfl rfl rfl rfl trivial ?_
        refine step_r rfl rfl trivial ?_
        refine step_gs rfl (fun h79 => ?_) (fun h79 => ?_)
        ·have g79 : ((moveM l0 (IntKind.i64.wrap (1 + (andK IntKind.i64 x0.f1 63))) (IntKind.i64.wrap ((andK IntKind.i64 x0.f2 7) + 1))).2 : Int) = 0 := beq_t h79
         refine step_g1 rfl h79 ?_
         refine step_r rfl rfl trivial ?_
         refine step_g1 rfl h79 ?_
         refine step_r rfl rfl trivial ?_
         refine step_g1 rfl h79 ?_
         refine step_callJ (Hin := [.row _ _ _]) (H' := [(2, .row _ _ _), (1, .row _ _ _), (0, .row _ _ _)]) (nx' := 3) [2] rfl rfl rfl rfl rfl rfl rfl rfl rfl (by (repeat' apply And.intro) <;> first | trivial | rfl | exact flat_len (s := 2) (enc := encGMember) (fun _ => rfl) _ | exact flat_len (fun _ => rfl) _ | exact encI_len _ | exact encB_len _ | exact encY_len _ | exact Nat.le_of_ble_eq_true rfl | assumption) (groupM_ok ((moveM l0 (IntKind.i64.wrap (1 + (andK IntKind.i64 x0.f1 63))) (IntKind.i64.wrap ((andK IntKind.i64 x0.f2 7) + 1))).1) false (IntKind.i64.wrap (1 + (andK IntKind.i64 x0.f1 63)))) rfl (by decide) rfl rfl trivial rfl rfl rfl rfl ?_
         refine step_g1 rfl h79 ?_
         refine step_r rfl rfl trivial ?_
         refine step_g1 rfl h79 ?_
         refine step_r rfl rfl trivial ?_
         refine step_g1 rfl h79 ?_
         refine step_idxS (k := k0) rfl rfl rfl rfl hk0 (flat_ne (s := 3) (enc := encA3int) (fun _ => rfl) (by decide) hk0) rfl ?_
         refine step_g1 rfl h79 ?_
         refine step_r rfl rfl ⟨by decide, by decide⟩ ?_
         refine step_g1 rfl h79 ?_
         refine step_load_one rfl rfl rfl (flat_get (s := 3) (enc := encA3int) (fun _ => rfl) hx0 (o := 2) rfl (by decide)) rfl ?_
         refine step_g1 rfl h79 ?_
         refine step_bin rfl rfl rfl rfl rfl trivial ?_
         refine step_g1 rfl h79 ?_
         refine step_bin rfl rfl rfl rfl rfl trivial ?_
         refine step_g1 rfl h79 ?_
         refine step_bin rfl rfl rfl rfl rfl trivial ?_
         refine step_pickT rfl h79 rfl rfl ?_
         refine step_nil ?_
         refine seqK_n ?_
         refine sem_cond rfl (fun h81 => ?_) (fun h81 => ?_)
         ·have g81 : ¬ ((groupM ((moveM l0 (IntKind.i64.wrap (1 + (andK IntKind.i64 x0.f1 63))) (IntKind.i64.wrap ((andK IntKind.i64 x0.f2 7) + 1))).1) (IntKind.i64.wrap (1 + (andK IntKind.i64 x0.f1 63))) : Int) = (IntKind.i64.wrap ((andK IntKind.i64 x0.f2 7) + 1))) := bne_t h81
          refine sem_seq ?_
          refine sem_region rfl ?_
          refine step_r rfl rfl trivial ?_
          refine step_nil ?_
          refine seqK_n ?_
          refine sem_ret ?_
          refine blkK_r ?_
          refine cutW_r ?_
          refine seqK_r ?_
          refine blkK_r ?_
          refine seqK_r ?_
          refine lupK_r ?_
          refine blkK_r ?_
          refine cutW_r ?_
          refine seqK_r ?_
          have e82 : stays22_J45 l0 x0 = .inl false := by
           unfold stays22_J45
           try dsimp only
           rewrite [if_neg g11, if_neg g52, if_pos g75, if_pos g79, if_neg g81]
           all_goals rfl
          have e83 : stays22_L0 steps 0 ([]) = .inl false := by
           rewrite [← hI0, drop_cons hx0]
           rewrite [stays22_L0]
           try dsimp only
           rewrite [e82]
           try dsimp only
           all_goals rfl
          have e84 : stays22 steps = false := by
           unfold stays22
           try dsimp only
           rewrite [if_neg g2, e83]
           try dsimp only
           all_goals rfl
          rw [e84]
          exact answersR rfl ⟨trivial, trivial⟩ (rfl) rfl
         ·have g81 : (groupM ((moveM l0 (IntKind.i64.wrap (1 + (andK IntKind.i64 x0.f1 63))) (IntKind.i64.wrap ((andK IntKind.i64 x0.f2 7) + 1))).1) (IntKind.i64.wrap (1 + (andK IntKind.i64 x0.f1 63))) : Int) = (IntKind.i64.wrap ((andK IntKind.i64 x0.f2 7) + 1)) := bne_f h81
          refine sem_skip ?_
          refine blkK_n ?_
          have e85 : stays22_J45 l0 x0 = .inr ((moveM l0 (IntKind.i64.wrap (1 + (andK IntKind.i64 x0.f1 63))) (IntKind.i64.wrap ((andK IntKind.i64 x0.f2 7) + 1))).1, (moveM l0 (IntKind.i64.wrap (1 + (andK IntKind.i64 x0.f1 63))) (IntKind.i64.wrap ((andK IntKind.i64 x0.f2 7) + 1))).2) := by
           unfold stays22_J45
           try dsimp only
           rewrite [if_neg g11, if_neg g52, if_pos g75, if_pos g79, if_pos g81]
           all_goals rfl
          exact cutW_n ((moveM l0 (IntKind.i64.wrap (1 + (andK IntKind.i64 x0.f1 63))) (IntKind.i64.wrap ((andK IntKind.i64 x0.f2 7) + 1))).1, (moveM l0 (IntKind.i64.wrap (1 + (andK IntKind.i64 x0.f1 63))) (IntKind.i64.wrap ((andK IntKind.i64 x0.f2 7) + 1))).2) e85 (Trans.ren [(1, 2), (2, 1)] (by decide +kernel) (by decide +kernel) rfl ⟨⟨rfl, rfl⟩, ⟨rfl, rfl⟩, ⟨rfl, rfl⟩, ⟨rfl, rfl⟩, ⟨rfl, rfl⟩, ⟨rfl, rfl⟩, trivial⟩ ⟨⟨rfl, rfl, rfl⟩, ⟨rfl, rfl, rfl⟩, trivial⟩ (by decide))
        ·have g79 : ¬ (((moveM l0 (IntKind.i64.wrap (1 + (andK IntKind.i64 x0.f1 63))) (IntKind.i64.wrap ((andK IntKind.i64 x0.f2 7) + 1))).2 : Int) = 0) := beq_f h79
         refine step_g0 rfl h79 rfl ?_
         refine step_g0 rfl h79 rfl ?_
         refine step_g0 rfl h79 rfl ?_
         refine step_g0 rfl h79 rfl ?_
         refine step_g0 rfl h79 rfl ?_
         refine step_g0 rfl h79 rfl ?_
         refine step_g0 rfl h79 rfl ?_
         refine step_g0 rfl h79 rfl ?_
         refine step_g0 rfl h79 rfl ?_
         refine step_g0 rfl h79 rfl ?_
         refine step_g0 rfl h79 rfl ?_
         refine step_pickF rfl h79 rfl rfl ?_
         refine step_nil ?_
         refine seqK_n ?_
         refine sem_condF rfl ?_
         refine sem_skip ?_
         refine blkK_n ?_
         have e86 : stays22_J45 l0 x0 = .inr ((moveM l0 (IntKind.i64.wrap (1 + (andK IntKind.i64 x0.f1 63))) (IntKind.i64.wrap ((andK IntKind.i64 x0.f2 7) + 1))).1, (moveM l0 (IntKind.i64.wrap (1 + (andK IntKind.i64 x0.f1 63))) (IntKind.i64.wrap ((andK IntKind.i64 x0.f2 7) + 1))).2) := by
          unfold stays22_J45
          try dsimp only
          rewrite [if_neg g11, if_neg g52, if_pos g75, if_neg g79]
          all_goals rfl
         exact cutW_n ((moveM l0 (IntKind.i64.wrap (1 + (andK IntKind.i64 x0.f1 63))) (IntKind.i64.wrap ((andK IntKind.i64 x0.f2 7) + 1))).1, (moveM l0 (IntKind.i64.wrap (1 + (andK IntKind.i64 x0.f1 63))) (IntKind.i64.wrap ((andK IntKind.i64 x0.f2 7) + 1))).2) e86 (Trans.ren [(1, 2), (2, 1)] (by decide +kernel) (by decide +kernel) rfl ⟨⟨rfl, rfl⟩, ⟨rfl, rfl⟩, ⟨rfl, rfl⟩, ⟨rfl, rfl⟩, ⟨rfl, rfl⟩, ⟨rfl, rfl⟩, trivial⟩ ⟨⟨rfl, rfl, rfl⟩, ⟨rfl, rfl, rfl⟩, trivial⟩ (by decide))
       ·have g75 : ¬ ((andK IntKind.i64 x0.f0 3 : Int) = 2) := beq_f h75
        refine sem_seq ?_
        refine sem_region rfl ?_
        refine step_bin rfl rfl rfl rfl rfl trivial ?_
        refine step_r rfl rfl trivial ?_
        refine step_nil ?_
        refine seqK_n ?_
        refine sem_cond rfl (fun h88 => ?_) (fun h88 => ?_)
        ·have g88 : (andK IntKind.i64 x0.f0 3 : Int) = 3 := beq_t h88
         refine sem_seq ?_
         refine sem_region rfl ?_
         refine step_r rfl rfl trivial ?_
         refine step_r rfl rfl trivial ?_
         refine step_r rfl rfl trivial ?_
         refine step_callJ (Hin := [.row _ _ _]) (out' := .tup [.ref 2 _ _ _, _]) (H' := [(2, .row _ _ _), (1, .row _ _ _), (0, .row _ _ _)]) (nx' := 3) [0] rfl rfl rfl rfl rfl rfl rfl rfl rfl (by (repeat' apply And.intro) <;> first | trivial | rfl | exact flat_len (s := 2) (enc := encGMember) (fun _ => rfl) _ | exact flat_len (fun _ => rfl) _ | exact encI_len _ | exact encB_len _ | exact encY_len _ | exact Nat.le_of_ble_eq_true rfl | assumption) (swapM_ok l0 false (IntKind.i64.wrap (1 + (andK IntKind.i64 x0.f1 63))) (IntKind.i64.wrap (1 + (andK IntKind.i64 x0.f2 63))) (by first | omega | (simp; omega))) rfl (by decide) rfl rfl ⟨encGMember_solid, trivial⟩ rfl rfl rfl rfl ?_
         have p89 := swapM_len l0 (IntKind.i64.wrap (1 + (andK IntKind.i64 x0.f1 63))) (IntKind.i64.wrap (1 + (andK IntKind.i64 x0.f2 63)))
         refine step_r rfl rfl trivial ?_
         refine step_r rfl rfl trivial ?_
         refine step_r rfl rfl trivial ?_
         refine step_r rfl rfl trivial ?_
         refine step_r rfl rfl trivial ?_
         refine step_nil ?_
         refine seqK_n ?_
         refine sem_seq ?_
         refine sem_region rfl ?_
         refine step_r rfl rfl trivial ?_
         refine step_bin rfl rfl rfl rfl rfl trivial ?_
         refine step_nil ?_
         refine seqK_n ?_
         refine sem_cond rfl (fun h91 => ?_) (fun h91 => ?_)
         ·have g91 : ((swapM l0 (IntKind.i64.wrap (1 + (andK IntKind.i64 x0.f1 63))) (IntKind.i64.wrap (1 + (andK IntKind.i64 x0.f2 63)))).2 : Int) = 0 := beq_t h91
          refine sem_seq ?_
          refine sem_region rfl ?_
          refine step_r rfl rfl trivial ?_
          refine step_r rfl rfl trivial ?_
          refine step_r rfl rfl trivial ?_
          refine step_callJ (Hin := [.row _ _ _]) (out' := .tup [.ref 3 _ _ _, _]) (H' := [(3, .row _ _ _), (2, .row _ _ _), (1, .row _ _ _), (0, .row _ _ _)]) (nx' := 4) [2] rfl rfl rfl rfl rfl rfl rfl rfl rfl (by (repeat' apply And.intro) <;> first | trivial | rfl | exact flat_len (s := 2) (enc := encGMember) (fun _ => rfl) _ | exact flat_len (fun _ => rfl) _ | exact encI_len _ | exact encB_len _ | exact encY_len _ | exact Nat.le_of_ble_eq_true rfl | assumption) (swapM_ok ((swapM l0 (IntKind.i64.wrap (1 + (andK IntKind.i64 x0.f1 63))) (IntKind.i64.wrap (1 + (andK IntKind.i64 x0.f2 63)))).1) false (IntKind.i64.wrap (1 + (andK IntKind.i64 x0.f1 63))) (IntKind.i64.wrap (1 + (andK IntKind.i64 x0.f2 63))) (by first | omega | (simp; omega))) rfl (by decide) rfl rfl ⟨encGMember_solid, trivial⟩ rfl rfl rfl rfl ?_
          have p92 := swapM_len ((swapM l0 (IntKind.i64.wrap (1 + (andK IntKind.i64 x0.f1 63))) (IntKind.i64.wrap (1 + (andK IntKind.i64 x0.f2 63)))).1) (IntKind.i64.wrap (1 + (andK IntKind.i64 x0.f1 63))) (IntKind.i64.wrap (1 + (andK IntKind.i64 x0.f2 63)))
          refine step_r rfl rfl trivial ?_
          refine step_r rfl rfl trivial ?_
          refine step_r rfl rfl trivial ?_
          refine step_r rfl rfl trivial ?_
          refine step_r rfl rfl trivial ?_
          refine step_nil ?_
          refine seqK_n ?_
          refine sem_seq ?_
          refine sem_region rfl ?_
          refine step_r rfl rfl trivial ?_
          refine step_bin rfl rfl rfl rfl rfl trivial ?_
          refine step_r rfl rfl trivial ?_
          refine step_gs rfl (fun h95 => ?_) (fun h95 => ?_)
          ·have g95 : ¬ (((swapM ((swapM l0 (IntKind.i64.wrap (1 + (andK IntKind.i64 x0.f1 63))) (IntKind.i64.wrap (1 + (andK IntKind.i64 x0.f2 63)))).1) (IntKind.i64.wrap (1 + (andK IntKind.i64 x0.f1 63))) (IntKind.i64.wrap (1 + (andK IntKind.i64 x0.f2 63)))).2 : Int) = 0) := bne_t h95
           refine step_g0 rfl h95 rfl ?_
           refine step_g0 rfl h95 rfl ?_
           refine step_g0 rfl h95 rfl ?_
           refine step_g0 rfl h95 rfl ?_
           refine step_pickT rfl h95 rfl rfl ?_
           refine step_nil ?_
           refine seqK_n ?_
           refine sem_condT rfl ?_
           refine sem_seq ?_
           refine sem_region rfl ?_
           refine step_r rfl rfl trivial ?_
           refine step_nil ?_
           refine seqK_n ?_
           refine sem_ret ?_
           refine blkK_r ?_
           refine cutW_r ?_
           refine seqK_r ?_
           refine blkK_r ?_
           refine seqK_r ?_
           refine lupK_r ?_
           refine blkK_r ?_
           refine cutW_r ?_
           refine seqK_r ?_
           have e96 : stays22_J45 l0 x0 = .inl false := by
            unfold stays22_J45
            try dsimp only
            rewrite [if_neg g11, if_neg g52, if_neg g75, if_pos g88, if_pos g91, if_neg g95]
            all_goals rfl
           have e97 : stays22_L0 steps 0 ([]) = .inl false := by
            rewrite [← hI0, drop_cons hx0]
            rewrite [stays22_L0]
            try dsimp only
            rewrite [e96]
            try dsimp only
            all_goals rfl
           have e98 : stays22 steps = false := by
            unfold stays22
            try dsimp only
            rewrite [if_neg g2, e97]
            try dsimp only
            all_goals rfl
           rw [e98]
           exact answersR rfl ⟨trivial, trivial⟩ (rfl) rfl
          ·have g95 : ((swapM ((swapM l0 (IntKind.i64.wrap (1 + (andK IntKind.i64 x0.f1 63))) (IntKind.i64.wrap (1 + (andK IntKind.i64 x0.f2 63)))).1) (IntKind.i64.wrap (1 + (andK IntKind.i64 x0.f1 63))) (IntKind.i64.wrap (1 + (andK IntKind.i64 x0.f2 63)))).2 : Int) = 0 := bne_f h95
           refine step_g1 rfl h95 ?_
           refine step_r rfl rfl trivial ?_
           refine step_g1 rfl h95 ?_
           refine step_r rfl rfl trivial ?_
           refine step_g1 rfl h95 ?_
           refine step_callJ (Hin := [.row _ _ _, .row _ _ _]) (H' := [(3, .row _ _ _), (2, .row _ _ _), (1, .row _ _ _), (0, .row _ _ _)]) (nx' := 4) [3, 0] rfl rfl rfl rfl rfl rfl rfl rfl rfl (by (repeat' apply And.intro) <;> first | trivial | rfl | exact flat_len (s := 2) (enc := encGMember) (fun _ => rfl) _ | exact flat_len (fun _ => rfl) _ | exact encI_len _ | exact encB_len _ | exact encY_len _ | exact Nat.le_of_ble_eq_true rfl | assumption) (sameMR ((swapM ((swapM l0 (IntKind.i64.wrap (1 + (andK IntKind.i64 x0.f1 63))) (IntKind.i64.wrap (1 + (andK IntKind.i64 x0.f2 63)))).1) (IntKind.i64.wrap (1 + (andK IntKind.i64 x0.f1 63))) (IntKind.i64.wrap (1 + (andK IntKind.i64 x0.f2 63)))).1) false l0 false) rfl (by decide) rfl rfl trivial rfl rfl rfl rfl ?_
           refine step_g1 rfl h95 ?_
           refine step_r rfl rfl trivial ?_
           refine step_pickF rfl h95 rfl rfl ?_
           refine step_nil ?_
           refine seqK_n ?_
           refine sem_cond rfl (fun h100 => ?_) (fun h100 => ?_)
           ·have g100 : ¬ (((swapM ((swapM l0 (IntKind.i64.wrap (1 + (andK IntKind.i64 x0.f1 63))) (IntKind.i64.wrap (1 + (andK IntKind.i64 x0.f2 63)))).1) (IntKind.i64.wrap (1 + (andK IntKind.i64 x0.f1 63))) (IntKind.i64.wrap (1 + (andK IntKind.i64 x0.f2 63)))).1) = l0) := of_decide_eq_false (not_t h100)
            refine sem_seq ?_
            refine sem_region rfl ?_
            refine step_r rfl rfl trivial ?_
            refine step_nil ?_
            refine seqK_n ?_
            refine sem_ret ?_
            refine blkK_r ?_
            refine cutW_r ?_
            refine seqK_r ?_
            refine blkK_r ?_
            refine seqK_r ?_
            refine lupK_r ?_
            refine blkK_r ?_
            refine cutW_r ?_
            refine seqK_r ?_
            have e101 : stays22_J45 l0 x0 = .inl false := by
             unfold stays22_J45
             try dsimp only
             rewrite [if_neg g11, if_neg g52, if_neg g75, if_pos g88, if_pos g91, if_pos g95, if_neg g100]
             all_goals rfl
            have e102 : stays22_L0 steps 0 ([]) = .inl false := by
             rewrite [← hI0, drop_cons hx0]
             rewrite [stays22_L0]
             try dsimp only
             rewrite [e101]
             try dsimp only
             all_goals rfl
            have e103 : stays22 steps = false := by
             unfold stays22
             try dsimp only
             rewrite [if_neg g2, e102]
             try dsimp only
             all_goals rfl
            rw [e103]
            exact answersR rfl ⟨trivial, trivial⟩ (rfl) rfl
           ·have g100 : ((swapM ((swapM l0 (IntKind.i64.wrap (1 + (andK IntKind.i64 x0.f1 63))) (IntKind.i64.wrap (1 + (andK IntKind.i64 x0.f2 63)))).1) (IntKind.i64.wrap (1 + (andK IntKind.i64 x0.f1 63))) (IntKind.i64.wrap (1 + (andK IntKind.i64 x0.f2 63)))).1) = l0 := of_decide_eq_true (not_f h100)
            refine sem_skip ?_
            refine blkK_n ?_
            have e104 : stays22_J45 l0 x0 = .inr ((swapM l0 (IntKind.i64.wrap (1 + (andK IntKind.i64 x0.f1 63))) (IntKind.i64.wrap (1 + (andK IntKind.i64 x0.f2 63)))).1, (swapM l0 (IntKind.i64.wrap (1 + (andK IntKind.i64 x0.f1 63))) (IntKind.i64.wrap (1 + (andK IntKind.i64 x0.f2 63)))).2) := by
             unfold stays22_J45
             try dsimp only
             rewrite [if_neg g11, if_neg g52, if_neg g75, if_pos g88, if_pos g91, if_pos g95, if_pos g100]
             all_goals rfl
            exact cutW_n ((swapM l0 (IntKind.i64.wrap (1 + (andK IntKind.i64 x0.f1 63))) (IntKind.i64.wrap (1 + (andK IntKind.i64 x0.f2 63)))).1, (swapM l0 (IntKind.i64.wrap (1 + (andK IntKind.i64 x0.f1 63))) (IntKind.i64.wrap (1 + (andK IntKind.i64 x0.f2 63)))).2) e104 (Trans.ren [(1, 2), (2, 1)] (by decide +kernel) (by decide +kernel) rfl ⟨⟨rfl, rfl⟩, ⟨rfl, rfl⟩, ⟨rfl, rfl⟩, ⟨rfl, rfl⟩, ⟨rfl, rfl⟩, ⟨rfl, rfl⟩, trivial⟩ ⟨⟨rfl, rfl, rfl⟩, ⟨rfl, rfl, rfl⟩, trivial⟩ (by decide))
         ·have g91 : ¬ (((swapM l0 (IntKind.i64.wrap (1 + (andK IntKind.i64 x0.f1 63))) (IntKind.i64.wrap (1 + (andK IntKind.i64 x0.f2 63)))).2 : Int) = 0) := beq_f h91
          refine sem_skip ?_
          refine blkK_n ?_
          have e105 : stays22_J45 l0 x0 = .inr ((swapM l0 (IntKind.i64.wrap (1 + (andK IntKind.i64 x0.f1 63))) (IntKind.i64.wrap (1 + (andK IntKind.i64 x0.f2 63)))).1, (swapM l0 (IntKind.i64.wrap (1 + (andK IntKind.i64 x0.f1 63))) (IntKind.i64.wrap (1 + (andK IntKind.i64 x0.f2 63)))).2) := by
           unfold stays22_J45
           try dsimp only
           rewrite [if_neg g11, if_neg g52, if_neg g75, if_pos g88, if_neg g91]
           all_goals rfl
          exact cutW_n ((swapM l0 (IntKind.i64.wrap (1 + (andK IntKind.i64 x0.f1 63))) (IntKind.i64.wrap (1 + (andK IntKind.i64 x0.f2 63)))).1, (swapM l0 (IntKind.i64.wrap (1 + (andK IntKind.i64 x0.f1 63))) (IntKind.i64.wrap (1 + (andK IntKind.i64 x0.f2 63)))).2) e105 (Trans.ren [(1, 2), (2, 1)] (by decide +kernel) (by decide +kernel) rfl ⟨⟨rfl, rfl⟩, ⟨rfl, rfl⟩, ⟨rfl, rfl⟩, ⟨rfl, rfl⟩, ⟨rfl, rfl⟩, ⟨rfl, rfl⟩, trivial⟩ ⟨⟨rfl, rfl, rfl⟩, ⟨rfl, rfl, rfl⟩, trivial⟩ (by decide))
        ·have g88 : ¬ ((andK IntKind.i64 x0.f0 3 : Int) = 3) := beq_f h88
         refine sem_skip ?_
         refine blkK_n ?_
         have e106 : stays22_J45 l0 x0 = .inr ([], 5) := by
          unfold stays22_J45
          try dsimp only
          rewrite [if_neg g11, if_neg g52, if_neg g75, if_neg g88]
          all_goals rfl
         exact cutW_n ([], 5) e106 (Trans.ren [] (by decide +kernel) (by decide +kernel) rfl ⟨⟨rfl, rfl⟩, ⟨rfl, rfl⟩, ⟨rfl, rfl⟩, ⟨rfl, rfl⟩, ⟨congrArg (fun n => some (AV.ref 1 2 0 n)) (by first | rfl | simp only [List.length_set] | simp | omega | (simp; omega)), rfl⟩, ⟨rfl, rfl⟩, trivial⟩ ⟨⟨rfl, rfl, rfl⟩, ⟨rfl, rfl, rfl⟩, trivial⟩ (by decide))
    ·rintro ⟨m_45, e_45⟩ (hJ9 : stays22_J45 l0 x0 = .inr (m_45, e_45))
     show seqK _ _ _ .normal (⟨[(0, .pv (.slc steps.length steps_f (steps.flatMap encA3int))), (3, B (small22)), (4, .ref 0 2 0 l0.length), (5, I k0), (8, .ref 1 2 0 m_45.length), (9, I e_45)], [(0, .row 31 2 (l0.flatMap encGMember)), (1, .row 31 2 (m_45.flatMap encGMember))], 2, [], 229, 0⟩ : St)
     refine seqK_n ?_
     refine sem_seq ?_
     refine sem_cutW (fun l_184 : List GMember => (⟨[(0, .pv (.slc steps.length steps_f (steps.flatMap encA3int))), (3, B (small22)), (4, .ref 0 2 0 l_184.length), (5, I k0)], [(0, .row 31 2 (l_184.flatMap encGMember))], 1, [], 229, 0⟩ : St)) (fun w_ => stays22_J184 l0 m_45 e_45 = w_) ?_ ?_
     ·refine sem_seq ?_
      refine sem_region rfl ?_
      refine step_r rfl rfl trivial ?_
      refine step_bin rfl rfl rfl rfl rfl trivial ?_
      refine step_nil ?_
      refine seqK_n ?_
      refine sem_cond rfl (fun h109 => ?_) (fun h109 => ?_)
      ·have g109 : (e_45 : Int) = 0 := beq_t h109
       refine sem_region rfl ?_
       refine step_r rfl rfl trivial ?_
       refine step_r rfl rfl trivial ?_
       refine step_nil ?_
       have e110 : stays22_J184 l0 m_45 e_45 = m_45 := by
        unfold stays22_J184
        try dsimp only
        rewrite [if_pos g109]
        all_goals rfl
       exact cutW_n m_45 e110 (Trans.ren [(0, 1), (1, 0)] (by decide +kernel) (by decide +kernel) rfl ⟨⟨rfl, rfl⟩, ⟨rfl, rfl⟩, ⟨rfl, rfl⟩, ⟨rfl, rfl⟩, trivial⟩ ⟨⟨rfl, rfl, rfl⟩, trivial⟩ (by decide))
      ·have g109 : ¬ ((e_45 : Int) = 0) := beq_f h109
       refine sem_skip ?_
       have e111 : stays22_J184 l0 m_45 e_45 = l0 := by
        unfold stays22_J184
        try dsimp only
        rewrite [if_neg g109]
        all_goals rfl
       exact cutW_n l0 e111 (Trans.ren [] (by decide +kernel) (by decide +kernel) rfl ⟨⟨rfl, rfl⟩, ⟨rfl, rfl⟩, ⟨rfl, rfl⟩, ⟨rfl, rfl⟩, trivial⟩ ⟨⟨rfl, rfl, rfl⟩, trivial⟩ (by decide))
     ·rintro l_184 (hJ107 : stays22_J184 l0 m_45 e_45 = l_184)
      show seqK _ _ _ .normal (⟨[(0, .pv (.slc steps.length steps_f (steps.flatMap encA3int))), (3, B (small22)), (4, .ref 0 2 0 l_184.length), (5, I k0)], [(0, .row 31 2 (l_184.flatMap encGMember))], 1, [], 229, 0⟩ : St)
      refine seqK_n ?_
      refine sem_seq ?_
      refine sem_region rfl ?_
      refine step_r rfl rfl trivial ?_
      refine step_callJ (Hin := [.row _ _ _]) (H' := [(0, .row _ _ _)]) (nx' := 1) [0] rfl rfl rfl rfl rfl rfl rfl rfl rfl (by (repeat' apply And.intro) <;> first | trivial | rfl | exact flat_len (s := 2) (enc := encGMember) (fun _ => rfl) _ | exact flat_len (fun _ => rfl) _ | exact encI_len _ | exact encB_len _ | exact encY_len _ | exact Nat.le_of_ble_eq_true rfl | assumption) (rightM_ok l_184 false) rfl (by decide) rfl rfl trivial rfl rfl rfl rfl ?_
      refine step_r rfl rfl trivial ?_
      refine step_r rfl rfl trivial ?_
      refine step_gs rfl (fun h113 => ?_) (fun h113 => ?_)
      ·have g113 : ¬ (rightM l_184 = true) := boo_f (not_t h113)
       refine step_g0 rfl h113 rfl ?_
       refine step_g0 rfl h113 rfl ?_
       refine step_g0 rfl h113 rfl ?_
       refine step_pickT rfl h113 rfl rfl ?_
       refine step_nil ?_
       refine seqK_n ?_
       refine sem_condT rfl ?_
       refine sem_seq ?_
       refine sem_region rfl ?_
       refine step_r rfl rfl trivial ?_
       refine step_nil ?_
       refine seqK_n ?_
       refine sem_ret ?_
       refine blkK_r ?_
       refine seqK_r ?_
       refine lupK_r ?_
       refine blkK_r ?_
       refine cutW_r ?_
       refine seqK_r ?_
       have e114 : stays22_L0 steps 0 ([]) = .inl false := by
        rewrite [← hI0, drop_cons hx0]
        rewrite [stays22_L0]
        try dsimp only
        rewrite [hJ9]
        try dsimp only
        rewrite [hJ107]
        try dsimp only
        rewrite [if_neg g113]
        all_goals rfl
       have e115 : stays22 steps = false := by
        unfold stays22
        try dsimp only
        rewrite [if_neg g2, e114]
        try dsimp only
        all_goals rfl
       rw [e115]
       exact answersR rfl ⟨trivial, trivial⟩ (rfl) rfl
      ·have g113 : rightM l_184 = true := (not_f h113)
       refine step_g1 rfl h113 ?_
       refine step_r rfl rfl trivial ?_
       refine step_g1 rfl h113 ?_
       refine step_r rfl rfl trivial ?_
       refine step_g1 rfl h113 ?_
       refine step_bin rfl rfl rfl rfl rfl trivial ?_
       refine step_pickF rfl h113 rfl rfl ?_
       refine step_nil ?_
       refine seqK_n ?_
       refine sem_cond rfl (fun h117 => ?_) (fun h117 => ?_)
       ·have g117 : (l_184.length : Int) > 40 := of_decide_eq_true h117
        refine sem_seq ?_
        refine sem_region rfl ?_
        refine step_r rfl rfl trivial ?_
        refine step_nil ?_
        refine seqK_n ?_
        refine sem_ret ?_
        refine blkK_r ?_
        refine seqK_r ?_
        refine lupK_r ?_
        refine blkK_r ?_
        refine cutW_r ?_
        refine seqK_r ?_
        have e118 : stays22_L0 steps 0 ([]) = .inl false := by
         rewrite [← hI0, drop_cons hx0]
         rewrite [stays22_L0]
         try dsimp only
         rewrite [hJ9]
         try dsimp only
         rewrite [hJ107]
         try dsimp only
         rewrite [if_pos g113, if_pos g117]
         all_goals rfl
        have e119 : stays22 steps = false := by
         unfold stays22
         try dsimp only
         rewrite [if_neg g2, e118]
         try dsimp only
         all_goals rfl
        rw [e119]
        exact answersR rfl ⟨trivial, trivial⟩ (rfl) rfl
       ·have g117 : ¬ ((l_184.length : Int) > 40) := of_decide_eq_false h117
        refine sem_skip ?_
        refine blkK_n ?_
        refine seqK_n ?_
        refine sem_region rfl ?_
        refine step_r rfl rfl trivial ?_
        refine step_bin rfl rfl rfl rfl rfl trivial ?_
        refine step_r rfl rfl trivial ?_
        refine step_nil ?_
        have e122 : stays22_L0 (steps.drop k0) k0 l0 = stays22_L0 (steps.drop (k0 + 1)) (k0 + 1) l_184 := by
         rewrite [drop_cons hx0]
         rewrite [stays22_L0]
         try dsimp only
         rewrite [hJ9]
         try dsimp only
         rewrite [hJ107]
         try dsimp only
         rewrite [if_pos g113, if_neg g117]
         all_goals rfl
        exact lup_againT (k0 + 1, l_184) ⟨e122.symm.trans hI0, hk0, by first | omega | assumption | (simp only [List.length_append, List.length_cons, List.length_nil, List.length_set]; omega) | (simp; omega) | grind⟩ (by show steps.length - (k0 + 1) < steps.length - k0; omega) (Trans.ren [] (by decide +kernel) (by decide +kernel) rfl ⟨⟨rfl, rfl⟩, ⟨rfl, rfl⟩, ⟨rfl, rfl⟩, ⟨congrArg (fun n => some (I n)) (wrapI (k := k0) (by first | omega | (simp; omega))), rfl⟩, trivial⟩ ⟨⟨rfl, rfl, rfl⟩, trivial⟩ (by decide))
   ·have g6 : ¬ ((k0 : Int) < steps.length) := of_decide_eq_false h6
    have hk0 : k0 = steps.length := by omega
    refine sem_exit ?_
    refine seqK_e ?_
    refine lupK_e ?_
    refine blkK_t rfl ?_
    have e123 : stays22_L0 steps 0 ([]) = .inr l0 := by
     rewrite [← hI0, hk0, List.drop_length]
     rewrite [stays22_L0]
     try dsimp only
     all_goals rfl
    exact cutW_n l0 ⟨e123, by first | assumption | omega | (simp; omega) | simp_all | grind⟩ (Trans.ren [] (by decide +kernel) (by decide +kernel) rfl ⟨⟨rfl, rfl⟩, ⟨rfl, rfl⟩, trivial⟩ ⟨⟨rfl, rfl, rfl⟩, trivial⟩ (by decide))
  ·rintro l_0 ⟨(hJ4 : stays22_L0 steps 0 ([]) = .inr l_0), hE0⟩
   show seqK _ _ _ .normal (⟨[(3, B (small22)), (4, .ref 0 2 0 l_0.length)], [(0, .row 31 2 (l_0.flatMap encGMember))], 1, [], 229, 0⟩ : St)
   refine seqK_n ?_
   refine sem_seq ?_
   refine sem_region rfl ?_
   refine step_r rfl rfl trivial ?_
   refine step_nil ?_
   refine seqK_n ?_
   refine sem_seq ?_
   refine sem_seq ?_
   refine sem_region rfl ?_
   refine step_r rfl rfl trivial ?_
   refine step_nil ?_
   refine seqK_n ?_
   refine sem_cutW (fun n_1 : Int => (⟨[(3, B (small22)), (4, .ref 0 2 0 l_0.length), (17, I n_1)], [(0, .row 31 2 (l_0.flatMap encGMember))], 1, [], 229, 0⟩ : St)) (fun w_ => stays22_L1 l_0 (9 - 1) 1 0 = .inr w_) ?_ ?_
   ·refine sem_block ?_
    refine sem_loopT (fun w_ : Nat × Int => match w_ with | (k1, n1) => (⟨[(3, B (small22)), (4, .ref 0 2 0 l_0.length), (17, I n1), (18, I k1)], [(0, .row 31 2 (l_0.flatMap encGMember))], 1, [], 229, 0⟩ : St)) (fun w_ : Nat × Int => match w_ with | (k1, n1) => stays22_L1 l_0 (9 - k1) k1 n1 = stays22_L1 l_0 (9 - 1) 1 0 ∧ k1 ≤ 9) (fun w_ : Nat × Int => match w_ with | (k1, n1) => 9 - k1) (1, 0) (⟨rfl, (by first | omega | (simp; omega))⟩) ?_ (fun w_ hh_ => ?_)
    ·exact (Trans.ren [] (by decide +kernel) (by decide +kernel) rfl ⟨⟨rfl, rfl⟩, ⟨rfl, rfl⟩, ⟨rfl, rfl⟩, ⟨rfl, rfl⟩, trivial⟩ ⟨⟨rfl, rfl, rfl⟩, trivial⟩ (by decide))
    obtain ⟨k1, n1⟩ := w_
    obtain ⟨hI1, hb1⟩ := hh_
    show Walks Try.prog _ _ (⟨[(3, B (small22)), (4, .ref 0 2 0 l_0.length), (17, I n1), (18, I k1)], [(0, .row 31 2 (l_0.flatMap encGMember))], 1, [], 229, 0⟩ : St)
    refine sem_seq ?_
    refine sem_seq ?_
    refine sem_region rfl ?_
    refine step_r rfl rfl trivial ?_
    refine step_bin rfl rfl rfl rfl rfl trivial ?_
    refine step_nil ?_
    refine seqK_n ?_
    refine sem_cond rfl (fun h126 => ?_) (fun h126 => ?_)
    ·have g126 : (k1 : Int) ≤ 8 := of_decide_eq_true h126
     have hm1 : 9 - k1 = (9 - (k1 + 1)) + 1 := by omega
     refine sem_skip ?_
     refine seqK_n ?_
     refine sem_seq ?_
     refine sem_block ?_
     refine sem_seq ?_
     refine sem_region rfl ?_
     refine step_r rfl rfl trivial ?_
     refine step_r rfl rfl trivial ?_
     refine step_callJ (Hin := [.row _ _ _]) (out' := .ref 1 _ _ _) (H' := [(1, .row _ _ _), (0, .row _ _ _)]) (nx' := 2) [0] rfl rfl rfl rfl rfl rfl rfl rfl rfl (by (repeat' apply And.intro) <;> first | trivial | rfl | exact flat_len (s := 2) (enc := encGMember) (fun _ => rfl) _ | exact flat_len (fun _ => rfl) _ | exact encI_len _ | exact encB_len _ | exact encY_len _ | exact Nat.le_of_ble_eq_true rfl | assumption) (inM_ok l_0 false k1 (by first | omega | (simp; omega))) rfl (by decide) rfl rfl ⟨encI_solid, trivial⟩ rfl rfl rfl rfl ?_
     refine step_r rfl rfl trivial ?_
     refine step_r rfl rfl trivial ?_
     refine step_nil ?_
     refine seqK_n ?_
     refine sem_seq ?_
     refine sem_seq ?_
     refine sem_region rfl ?_
     refine step_r rfl rfl trivial ?_
     refine step_bin rfl rfl rfl rfl rfl trivial ?_
     refine step_nil ?_
     refine seqK_n ?_
     refine sem_cond rfl (fun h128 => ?_) (fun h128 => ?_)
     ·have g128 : ((inM l_0 k1).length : Int) > 5 := of_decide_eq_true h128
      refine sem_seq ?_
      refine sem_region rfl ?_
      refine step_r rfl rfl trivial ?_
      refine step_nil ?_
      refine seqK_n ?_
      refine sem_ret ?_
      refine seqK_r ?_
      refine blkK_r ?_
      refine seqK_r ?_
      refine lupK_r ?_
      refine blkK_r ?_
      refine cutW_r ?_
      refine seqK_r ?_
      have e129 : stays22_L1 l_0 (9 - 1) 1 0 = .inl false := by
       rewrite [← hI1, hm1]
       rewrite [stays22_L1]
       try dsimp only
       rewrite [if_pos g128]
       all_goals rfl
      have e130 : stays22 steps = false := by
       unfold stays22
       try dsimp only
       rewrite [if_neg g2, hJ4]
       try dsimp only
       rewrite [e129]
       try dsimp only
       all_goals rfl
      rw [e130]
      exact answersR rfl ⟨trivial, trivial⟩ (rfl) rfl
     ·have g128 : ¬ (((inM l_0 k1).length : Int) > 5) := of_decide_eq_false h128
      refine sem_skip ?_
      refine seqK_n ?_
      refine sem_region rfl ?_
      refine step_r rfl rfl trivial ?_
      refine step_r rfl rfl trivial ?_
      refine step_bin rfl rfl rfl rfl rfl trivial ?_
      refine step_r rfl rfl trivial ?_
      refine step_nil ?_
      refine blkK_n ?_
      refine seqK_n ?_
      refine sem_region rfl ?_
      refine step_r rfl rfl trivial ?_
      refine step_bin rfl rfl rfl rfl rfl trivial ?_
      refine step_r rfl rfl trivial ?_
      refine step_nil ?_
      have e134 : stays22_L1 l_0 (9 - k1) k1 n1 = stays22_L1 l_0 (9 - (k1 + 1)) (k1 + 1) (IntKind.i64.wrap (n1 + ((inM l_0 k1).length))) := by
       rewrite [hm1]
       rewrite [stays22_L1]
       try dsimp only
       rewrite [if_neg g128]
       all_goals rfl
      exact lup_againT (k1 + 1, (IntKind.i64.wrap (n1 + ((inM l_0 k1).length)))) ⟨e134.symm.trans hI1, (by omega)⟩ (by show 9 - (k1 + 1) < 9 - k1; omega) (Trans.ren [] (by decide +kernel) (by decide +kernel) rfl ⟨⟨rfl, rfl⟩, ⟨rfl, rfl⟩, ⟨rfl, rfl⟩, ⟨congrArg (fun n => some (I n)) (wrapI (k := k1) (by first | omega | (simp; omega))), rfl⟩, trivial⟩ ⟨⟨rfl, rfl, rfl⟩, trivial⟩ (by decide))
    ·have g126 : ¬ ((k1 : Int) ≤ 8) := of_decide_eq_false h126
     have hm1 : 9 - k1 = 0 := by omega
     refine sem_exit ?_
     refine seqK_e ?_
     refine lupK_e ?_
     refine blkK_t rfl ?_
     have e135 : stays22_L1 l_0 (9 - 1) 1 0 = .inr n1 := by
      rewrite [← hI1, hm1]
      rewrite [stays22_L1]
      try dsimp only
      all_goals rfl
     exact cutW_n n1 e135 (Trans.ren [] (by decide +kernel) (by decide +kernel) rfl ⟨⟨rfl, rfl⟩, ⟨rfl, rfl⟩, ⟨rfl, rfl⟩, trivial⟩ ⟨⟨rfl, rfl, rfl⟩, trivial⟩ (by decide))
   ·rintro n_1 (hJ124 : stays22_L1 l_0 (9 - 1) 1 0 = .inr n_1)
    show seqK _ _ _ .normal (⟨[(3, B (small22)), (4, .ref 0 2 0 l_0.length), (17, I n_1)], [(0, .row 31 2 (l_0.flatMap encGMember))], 1, [], 229, 0⟩ : St)
    refine seqK_n ?_
    refine sem_seq ?_
    refine sem_drawn rfl (by decide +kernel) rfl ?_
    refine step_r rfl rfl trivial ?_
    refine step_r rfl rfl trivial ?_
    refine step_gs rfl (fun h137 => ?_) (fun h137 => ?_)
    ·have g137 : small22 = true := h137
     refine step_g1 rfl h137 ?_
     refine step_r rfl rfl trivial ?_
     refine step_g1 rfl h137 ?_
     refine step_r rfl rfl trivial ?_
     refine step_g1 rfl h137 ?_
     refine step_r rfl rfl trivial ?_
     refine step_g1 rfl h137 ?_
     refine step_bin rfl rfl rfl rfl rfl trivial ?_
     refine step_pickT rfl h137 rfl rfl ?_
     refine step_r rfl rfl trivial ?_
     refine step_gs rfl (fun h140 => ?_) (fun h140 => ?_)
     ·have g140 : (n_1 : Int) = l_0.length := beq_t h140
      refine step_g1 rfl h140 ?_
      refine step_r rfl rfl trivial ?_
      refine step_g1 rfl h140 ?_
      refine step_r rfl rfl trivial ?_
      refine step_g1 rfl h140 ?_
      refine step_bin rfl rfl rfl rfl rfl trivial ?_
      refine step_g1 rfl h140 ?_
      refine step_r rfl rfl trivial ?_
      refine step_gs rfl (fun h142 => ?_) (fun h142 => ?_)
      ·have g142 : (l_0.length : Int) = 0 := beq_t h142
       refine step_g0 rfl h142 rfl ?_
       refine step_g0 rfl h142 rfl ?_
       refine step_g0 rfl h142 rfl ?_
       refine step_g0 rfl h142 rfl ?_
       refine step_g0 rfl h142 rfl ?_
       refine step_g0 rfl h142 rfl ?_
       refine step_g0 rfl h142 rfl ?_
       refine step_g1 rfl h140 ?_
       refine step_pickT rfl h142 rfl rfl ?_
       refine step_pickT rfl h140 rfl rfl ?_
       refine step_r rfl rfl trivial ?_
       refine step_nil ?_
       refine seqK_n ?_
       refine sem_ret ?_
       have e143 : stays22 steps = true := by
        unfold stays22
        try dsimp only
        rewrite [if_neg g2, hJ4]
        try dsimp only
        rewrite [hJ124]
        try dsimp only
        rewrite [if_pos g137, if_pos g140, if_pos g142]
        all_goals rfl
       rw [e143]
       exact answersR rfl ⟨trivial, trivial⟩ (rfl) rfl
      ·have g142 : ¬ ((l_0.length : Int) = 0) := beq_f h142
       refine step_g1 rfl h142 ?_
       refine step_r rfl rfl trivial ?_
       refine step_g1 rfl h142 ?_
       refine step_callJ (Hin := [.row _ _ _]) (H' := [(0, .row _ _ _)]) (nx' := 1) [0] rfl rfl rfl rfl rfl rfl rfl rfl rfl (by (repeat' apply And.intro) <;> first | trivial | rfl | exact flat_len (s := 2) (enc := encGMember) (fun _ => rfl) _ | exact flat_len (fun _ => rfl) _ | exact encI_len _ | exact encB_len _ | exact encY_len _ | exact Nat.le_of_ble_eq_true rfl | assumption) (leadM_ok l_0 false) rfl (by decide) rfl rfl trivial rfl rfl rfl rfl ?_
       refine step_g1 rfl h142 ?_
       refine step_r rfl rfl trivial ?_
       refine step_g1 rfl h142 ?_
       have jk144 : 0 < l_0.length := by first | assumption | omega | (simp only [List.length_set, List.length_append]; omega) | (simp only [IntKind.wrap_i64] at *; omega) | (simp; omega) | simp_all
       refine step_idxR (k := 0) rfl rfl rfl rfl jk144 rfl ?_
       refine step_g1 rfl h142 ?_
       refine step_r rfl rfl (by decide) ?_
       refine step_g1 rfl h142 ?_
       refine step_load_oneR rfl rfl rfl rfl (flat_get (s := 2) (enc := encGMember) (fun _ => rfl) (get_getD jk144) (o := 0) rfl (by decide)) rfl ?_
       refine step_g1 rfl h142 ?_
       refine step_bin rfl rfl rfl rfl rfl trivial ?_
       refine step_g1 rfl h140 ?_
       refine step_pickF rfl h142 rfl rfl ?_
       refine step_pickT rfl h140 rfl rfl ?_
       refine step_r rfl rfl trivial ?_
       refine step_nil ?_
       refine seqK_n ?_
       refine sem_ret ?_
       have e146 : stays22 steps = ((leadM l_0 : Int) == ((l_0.getD 0 default).Unit)) := by
        unfold stays22
        try dsimp only
        rewrite [if_neg g2, hJ4]
        try dsimp only
        rewrite [hJ124]
        try dsimp only
        rewrite [if_pos g137, if_pos g140, if_neg g142]
        all_goals rfl
       rw [e146]
       exact answersR rfl ⟨trivial, trivial⟩ (rfl) rfl
     ·have g140 : ¬ ((n_1 : Int) = l_0.length) := beq_f h140
      refine step_g0 rfl h140 rfl ?_
      refine step_g0 rfl h140 rfl ?_
      refine step_g0 rfl h140 rfl ?_
      refine step_g0 rfl h140 rfl ?_
      refine step_gf rfl rfl ?_
      refine step_gf rfl rfl ?_
      refine step_gf rfl rfl ?_
      refine step_gf rfl rfl ?_
      refine step_gf rfl rfl ?_
      refine step_gf rfl rfl ?_
      refine step_gf rfl rfl ?_
      refine step_g0 rfl h140 rfl ?_
      refine step_pickF rfl h140 rfl rfl ?_
      refine step_r rfl rfl trivial ?_
      refine step_nil ?_
      refine seqK_n ?_
      refine sem_ret ?_
      have e147 : stays22 steps = false := by
       unfold stays22
       try dsimp only
       rewrite [if_neg g2, hJ4]
       try dsimp only
       rewrite [hJ124]
       try dsimp only
       rewrite [if_pos g137, if_neg g140]
       all_goals rfl
      rw [e147]
      exact answersR rfl ⟨trivial, trivial⟩ (rfl) rfl
    ·have g137 : ¬ (small22 = true) := boo_f h137
     refine step_g0 rfl h137 rfl ?_
     refine step_g0 rfl h137 rfl ?_
     refine step_g0 rfl h137 rfl ?_
     refine step_g0 rfl h137 rfl ?_
     refine step_pickF rfl h137 rfl rfl ?_
     refine step_r rfl rfl trivial ?_
     refine step_gf rfl rfl ?_
     refine step_gf rfl rfl ?_
     refine step_gf rfl rfl ?_
     refine step_gf rfl rfl ?_
     refine step_gf rfl rfl ?_
     refine step_gf rfl rfl ?_
     refine step_gf rfl rfl ?_
     refine step_gf rfl rfl ?_
     refine step_gf rfl rfl ?_
     refine step_gf rfl rfl ?_
     refine step_gf rfl rfl ?_
     refine step_gf rfl rfl ?_
     refine step_r rfl rfl trivial ?_
     refine step_r rfl rfl trivial ?_
     refine step_nil ?_
     refine seqK_n ?_
     refine sem_ret ?_
     have e148 : stays22 steps = false := by
      unfold stays22
      try dsimp only
      rewrite [if_neg g2, hJ4]
      try dsimp only
      rewrite [hJ124]
      try dsimp only
      rewrite [if_neg g137]
      all_goals rfl
     rw [e148]
     exact answersR rfl ⟨trivial, trivial⟩ (rfl) rfl
end Go.Proofs.Ytlcdcechaogofaa

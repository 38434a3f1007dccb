import Derived.Test.YtcbdecknbfabaaaAura
namespace Go.Proofs.Ytcbdecknbfabaaa
open Go Go.RowKit Go.Proofs.YtcbdecknbfabaaaVm
attribute [local irreducible] opsWp AnswersE OpsS
set_option maxHeartbeats 400000
set_option maxRecDepth 100000
set_option linter.all false
theorem sameL (a : List GActive) (a_f : Bool) (b : List GActive) (b_f : Bool) : Ok Try.prog 13 [.pv (.slc a.length a_f (a.flatMap encGActive)), .pv (.slc b.length b_f (b.flatMap encGActive))] [] (B (decide (a = b))) [] [] := by
 refine Ok.len fun hlen => ?_
 have hl_a : a.length ≤ maxLen := hlen _ (by simp [lensL, lens, lensP])
 have hl_b : b.length ≤ maxLen := hlen _ (by simp [lensL, lens, lensP])
 unfold maxLen at hl_a hl_b
 refine ok_of_sem Try.func13 rfl ?_
 show Walks Try.prog _ _ ⟨[(0, .pv (.slc a.length a_f (a.flatMap encGActive))), (1, .pv (.slc b.length b_f (b.flatMap encGActive)))], [], 0, [], 26, 0⟩
 refine sem_seq ?_
 refine sem_region rfl ?_
 refine step_r rfl rfl trivial ?_
 refine step_nil ?_
 refine seqK_n ?_
 refine sem_seq ?_
 refine sem_seq ?_
 refine sem_region rfl ?_
 refine step_r rfl rfl trivial ?_
 refine step_r rfl rfl trivial ?_
 refine step_r rfl rfl trivial ?_
 refine step_r rfl rfl trivial ?_
 refine step_bin rfl rfl rfl rfl rfl trivial ?_
 refine step_nil ?_
 refine seqK_n ?_
 refine sem_cond rfl (fun h1 => ?_) (fun h1 => ?_)
 ·skip
  refine sem_seq ?_
  refine sem_region rfl ?_
  refine step_r rfl rfl trivial ?_
  refine step_nil ?_
  refine seqK_n ?_
  refine sem_ret ?_
  refine seqK_r ?_
  have hne : ¬ a.length = b.length := by
   have h := h1; simp at h; omega
  exact answersR rfl (by simp) (congrArg B (decide_eq_false (fun e => hne (by rw [e]))).symm) rfl
 ·have hlen : a.length = b.length := by
   have h := h1; simp at h; omega
  refine sem_skip ?_
  refine seqK_n ?_
  refine sem_seq ?_
  refine sem_seq ?_
  refine sem_region rfl ?_
  refine step_r rfl rfl trivial ?_
  refine step_nil ?_
  refine seqK_n ?_
  refine sem_block ?_
  refine sem_loop_of (fun k : Nat => (⟨[(0, .pv (.slc a.length a_f (a.flatMap encGActive))), (1, .pv (.slc b.length b_f (b.flatMap encGActive))), (5, I k)], [], 0, [], 26, 0⟩ : St)) (fun k : Nat => k ≤ a.length ∧ a.take k = b.take k) (fun k : Nat => a.length - k) 0 (⟨Nat.zero_le _, rfl⟩) (less_of rfl ⟨⟨rfl, rfl⟩, ⟨rfl, rfl⟩, ⟨rfl, rfl⟩, trivial⟩ trivial (fun _ _ => .inr (Nat.zero_le _))) (fun k hI => ?_)
  show Walks Try.prog _ _ (⟨[(0, .pv (.slc a.length a_f (a.flatMap encGActive))), (1, .pv (.slc b.length b_f (b.flatMap encGActive))), (5, I k)], [], 0, [], 26, 0⟩ : St)
  refine sem_seq ?_
  refine sem_seq ?_
  refine sem_region rfl ?_
  refine step_r rfl rfl trivial ?_
  refine step_r rfl rfl trivial ?_
  refine step_r rfl rfl trivial ?_
  refine step_bin rfl rfl rfl rfl rfl trivial ?_
  refine step_nil ?_
  refine seqK_n ?_
  refine sem_cond rfl (fun h3 => ?_) (fun h3 => ?_)
  ·have hk : k < a.length := by simpa using h3
   have hk2 : k < b.length := by omega
   obtain ⟨x, hx⟩ : ∃ x, a[k]? = some x := ⟨_, List.getElem?_eq_getElem hk⟩
   obtain ⟨y, hy⟩ : ∃ y, b[k]? = some y := ⟨_, List.getElem?_eq_getElem hk2⟩
   refine sem_skip ?_
   refine seqK_n ?_
   refine sem_seq ?_
   refine sem_block ?_
   refine sem_seq ?_
   refine sem_drawn rfl (by decide +kernel) rfl ?_
   refine step_r rfl rfl trivial ?_
   refine step_r rfl rfl trivial ?_
   refine step_idxS (k := k) rfl rfl rfl rfl hk (flat_ne (s := 6) (enc := encGActive) (fun _ => rfl) (by decide) hk) rfl ?_
   refine step_load_row rfl rfl rfl (flat_lt (s := 6) (enc := encGActive) (fun _ => rfl) hk) (flat_take (s := 6) (enc := encGActive) (fun _ => rfl) hx) rfl ?_
   refine step_r rfl rfl trivial ?_
   refine step_r rfl rfl trivial ?_
   refine step_idxS (k := k) rfl rfl rfl rfl hk2 (flat_ne (s := 6) (enc := encGActive) (fun _ => rfl) (by decide) hk2) rfl ?_
   refine step_load_row rfl rfl rfl (flat_lt (s := 6) (enc := encGActive) (fun _ => rfl) hk2) (flat_take (s := 6) (enc := encGActive) (fun _ => rfl) hy) rfl ?_
   refine step_neqA rfl rfl rfl (by kernel_rfl) rfl rfl rfl rfl rfl ?_
   refine step_nil ?_
   refine seqK_n ?_
   refine sem_cond rfl (fun h4 => ?_) (fun h4 => ?_)
   ·have hne : x ≠ y := by
     intro e; subst e; simp at h4
    refine sem_seq ?_
    refine sem_region rfl ?_
    refine step_r rfl rfl trivial ?_
    refine step_nil ?_
    refine seqK_n ?_
    refine sem_ret ?_
    refine blkK_r ?_
    refine seqK_r ?_
    refine lupK_r ?_
    refine blkK_r ?_
    refine seqK_r ?_
    exact answersR rfl (by simp) (congrArg B (decide_eq_false (same_no hx hy hne)).symm) rfl
   ·have hxy : x = y := by
     have h := h4
     simp at h
     rcases x with ⟨⟩; rcases y with ⟨⟩; simp_all
    refine sem_skip ?_
    refine blkK_n ?_
    refine seqK_n ?_
    refine sem_region rfl ?_
    refine step_r rfl rfl trivial ?_
    refine step_bin rfl rfl rfl rfl rfl trivial ?_
    refine step_r rfl rfl trivial ?_
    refine step_nil ?_
    exact lup_again (k+1) (⟨hk, by rw [take_snoc hx, take_snoc hy, hI.2, hxy]⟩) (by omega) (less_of rfl ⟨⟨rfl, rfl⟩, ⟨rfl, rfl⟩, ⟨congrArg (fun n => some (I n)) (wrapK hk hl_a), rfl⟩, trivial⟩ trivial (fun _ _ => .inr (Nat.zero_le _)))
  ·have hk : k = a.length := by have := of_decide_eq_false h3; have := hI.1; omega
   refine sem_exit ?_
   refine seqK_e ?_
   refine lupK_e ?_
   refine blkK_t rfl ?_
   refine seqK_n ?_
   refine sem_seq ?_
   refine sem_region rfl ?_
   refine step_r rfl rfl trivial ?_
   refine step_nil ?_
   refine seqK_n ?_
   refine sem_ret ?_
   exact answersR rfl (by simp) (congrArg B (decide_eq_true (same_all hI.2 hk hlen)).symm) rfl

def known15 (a : GAura) : GContent :=
  (⟨[], [a], [], (⟨1, 1, [false]⟩ : GGrid), (⟨0, 0⟩ : GPos), (⟨0, 0⟩ : GPos)⟩ : GContent)
theorem known15_ok (a : GAura) : Ok Try.prog 20 [aGAura a] [] (aGContent (known15 a)) [] [] := by
 refine ok_of_sem Try.func20 rfl ?_
 show Walks Try.prog _ _ ⟨[(0, aGAura a)], [], 0, [], 8, 0⟩
 refine sem_seq ?_
 refine sem_region rfl ?_
 refine step_n (o := .box [_, _, _, _, _, _, _]) (nx' := 1) rfl rfl rfl trivial ?_
 refine step_n (o := .box [_, _, _, _, _, _, _, _, _, _]) (nx' := 2) rfl rfl rfl trivial ?_
 refine step_nil ?_
 refine seqK_n ?_
 refine sem_seq ?_
 refine sem_region rfl ?_
 refine step_r (v := (.agg [_, _, _, _, _, _, _])) rfl rfl (Nat.le_of_ble_eq_true rfl) ?_
 refine step_n (o := .row _ _ [_, _, _, _, _, _, _]) (nx' := 3) rfl rfl rfl (by decide) ?_
 refine step_n (o := .row _ _ [_]) (nx' := 4) rfl rfl rfl (by decide) ?_
 refine step_r (v := (.agg [_, _, _])) rfl rfl trivial ?_
 refine step_r (v := (.agg [_, _, _, _, _, _, _, _, _, _])) rfl rfl trivial ?_
 refine step_store (H' := [(3, .row _ _ _), (2, .row _ _ _), (1, .box [_, _, _, _, _, _, _, _, _, _]), (0, .box [_, _, _, _, _, _, _])]) rfl rfl rfl rfl rfl rfl (Nat.le_of_ble_eq_true rfl) (.inl rfl) rfl ?_
 refine step_nil ?_
 refine seqK_n ?_
 refine sem_trans (Trans.freezeJ (T' := [(2, .ptr 1 0)]) (H' := [(1, .box [.pv (.slc 0 false []), .pv (.slc ([a]).length false ([a].flatMap encGAura)), .pv (.slc 0 false []), I 1, I 1, .pv (.slc ([false]).length false (encB [false])), I 0, I 0, I 0, I 0]), (0, .box [I a.Id, I a.Kind, I a.Ticks, I a.Every, I a.Stacks, I a.Amount, B a.Harm])]) [2, 3] (by decide) ⟨⟨_, _, rfl, rfl, (by (repeat' apply And.intro) <;> first | trivial | rfl | exact flat_len (fun _ => rfl) _ | exact encI_len _ | exact encB_len _ | exact encY_len _ | exact Nat.le_of_ble_eq_true rfl | assumption)⟩, trivial⟩ ⟨⟨rfl, _, _, rfl, rfl, (by (repeat' apply And.intro) <;> first | trivial | rfl | exact flat_len (fun _ => rfl) _ | exact encI_len _ | exact encB_len _ | exact encY_len _ | exact Nat.le_of_ble_eq_true rfl | assumption)⟩, ⟨rfl, _, _, rfl, rfl, (by (repeat' apply And.intro) <;> first | trivial | rfl | exact flat_len (fun _ => rfl) _ | exact encI_len _ | exact encB_len _ | exact encY_len _ | exact Nat.le_of_ble_eq_true rfl | assumption)⟩, trivial⟩) ?_
 refine sem_trans (Trans.loose (T' := [(2, .ptr 1 0)]) (H' := [(1, .box [.pv (.slc 0 false []), .pv (.slc ([a]).length false ([a].flatMap encGAura)), .pv (.slc 0 false []), I 1, I 1, .pv (.slc ([false]).length false (encB [false])), I 0, I 0, I 0, I 0])]) ⟨⟨_, rfl, .inl rfl⟩, trivial⟩ ⟨⟨_, rfl, .inr rfl⟩, trivial⟩) ?_
 refine sem_ret ?_
 have e1 : known15 a = (⟨[], [a], [], (⟨1, 1, [false]⟩ : GGrid), (⟨0, 0⟩ : GPos), (⟨0, 0⟩ : GPos)⟩ : GContent) := by
  unfold known15
  try dsimp only
  all_goals rfl
 rw [e1]
 exact answersR rfl ⟨Nat.le_of_ble_eq_true rfl, trivial⟩ (rfl) rfl

def small15 : Bool :=
  if ((apply15 (known15 (⟨1, 1, 5, 2, 2, 3, true⟩ : GAura)) ([]) 1 7 10).2 : Int) = 0 then (if ((apply15 (known15 (⟨1, 1, 5, 2, 2, 3, true⟩ : GAura)) ([]) 1 7 10).1) = ([(⟨1, 7, 1, 15, 12, 0⟩ : GActive)]) then (if ((apply15 (known15 (⟨1, 1, 5, 2, 2, 3, true⟩ : GAura)) ((apply15 (known15 (⟨1, 1, 5, 2, 2, 3, true⟩ : GAura)) ([]) 1 7 10).1) 1 7 11).2 : Int) = 0 then (if ((apply15 (known15 (⟨1, 1, 5, 2, 2, 3, true⟩ : GAura)) ((apply15 (known15 (⟨1, 1, 5, 2, 2, 3, true⟩ : GAura)) ([]) 1 7 10).1) 1 7 11).1) = ([(⟨1, 7, 2, 16, 12, 0⟩ : GActive)]) then (if ((tick15 (known15 (⟨1, 1, 5, 2, 2, 3, true⟩ : GAura)) ((apply15 (known15 (⟨1, 1, 5, 2, 2, 3, true⟩ : GAura)) ((apply15 (known15 (⟨1, 1, 5, 2, 2, 3, true⟩ : GAura)) ([]) 1 7 10).1) 1 7 11).1) 12).2) = ((apply15 (known15 (⟨1, 1, 5, 2, 2, 3, true⟩ : GAura)) ((apply15 (known15 (⟨1, 1, 5, 2, 2, 3, true⟩ : GAura)) ([]) 1 7 10).1) 1 7 11).1) then (if ((tick15 (known15 (⟨1, 1, 5, 2, 2, 3, true⟩ : GAura)) ((apply15 (known15 (⟨1, 1, 5, 2, 2, 3, true⟩ : GAura)) ((apply15 (known15 (⟨1, 1, 5, 2, 2, 3, true⟩ : GAura)) ([]) 1 7 10).1) 1 7 11).1) 12).1.length : Int) = 1 then (if ((((tick15 (known15 (⟨1, 1, 5, 2, 2, 3, true⟩ : GAura)) ((apply15 (known15 (⟨1, 1, 5, 2, 2, 3, true⟩ : GAura)) ((apply15 (known15 (⟨1, 1, 5, 2, 2, 3, true⟩ : GAura)) ([]) 1 7 10).1) 1 7 11).1) 12).1).getD 0 default).Next : Int) = 14 then (if ((expire15 ((tick15 (known15 (⟨1, 1, 5, 2, 2, 3, true⟩ : GAura)) ((apply15 (known15 (⟨1, 1, 5, 2, 2, 3, true⟩ : GAura)) ((apply15 (known15 (⟨1, 1, 5, 2, 2, 3, true⟩ : GAura)) ([]) 1 7 10).1) 1 7 11).1) 12).1) 16).1.length : Int) = 0 then (if ((expire15 ((tick15 (known15 (⟨1, 1, 5, 2, 2, 3, true⟩ : GAura)) ((apply15 (known15 (⟨1, 1, 5, 2, 2, 3, true⟩ : GAura)) ((apply15 (known15 (⟨1, 1, 5, 2, 2, 3, true⟩ : GAura)) ([]) 1 7 10).1) 1 7 11).1) 12).1) 16).2.length : Int) = 1 then (if ((dispel15 (known15 (⟨1, 1, 5, 2, 2, 3, true⟩ : GAura)) ((apply15 (known15 (⟨1, 1, 5, 2, 2, 3, true⟩ : GAura)) ((apply15 (known15 (⟨1, 1, 5, 2, 2, 3, true⟩ : GAura)) ([]) 1 7 10).1) 1 7 11).1) 1).1.length : Int) = 0 then (if ((dispel15 (known15 (⟨1, 1, 5, 2, 2, 3, true⟩ : GAura)) ((apply15 (known15 (⟨1, 1, 5, 2, 2, 3, true⟩ : GAura)) ((apply15 (known15 (⟨1, 1, 5, 2, 2, 3, true⟩ : GAura)) ([]) 1 7 10).1) 1 7 11).1) 1).2.length : Int) = 1 then (if right15 (known15 (⟨1, 1, 5, 2, 2, 3, true⟩ : GAura)) ((apply15 (known15 (⟨1, 1, 5, 2, 2, 3, true⟩ : GAura)) ((apply15 (known15 (⟨1, 1, 5, 2, 2, 3, true⟩ : GAura)) ([]) 1 7 10).1) 1 7 11).1) = true then ((sum15 (known15 (⟨1, 1, 5, 2, 2, 3, true⟩ : GAura)) ((apply15 (known15 (⟨1, 1, 5, 2, 2, 3, true⟩ : GAura)) ((apply15 (known15 (⟨1, 1, 5, 2, 2, 3, true⟩ : GAura)) ([]) 1 7 10).1) 1 7 11).1) 1 : Int) == 6) else false) else false) else false) else false) else false) else false) else false) else false) else false) else false) else false) else false
theorem small15_ok  : Ok Try.prog 7 [] [] (B (small15)) [] [] := by
 refine ok_of_sem Try.func7 rfl ?_
 show Walks Try.prog _ _ ⟨[], [], 0, [], 108, 0⟩
 refine sem_seq ?_
 refine sem_region rfl ?_
 refine step_r rfl rfl trivial ?_
 refine step_nil ?_
 refine seqK_n ?_
 refine sem_seq ?_
 refine sem_region rfl ?_
 refine step_r (v := (.agg [_, _, _, _, _, _, _])) rfl rfl trivial ?_
 refine step_call rfl rfl rfl rfl (known15_ok (⟨1, 1, 5, 2, 2, 3, true⟩ : GAura)) rfl rfl rfl ?_
 refine step_n (o := .box [_, _, _, _, _, _, _, _, _, _]) (nx' := 1) rfl rfl rfl trivial ?_
 refine step_store (H' := [(0, .box [_, _, _, _, _, _, _, _, _, _])]) rfl rfl rfl rfl rfl rfl (Nat.le_of_ble_eq_true rfl) (.inl rfl) rfl ?_
 refine step_nil ?_
 refine seqK_n ?_
 refine sem_seq ?_
 refine sem_region rfl ?_
 refine step_r (v := (.agg [_, _, _, _, _, _, _, _, _, _])) rfl rfl (Nat.le_of_ble_eq_true rfl) ?_
 refine step_callN (out' := .tup [.ref 1 _ _ _, _]) (H' := [(1, .row _ _ _), (0, .box [_, _, _, _, _, _, _, _, _, _])]) (nx' := 2) rfl rfl rfl rfl rfl rfl rfl (by (repeat' apply And.intro) <;> first | trivial | rfl | exact flat_len (fun _ => rfl) _ | exact encI_len _ | exact encB_len _ | exact encY_len _ | exact Nat.le_of_ble_eq_true rfl | assumption) (apply15_ok (known15 (⟨1, 1, 5, 2, 2, 3, true⟩ : GAura)) ([]) false 1 7 10 (by first | assumption | omega | (simp only [List.length_nil, List.length_cons, List.length_append] at *; omega) | (simp; done) | (simp; omega))) rfl rfl rfl rfl ?_
 have p1 := apply15_len (known15 (⟨1, 1, 5, 2, 2, 3, true⟩ : GAura)) ([]) 1 7 10
 refine step_r rfl rfl trivial ?_
 refine step_r rfl rfl trivial ?_
 refine step_r rfl rfl trivial ?_
 refine step_r rfl rfl trivial ?_
 refine step_r rfl rfl trivial ?_
 refine step_nil ?_
 refine seqK_n ?_
 refine sem_seq ?_
 refine sem_region rfl ?_
 refine step_r (v := (.agg [_, _, _, _, _, _, _, _, _, _])) rfl rfl (Nat.le_of_ble_eq_true rfl) ?_
 refine step_r rfl rfl trivial ?_
 refine step_callJ (Hin := [.row _ _ _]) (out' := .tup [.ref 2 _ _ _, _]) (H' := [(2, .row _ _ _), (1, .row _ _ _), (0, .box [_, _, _, _, _, _, _, _, _, _])]) (nx' := 3) [1] rfl rfl rfl rfl rfl rfl rfl rfl rfl (by (repeat' apply And.intro) <;> first | trivial | rfl | exact flat_len (s := 6) (enc := encGActive) (fun _ => rfl) _ | exact flat_len (fun _ => rfl) _ | exact encI_len _ | exact encB_len _ | exact encY_len _ | exact Nat.le_of_ble_eq_true rfl | assumption) (apply15_ok (known15 (⟨1, 1, 5, 2, 2, 3, true⟩ : GAura)) ((apply15 (known15 (⟨1, 1, 5, 2, 2, 3, true⟩ : GAura)) ([]) 1 7 10).1) false 1 7 11 (by first | assumption | omega | (simp only [List.length_nil, List.length_cons, List.length_append] at *; omega) | (simp; done) | (simp; omega))) rfl (by decide) rfl rfl ⟨encGActive_solid, trivial⟩ rfl rfl rfl rfl ?_
 have p3 := apply15_len (known15 (⟨1, 1, 5, 2, 2, 3, true⟩ : GAura)) ((apply15 (known15 (⟨1, 1, 5, 2, 2, 3, true⟩ : GAura)) ([]) 1 7 10).1) 1 7 11
 refine step_r rfl rfl trivial ?_
 refine step_r rfl rfl trivial ?_
 refine step_r rfl rfl trivial ?_
 refine step_r rfl rfl trivial ?_
 refine step_r rfl rfl trivial ?_
 refine step_nil ?_
 refine seqK_n ?_
 refine sem_seq ?_
 refine sem_region rfl ?_
 refine step_r (v := (.agg [_, _, _, _, _, _, _, _, _, _])) rfl rfl (Nat.le_of_ble_eq_true rfl) ?_
 refine step_r rfl rfl trivial ?_
 refine step_callJ (Hin := [.row _ _ _]) (out' := .tup [.ref 3 _ _ _, .ref 4 _ _ _]) (H' := [(3, .row _ _ _), (4, .row _ _ _), (2, .row _ _ _), (1, .row _ _ _), (0, .box [_, _, _, _, _, _, _, _, _, _])]) (nx' := 5) [2] rfl rfl rfl rfl rfl rfl rfl rfl rfl (by (repeat' apply And.intro) <;> first | trivial | rfl | exact flat_len (s := 6) (enc := encGActive) (fun _ => rfl) _ | exact flat_len (fun _ => rfl) _ | exact encI_len _ | exact encB_len _ | exact encY_len _ | exact Nat.le_of_ble_eq_true rfl | assumption) (tick15_ok (known15 (⟨1, 1, 5, 2, 2, 3, true⟩ : GAura)) ((apply15 (known15 (⟨1, 1, 5, 2, 2, 3, true⟩ : GAura)) ((apply15 (known15 (⟨1, 1, 5, 2, 2, 3, true⟩ : GAura)) ([]) 1 7 10).1) 1 7 11).1) false 12 (by first | assumption | omega | (simp only [List.length_nil, List.length_cons, List.length_append] at *; omega) | (simp; done) | (simp; omega))) rfl (by decide) rfl rfl ⟨encGActive_solid, encGActive_solid, trivial⟩ rfl rfl rfl rfl ?_
 have p5 := tick15_len (known15 (⟨1, 1, 5, 2, 2, 3, true⟩ : GAura)) ((apply15 (known15 (⟨1, 1, 5, 2, 2, 3, true⟩ : GAura)) ((apply15 (known15 (⟨1, 1, 5, 2, 2, 3, true⟩ : GAura)) ([]) 1 7 10).1) 1 7 11).1) 12
 refine step_r rfl rfl trivial ?_
 refine step_r rfl rfl trivial ?_
 refine step_r rfl rfl trivial ?_
 refine step_r rfl rfl trivial ?_
 refine step_r rfl rfl trivial ?_
 refine step_nil ?_
 refine seqK_n ?_
 refine sem_seq ?_
 refine sem_region rfl ?_
 refine step_r rfl rfl trivial ?_
 refine step_callJ (Hin := [.row _ _ _]) (out' := .tup [.ref 5 _ _ _, .ref 6 _ _ _]) (H' := [(5, .row _ _ _), (6, .row _ _ _), (3, .row _ _ _), (4, .row _ _ _), (2, .row _ _ _), (1, .row _ _ _), (0, .box [_, _, _, _, _, _, _, _, _, _])]) (nx' := 7) [3] rfl rfl rfl rfl rfl rfl rfl rfl rfl (by (repeat' apply And.intro) <;> first | trivial | rfl | exact flat_len (s := 6) (enc := encGActive) (fun _ => rfl) _ | exact flat_len (fun _ => rfl) _ | exact encI_len _ | exact encB_len _ | exact encY_len _ | exact Nat.le_of_ble_eq_true rfl | assumption) (expire15_ok ((tick15 (known15 (⟨1, 1, 5, 2, 2, 3, true⟩ : GAura)) ((apply15 (known15 (⟨1, 1, 5, 2, 2, 3, true⟩ : GAura)) ((apply15 (known15 (⟨1, 1, 5, 2, 2, 3, true⟩ : GAura)) ([]) 1 7 10).1) 1 7 11).1) 12).1) false 16 (by first | assumption | omega | (simp only [List.length_nil, List.length_cons, List.length_append] at *; omega) | (simp; done) | (simp; omega))) rfl (by decide) rfl rfl ⟨encGActive_solid, encGActive_solid, trivial⟩ rfl rfl rfl rfl ?_
 have p6 := expire15_len ((tick15 (known15 (⟨1, 1, 5, 2, 2, 3, true⟩ : GAura)) ((apply15 (known15 (⟨1, 1, 5, 2, 2, 3, true⟩ : GAura)) ((apply15 (known15 (⟨1, 1, 5, 2, 2, 3, true⟩ : GAura)) ([]) 1 7 10).1) 1 7 11).1) 12).1) 16
 refine step_r rfl rfl trivial ?_
 refine step_r rfl rfl trivial ?_
 refine step_r rfl rfl trivial ?_
 refine step_r rfl rfl trivial ?_
 refine step_r rfl rfl trivial ?_
 refine step_nil ?_
 refine seqK_n ?_
 refine sem_seq ?_
 refine sem_region rfl ?_
 refine step_r (v := (.agg [_, _, _, _, _, _, _, _, _, _])) rfl rfl (Nat.le_of_ble_eq_true rfl) ?_
 refine step_r rfl rfl trivial ?_
 refine step_callJ (Hin := [.row _ _ _]) (out' := .tup [.ref 7 _ _ _, .ref 8 _ _ _]) (H' := [(7, .row _ _ _), (8, .row _ _ _), (5, .row _ _ _), (6, .row _ _ _), (3, .row _ _ _), (4, .row _ _ _), (2, .row _ _ _), (1, .row _ _ _), (0, .box [_, _, _, _, _, _, _, _, _, _])]) (nx' := 9) [2] rfl rfl rfl rfl rfl rfl rfl rfl rfl (by (repeat' apply And.intro) <;> first | trivial | rfl | exact flat_len (s := 6) (enc := encGActive) (fun _ => rfl) _ | exact flat_len (fun _ => rfl) _ | exact encI_len _ | exact encB_len _ | exact encY_len _ | exact Nat.le_of_ble_eq_true rfl | assumption) (dispel15_ok (known15 (⟨1, 1, 5, 2, 2, 3, true⟩ : GAura)) ((apply15 (known15 (⟨1, 1, 5, 2, 2, 3, true⟩ : GAura)) ((apply15 (known15 (⟨1, 1, 5, 2, 2, 3, true⟩ : GAura)) ([]) 1 7 10).1) 1 7 11).1) false 1 (by first | assumption | omega | (simp only [List.length_nil, List.length_cons, List.length_append] at *; omega) | (simp; done) | (simp; omega))) rfl (by decide) rfl rfl ⟨encGActive_solid, encGActive_solid, trivial⟩ rfl rfl rfl rfl ?_
 have p7 := dispel15_len (known15 (⟨1, 1, 5, 2, 2, 3, true⟩ : GAura)) ((apply15 (known15 (⟨1, 1, 5, 2, 2, 3, true⟩ : GAura)) ((apply15 (known15 (⟨1, 1, 5, 2, 2, 3, true⟩ : GAura)) ([]) 1 7 10).1) 1 7 11).1) 1
 refine step_r rfl rfl trivial ?_
 refine step_r rfl rfl trivial ?_
 refine step_r rfl rfl trivial ?_
 refine step_r rfl rfl trivial ?_
 refine step_r rfl rfl trivial ?_
 refine step_nil ?_
 refine seqK_n ?_
 refine sem_seq ?_
 refine sem_region rfl ?_
 refine step_r rfl rfl trivial ?_
 refine step_bin rfl rfl rfl rfl rfl trivial ?_
 refine step_r rfl rfl trivial ?_
 refine step_gs rfl (fun h9 => ?_) (fun h9 => ?_)
 ·have g9 : ((apply15 (known15 (⟨1, 1, 5, 2, 2, 3, true⟩ : GAura)) ([]) 1 7 10).2 : Int) = 0 := beq_t h9
  refine step_g1 rfl h9 ?_
  refine step_r rfl rfl trivial ?_
  refine step_g1 rfl h9 ?_
  refine step_r (v := (.agg [_, _, _, _, _, _])) rfl rfl trivial ?_
  refine step_g1 rfl h9 ?_
  refine step_n (o := .row _ _ [_, _, _, _, _, _]) (nx' := 10) rfl rfl rfl (by decide) ?_
  refine step_g1 rfl h9 ?_
  refine step_callJ (Hin := [.row _ _ _, .row _ _ _]) (H' := [(9, .row _ _ _), (7, .row _ _ _), (8, .row _ _ _), (5, .row _ _ _), (6, .row _ _ _), (3, .row _ _ _), (4, .row _ _ _), (2, .row _ _ _), (1, .row _ _ _), (0, .box [_, _, _, _, _, _, _, _, _, _])]) (nx' := 10) [1, 9] rfl rfl rfl rfl rfl rfl rfl rfl rfl (by (repeat' apply And.intro) <;> first | trivial | rfl | exact flat_len (s := 6) (enc := encGActive) (fun _ => rfl) _ | exact flat_len (fun _ => rfl) _ | exact encI_len _ | exact encB_len _ | exact encY_len _ | exact Nat.le_of_ble_eq_true rfl | assumption) (sameL ((apply15 (known15 (⟨1, 1, 5, 2, 2, 3, true⟩ : GAura)) ([]) 1 7 10).1) false ([(⟨1, 7, 1, 15, 12, 0⟩ : GActive)]) false) rfl (by decide) rfl rfl trivial rfl rfl rfl rfl ?_
  refine step_pickT rfl h9 rfl rfl ?_
  refine step_r rfl rfl trivial ?_
  refine step_gs rfl (fun h11 => ?_) (fun h11 => ?_)
  ·have g11 : ((apply15 (known15 (⟨1, 1, 5, 2, 2, 3, true⟩ : GAura)) ([]) 1 7 10).1) = ([(⟨1, 7, 1, 15, 12, 0⟩ : GActive)]) := of_decide_eq_true h11
   refine step_g1 rfl h11 ?_
   refine step_r rfl rfl trivial ?_
   refine step_g1 rfl h11 ?_
   refine step_bin rfl rfl rfl rfl rfl trivial ?_
   refine step_pickT rfl h11 rfl rfl ?_
   refine step_r rfl rfl trivial ?_
   refine step_gs rfl (fun h13 => ?_) (fun h13 => ?_)
   ·have g13 : ((apply15 (known15 (⟨1, 1, 5, 2, 2, 3, true⟩ : GAura)) ((apply15 (known15 (⟨1, 1, 5, 2, 2, 3, true⟩ : GAura)) ([]) 1 7 10).1) 1 7 11).2 : Int) = 0 := beq_t h13
    refine step_g1 rfl h13 ?_
    refine step_r rfl rfl trivial ?_
    refine step_g1 rfl h13 ?_
    refine step_r (v := (.agg [_, _, _, _, _, _])) rfl rfl trivial ?_
    refine step_g1 rfl h13 ?_
    refine step_n (o := .row _ _ [_, _, _, _, _, _]) (nx' := 11) rfl rfl rfl (by decide) ?_
    refine step_g1 rfl h13 ?_
    refine step_callJ (Hin := [.row _ _ _, .row _ _ _]) (H' := [(10, .row _ _ _), (9, .row _ _ _), (7, .row _ _ _), (8, .row _ _ _), (5, .row _ _ _), (6, .row _ _ _), (3, .row _ _ _), (4, .row _ _ _), (2, .row _ _ _), (1, .row _ _ _), (0, .box [_, _, _, _, _, _, _, _, _, _])]) (nx' := 11) [2, 10] rfl rfl rfl rfl rfl rfl rfl rfl rfl (by (repeat' apply And.intro) <;> first | trivial | rfl | exact flat_len (s := 6) (enc := encGActive) (fun _ => rfl) _ | exact flat_len (fun _ => rfl) _ | exact encI_len _ | exact encB_len _ | exact encY_len _ | exact Nat.le_of_ble_eq_true rfl | assumption) (sameL ((apply15 (known15 (⟨1, 1, 5, 2, 2, 3, true⟩ : GAura)) ((apply15 (known15 (⟨1, 1, 5, 2, 2, 3, true⟩ : GAura)) ([]) 1 7 10).1) 1 7 11).1) false ([(⟨1, 7, 2, 16, 12, 0⟩ : GActive)]) false) rfl (by decide) rfl rfl trivial rfl rfl rfl rfl ?_
    refine step_pickT rfl h13 rfl rfl ?_
    refine step_r rfl rfl trivial ?_
    refine step_gs rfl (fun h15 => ?_) (fun h15 => ?_)
    ·have g15 : ((apply15 (known15 (⟨1, 1, 5, 2, 2, 3, true⟩ : GAura)) ((apply15 (known15 (⟨1, 1, 5, 2, 2, 3, true⟩ : GAura)) ([]) 1 7 10).1) 1 7 11).1) = ([(⟨1, 7, 2, 16, 12, 0⟩ : GActive)]) := of_decide_eq_true h15
     refine step_g1 rfl h15 ?_
     refine step_r rfl rfl trivial ?_
     refine step_g1 rfl h15 ?_
     refine step_r rfl rfl trivial ?_
     refine step_g1 rfl h15 ?_
     refine step_callJ (Hin := [.row _ _ _, .row _ _ _]) (H' := [(10, .row _ _ _), (9, .row _ _ _), (7, .row _ _ _), (8, .row _ _ _), (5, .row _ _ _), (6, .row _ _ _), (3, .row _ _ _), (4, .row _ _ _), (2, .row _ _ _), (1, .row _ _ _), (0, .box [_, _, _, _, _, _, _, _, _, _])]) (nx' := 11) [4, 2] rfl rfl rfl rfl rfl rfl rfl rfl rfl (by (repeat' apply And.intro) <;> first | trivial | rfl | exact flat_len (s := 6) (enc := encGActive) (fun _ => rfl) _ | exact flat_len (fun _ => rfl) _ | exact encI_len _ | exact encB_len _ | exact encY_len _ | exact Nat.le_of_ble_eq_true rfl | assumption) (sameL ((tick15 (known15 (⟨1, 1, 5, 2, 2, 3, true⟩ : GAura)) ((apply15 (known15 (⟨1, 1, 5, 2, 2, 3, true⟩ : GAura)) ((apply15 (known15 (⟨1, 1, 5, 2, 2, 3, true⟩ : GAura)) ([]) 1 7 10).1) 1 7 11).1) 12).2) false ((apply15 (known15 (⟨1, 1, 5, 2, 2, 3, true⟩ : GAura)) ((apply15 (known15 (⟨1, 1, 5, 2, 2, 3, true⟩ : GAura)) ([]) 1 7 10).1) 1 7 11).1) false) rfl (by decide) rfl rfl trivial rfl rfl rfl rfl ?_
     refine step_pickT rfl h15 rfl rfl ?_
     refine step_r rfl rfl trivial ?_
     refine step_gs rfl (fun h17 => ?_) (fun h17 => ?_)
     ·have g17 : ((tick15 (known15 (⟨1, 1, 5, 2, 2, 3, true⟩ : GAura)) ((apply15 (known15 (⟨1, 1, 5, 2, 2, 3, true⟩ : GAura)) ((apply15 (known15 (⟨1, 1, 5, 2, 2, 3, true⟩ : GAura)) ([]) 1 7 10).1) 1 7 11).1) 12).2) = ((apply15 (known15 (⟨1, 1, 5, 2, 2, 3, true⟩ : GAura)) ((apply15 (known15 (⟨1, 1, 5, 2, 2, 3, true⟩ : GAura)) ([]) 1 7 10).1) 1 7 11).1) := of_decide_eq_true h17
      refine step_g1 rfl h17 ?_
      refine step_r rfl rfl trivial ?_
      refine step_g1 rfl h17 ?_
      refine step_r rfl rfl trivial ?_
      refine step_g1 rfl h17 ?_
      refine step_bin rfl rfl rfl rfl rfl trivial ?_
      refine step_pickT rfl h17 rfl rfl ?_
      refine step_r rfl rfl trivial ?_
      refine step_gs rfl (fun h19 => ?_) (fun h19 => ?_)
      ·have g19 : ((tick15 (known15 (⟨1, 1, 5, 2, 2, 3, true⟩ : GAura)) ((apply15 (known15 (⟨1, 1, 5, 2, 2, 3, true⟩ : GAura)) ((apply15 (known15 (⟨1, 1, 5, 2, 2, 3, true⟩ : GAura)) ([]) 1 7 10).1) 1 7 11).1) 12).1.length : Int) = 1 := beq_t h19
       refine step_g1 rfl h19 ?_
       refine step_r rfl rfl trivial ?_
       refine step_g1 rfl h19 ?_
       have jk20 : 0 < ((tick15 (known15 (⟨1, 1, 5, 2, 2, 3, true⟩ : GAura)) ((apply15 (known15 (⟨1, 1, 5, 2, 2, 3, true⟩ : GAura)) ((apply15 (known15 (⟨1, 1, 5, 2, 2, 3, true⟩ : GAura)) ([]) 1 7 10).1) 1 7 11).1) 12).1).length := by first | assumption | omega | (simp only [List.length_set, List.length_append]; omega) | (simp only [IntKind.wrap_i64] at *; omega) | (simp; omega) | simp_all
       refine step_idxR (k := 0) rfl rfl rfl rfl jk20 rfl ?_
       refine step_g1 rfl h19 ?_
       refine step_r rfl rfl (by decide) ?_
       refine step_g1 rfl h19 ?_
       refine step_load_oneR rfl rfl rfl rfl (flat_get (s := 6) (enc := encGActive) (fun _ => rfl) (get_getD jk20) (o := 4) rfl (by decide)) rfl ?_
       refine step_g1 rfl h19 ?_
       refine step_bin rfl rfl rfl rfl rfl trivial ?_
       refine step_pickT rfl h19 rfl rfl ?_
       refine step_r rfl rfl trivial ?_
       refine step_gs rfl (fun h22 => ?_) (fun h22 => ?_)
       ·have g22 : ((((tick15 (known15 (⟨1, 1, 5, 2, 2, 3, true⟩ : GAura)) ((apply15 (known15 (⟨1, 1, 5, 2, 2, 3, true⟩ : GAura)) ((apply15 (known15 (⟨1, 1, 5, 2, 2, 3, true⟩ : GAura)) ([]) 1 7 10).1) 1 7 11).1) 12).1).getD 0 default).Next : Int) = 14 := beq_t h22
        refine step_g1 rfl h22 ?_
        refine step_r rfl rfl trivial ?_
        refine step_g1 rfl h22 ?_
        refine step_r rfl rfl trivial ?_
        refine step_g1 rfl h22 ?_
        refine step_bin rfl rfl rfl rfl rfl trivial ?_
        refine step_pickT rfl h22 rfl rfl ?_
        refine step_r rfl rfl trivial ?_
        refine step_gs rfl (fun h24 => ?_) (fun h24 => ?_)
        ·have g24 : ((expire15 ((tick15 (known15 (⟨1, 1, 5, 2, 2, 3, true⟩ : GAura)) ((apply15 (known15 (⟨1, 1, 5, 2, 2, 3, true⟩ : GAura)) ((apply15 (known15 (⟨1, 1, 5, 2, 2, 3, true⟩ : GAura)) ([]) 1 7 10).1) 1 7 11).1) 12).1) 16).1.length : Int) = 0 := beq_t h24
         refine step_g1 rfl h24 ?_
         refine step_r rfl rfl trivial ?_
         refine step_g1 rfl h24 ?_
         refine step_r rfl rfl trivial ?_
         refine step_g1 rfl h24 ?_
         refine step_bin rfl rfl rfl rfl rfl trivial ?_
         refine step_pickT rfl h24 rfl rfl ?_
         refine step_r rfl rfl trivial ?_
         refine step_gs rfl (fun h26 => ?_) (fun h26 => ?_)
         ·have g26 : ((expire15 ((tick15 (known15 (⟨1, 1, 5, 2, 2, 3, true⟩ : GAura)) ((apply15 (known15 (⟨1, 1, 5, 2, 2, 3, true⟩ : GAura)) ((apply15 (known15 (⟨1, 1, 5, 2, 2, 3, true⟩ : GAura)) ([]) 1 7 10).1) 1 7 11).1) 12).1) 16).2.length : Int) = 1 := beq_t h26
          refine step_g1 rfl h26 ?_
          refine step_r rfl rfl trivial ?_
          refine step_g1 rfl h26 ?_
          refine step_r rfl rfl trivial ?_
          refine step_g1 rfl h26 ?_
          refine step_bin rfl rfl rfl rfl rfl trivial ?_
          refine step_pickT rfl h26 rfl rfl ?_
          refine step_r rfl rfl trivial ?_
          refine step_gs rfl (fun h28 => ?_) (fun h28 => ?_)
          ·have g28 : ((dispel15 (known15 (⟨1, 1, 5, 2, 2, 3, true⟩ : GAura)) ((apply15 (known15 (⟨1, 1, 5, 2, 2, 3, true⟩ : GAura)) ((apply15 (known15 (⟨1, 1, 5, 2, 2, 3, true⟩ : GAura)) ([]) 1 7 10).1) 1 7 11).1) 1).1.length : Int) = 0 := beq_t h28
           refine step_g1 rfl h28 ?_
           refine step_r rfl rfl trivial ?_
           refine step_g1 rfl h28 ?_
           refine step_r rfl rfl trivial ?_
           refine step_g1 rfl h28 ?_
           refine step_bin rfl rfl rfl rfl rfl trivial ?_
           refine step_pickT rfl h28 rfl rfl ?_
           refine step_r rfl rfl trivial ?_
           refine step_gs rfl (fun h30 => ?_) (fun h30 => ?_)
           ·have g30 : ((dispel15 (known15 (⟨1, 1, 5, 2, 2, 3, true⟩ : GAura)) ((apply15 (known15 (⟨1, 1, 5, 2, 2, 3, true⟩ : GAura)) ((apply15 (known15 (⟨1, 1, 5, 2, 2, 3, true⟩ : GAura)) ([]) 1 7 10).1) 1 7 11).1) 1).2.length : Int) = 1 := beq_t h30
            refine step_g1 rfl h30 ?_
            refine step_r (v := (.agg [_, _, _, _, _, _, _, _, _, _])) rfl rfl (Nat.le_of_ble_eq_true rfl) ?_
            refine step_g1 rfl h30 ?_
            refine step_r rfl rfl trivial ?_
            refine step_g1 rfl h30 ?_
            refine step_callJ (Hin := [.row _ _ _]) (H' := [(10, .row _ _ _), (9, .row _ _ _), (7, .row _ _ _), (8, .row _ _ _), (5, .row _ _ _), (6, .row _ _ _), (3, .row _ _ _), (4, .row _ _ _), (2, .row _ _ _), (1, .row _ _ _), (0, .box [_, _, _, _, _, _, _, _, _, _])]) (nx' := 11) [2] rfl rfl rfl rfl rfl rfl rfl rfl rfl (by (repeat' apply And.intro) <;> first | trivial | rfl | exact flat_len (s := 6) (enc := encGActive) (fun _ => rfl) _ | exact flat_len (fun _ => rfl) _ | exact encI_len _ | exact encB_len _ | exact encY_len _ | exact Nat.le_of_ble_eq_true rfl | assumption) (right15_ok (known15 (⟨1, 1, 5, 2, 2, 3, true⟩ : GAura)) ((apply15 (known15 (⟨1, 1, 5, 2, 2, 3, true⟩ : GAura)) ((apply15 (known15 (⟨1, 1, 5, 2, 2, 3, true⟩ : GAura)) ([]) 1 7 10).1) 1 7 11).1) false (by first | assumption | exact few_small (by decide +kernel))) rfl (by decide) rfl rfl trivial rfl rfl rfl rfl ?_
            refine step_pickT rfl h30 rfl rfl ?_
            refine step_r rfl rfl trivial ?_
            refine step_gs rfl (fun h32 => ?_) (fun h32 => ?_)
            ·have g32 : right15 (known15 (⟨1, 1, 5, 2, 2, 3, true⟩ : GAura)) ((apply15 (known15 (⟨1, 1, 5, 2, 2, 3, true⟩ : GAura)) ((apply15 (known15 (⟨1, 1, 5, 2, 2, 3, true⟩ : GAura)) ([]) 1 7 10).1) 1 7 11).1) = true := h32
             refine step_g1 rfl h32 ?_
             refine step_r (v := (.agg [_, _, _, _, _, _, _, _, _, _])) rfl rfl (Nat.le_of_ble_eq_true rfl) ?_
             refine step_g1 rfl h32 ?_
             refine step_r rfl rfl trivial ?_
             refine step_g1 rfl h32 ?_
             refine step_callJ (Hin := [.row _ _ _]) (H' := [(10, .row _ _ _), (9, .row _ _ _), (7, .row _ _ _), (8, .row _ _ _), (5, .row _ _ _), (6, .row _ _ _), (3, .row _ _ _), (4, .row _ _ _), (2, .row _ _ _), (1, .row _ _ _), (0, .box [_, _, _, _, _, _, _, _, _, _])]) (nx' := 11) [2] rfl rfl rfl rfl rfl rfl rfl rfl rfl (by (repeat' apply And.intro) <;> first | trivial | rfl | exact flat_len (s := 6) (enc := encGActive) (fun _ => rfl) _ | exact flat_len (fun _ => rfl) _ | exact encI_len _ | exact encB_len _ | exact encY_len _ | exact Nat.le_of_ble_eq_true rfl | assumption) (sum15_ok (known15 (⟨1, 1, 5, 2, 2, 3, true⟩ : GAura)) ((apply15 (known15 (⟨1, 1, 5, 2, 2, 3, true⟩ : GAura)) ((apply15 (known15 (⟨1, 1, 5, 2, 2, 3, true⟩ : GAura)) ([]) 1 7 10).1) 1 7 11).1) false 1) rfl (by decide) rfl rfl trivial rfl rfl rfl rfl ?_
             refine step_g1 rfl h32 ?_
             refine step_bin rfl rfl rfl rfl rfl trivial ?_
             refine step_pickT rfl h32 rfl rfl ?_
             refine step_r rfl rfl trivial ?_
             refine step_nil ?_
             refine seqK_n ?_
             refine sem_ret ?_
             have e34 : small15 = ((sum15 (known15 (⟨1, 1, 5, 2, 2, 3, true⟩ : GAura)) ((apply15 (known15 (⟨1, 1, 5, 2, 2, 3, true⟩ : GAura)) ((apply15 (known15 (⟨1, 1, 5, 2, 2, 3, true⟩ : GAura)) ([]) 1 7 10).1) 1 7 11).1) 1 : Int) == 6) := by
              unfold small15
              try dsimp only
              rewrite [if_pos g9, if_pos g11, if_pos g13, if_pos g15, if_pos g17, if_pos g19, if_pos g22, if_pos g24, if_pos g26, if_pos g28, if_pos g30, if_pos g32]
              all_goals rfl
             rw [e34]
             exact answersR rfl ⟨trivial, trivial⟩ (rfl) rfl
            ·have g32 : ¬ (right15 (known15 (⟨1, 1, 5, 2, 2, 3, true⟩ : GAura)) ((apply15 (known15 (⟨1, 1, 5, 2, 2, 3, true⟩ : GAura)) ((apply15 (known15 (⟨1, 1, 5, 2, 2, 3, true⟩ : GAura)) ([]) 1 7 10).1) 1 7 11).1) = true) := boo_f h32
             refine step_g0 rfl h32 rfl ?_
             refine step_g0 rfl h32 rfl ?_
             refine step_g0 rfl h32 rfl ?_
             refine step_g0 rfl h32 rfl ?_
             refine step_pickF rfl h32 rfl rfl ?_
             refine step_r rfl rfl trivial ?_
             refine step_nil ?_
             refine seqK_n ?_
             refine sem_ret ?_
             have e35 : small15 = false := by
              unfold small15
              try dsimp only
              rewrite [if_pos g9, if_pos g11, if_pos g13, if_pos g15, if_pos g17, if_pos g19, if_pos g22, if_pos g24, if_pos g26, if_pos g28, if_pos g30, if_neg g32]
              all_goals rfl
             rw [e35]
             exact answersR rfl ⟨trivial, trivial⟩ (rfl) rfl
           ·have g30 : ¬ (((dispel15 (known15 (⟨1, 1, 5, 2, 2, 3, true⟩ : GAura)) ((apply15 (known15 (⟨1, 1, 5, 2, 2, 3, true⟩ : GAura)) ((apply15 (known15 (⟨1, 1, 5, 2, 2, 3, true⟩ : GAura)) ([]) 1 7 10).1) 1 7 11).1) 1).2.length : Int) = 1) := beq_f h30
            refine step_g0 rfl h30 rfl ?_
            refine step_g0 rfl h30 rfl ?_
            refine step_g0 rfl h30 rfl ?_
            refine step_pickF rfl h30 rfl rfl ?_
            refine step_r rfl rfl trivial ?_
            refine step_gf rfl rfl ?_
            refine step_gf rfl rfl ?_
            refine step_gf rfl rfl ?_
            refine step_gf rfl rfl ?_
            refine step_r rfl rfl trivial ?_
            refine step_r rfl rfl trivial ?_
            refine step_nil ?_
            refine seqK_n ?_
            refine sem_ret ?_
            have e36 : small15 = false := by
             unfold small15
             try dsimp only
             rewrite [if_pos g9, if_pos g11, if_pos g13, if_pos g15, if_pos g17, if_pos g19, if_pos g22, if_pos g24, if_pos g26, if_pos g28, if_neg g30]
             all_goals rfl
            rw [e36]
            exact answersR rfl ⟨trivial, trivial⟩ (rfl) rfl
          ·have g28 : ¬ (((dispel15 (known15 (⟨1, 1, 5, 2, 2, 3, true⟩ : GAura)) ((apply15 (known15 (⟨1, 1, 5, 2, 2, 3, true⟩ : GAura)) ((apply15 (known15 (⟨1, 1, 5, 2, 2, 3, true⟩ : GAura)) ([]) 1 7 10).1) 1 7 11).1) 1).1.length : Int) = 0) := beq_f h28
           refine step_g0 rfl h28 rfl ?_
           refine step_g0 rfl h28 rfl ?_
           refine step_g0 rfl h28 rfl ?_
           refine step_pickF rfl h28 rfl rfl ?_
           refine step_r rfl rfl trivial ?_
           refine step_gf rfl rfl ?_
           refine step_gf rfl rfl ?_
           refine step_gf rfl rfl ?_
           refine step_r rfl rfl trivial ?_
           refine step_r rfl rfl trivial ?_
           refine step_gf rfl rfl ?_
           refine step_gf rfl rfl ?_
           refine step_gf rfl rfl ?_
           refine step_gf rfl rfl ?_
           refine step_r rfl rfl trivial ?_
           refine step_r rfl rfl trivial ?_
           refine step_nil ?_
           refine seqK_n ?_
           refine sem_ret ?_
           have e37 : small15 = false := by
            unfold small15
            try dsimp only
            rewrite [if_pos g9, if_pos g11, if_pos g13, if_pos g15, if_pos g17, if_pos g19, if_pos g22, if_pos g24, if_pos g26, if_neg g28]
            all_goals rfl
           rw [e37]
           exact answersR rfl ⟨trivial, trivial⟩ (rfl) rfl
         ·have g26 : ¬ (((expire15 ((tick15 (known15 (⟨1, 1, 5, 2, 2, 3, true⟩ : GAura)) ((apply15 (known15 (⟨1, 1, 5, 2, 2, 3, true⟩ : GAura)) ((apply15 (known15 (⟨1, 1, 5, 2, 2, 3, true⟩ : GAura)) ([]) 1 7 10).1) 1 7 11).1) 12).1) 16).2.length : Int) = 1) := beq_f h26
          refine step_g0 rfl h26 rfl ?_
          refine step_g0 rfl h26 rfl ?_
          refine step_g0 rfl h26 rfl ?_
          refine step_pickF rfl h26 rfl rfl ?_
          refine step_r rfl rfl trivial ?_
          refine step_gf rfl rfl ?_
          refine step_gf rfl rfl ?_
          refine step_gf rfl rfl ?_
          refine step_r rfl rfl trivial ?_
          refine step_r rfl rfl trivial ?_
          refine step_gf rfl rfl ?_
          refine step_gf rfl rfl ?_
          refine step_gf rfl rfl ?_
          refine step_r rfl rfl trivial ?_
          refine step_r rfl rfl trivial ?_
          refine step_gf rfl rfl ?_
          refine step_gf rfl rfl ?_
          refine step_gf rfl rfl ?_
          refine step_gf rfl rfl ?_
          refine step_r rfl rfl trivial ?_
          refine step_r rfl rfl trivial ?_
          refine step_nil ?_
          refine seqK_n ?_
          refine sem_ret ?_
          have e38 : small15 = false := by
           unfold small15
           try dsimp only
           rewrite [if_pos g9, if_pos g11, if_pos g13, if_pos g15, if_pos g17, if_pos g19, if_pos g22, if_pos g24, if_neg g26]
           all_goals rfl
          rw [e38]
          exact answersR rfl ⟨trivial, trivial⟩ (rfl) rfl
        ·have g24 : ¬ (((expire15 ((tick15 (known15 (⟨1, 1, 5, 2, 2, 3, true⟩ : GAura)) ((apply15 (known15 (⟨1, 1, 5, 2, 2, 3, true⟩ : GAura)) ((apply15 (known15 (⟨1, 1, 5, 2, 2, 3, true⟩ : GAura)) ([]) 1 7 10).1) 1 7 11).1) 12).1) 16).1.length : Int) = 0) := beq_f h24
         refine step_g0 rfl h24 rfl ?_
         refine step_g0 rfl h24 rfl ?_
         refine step_g0 rfl h24 rfl ?_
         refine step_pickF rfl h24 rfl rfl ?_
         refine step_r rfl rfl trivial ?_
         refine step_gf rfl rfl ?_
         refine step_gf rfl rfl ?_
         refine step_gf rfl rfl ?_
         refine step_r rfl rfl trivial ?_
         refine step_r rfl rfl trivial ?_
         refine step_gf rfl rfl ?_
         refine step_gf rfl rfl ?_
         refine step_gf rfl rfl ?_
         refine step_r rfl rfl trivial ?_
         refine step_r rfl rfl trivial ?_
         refine step_gf rfl rfl ?_
         refine step_gf rfl rfl ?_
         refine step_gf rfl rfl ?_
         refine step_r rfl rfl trivial ?_
         refine step_r rfl rfl trivial ?_
         refine step_gf rfl rfl ?_
         refine step_gf rfl rfl ?_
         refine step_gf rfl rfl ?_
         refine step_gf rfl rfl ?_
         refine step_r rfl rfl trivial ?_
         refine step_r rfl rfl trivial ?_
         refine step_nil ?_
         refine seqK_n ?_
         refine sem_ret ?_
         have e39 : small15 = false := by
          unfold small15
          try dsimp only
          rewrite [if_pos g9, if_pos g11, if_pos g13, if_pos g15, if_pos g17, if_pos g19, if_pos g22, if_neg g24]
          all_goals rfl
         rw [e39]
         exact answersR rfl ⟨trivial, trivial⟩ (rfl) rfl
       ·have g22 : ¬ (((((tick15 (known15 (⟨1, 1, 5, 2, 2, 3, true⟩ : GAura)) ((apply15 (known15 (⟨1, 1, 5, 2, 2, 3, true⟩ : GAura)) ((apply15 (known15 (⟨1, 1, 5, 2, 2, 3, true⟩ : GAura)) ([]) 1 7 10).1) 1 7 11).1) 12).1).getD 0 default).Next : Int) = 14) := beq_f h22
        refine step_g0 rfl h22 rfl ?_
        refine step_g0 rfl h22 rfl ?_
        refine step_g0 rfl h22 rfl ?_
        refine step_pickF rfl h22 rfl rfl ?_
        refine step_r rfl rfl trivial ?_
        refine step_gf rfl rfl ?_
        refine step_gf rfl rfl ?_
        refine step_gf rfl rfl ?_
        refine step_r rfl rfl trivial ?_
        refine step_r rfl rfl trivial ?_
        refine step_gf rfl rfl ?_
        refine step_gf rfl rfl ?_
        refine step_gf rfl rfl ?_
        refine step_r rfl rfl trivial ?_
        refine step_r rfl rfl trivial ?_
        refine step_gf rfl rfl ?_
        refine step_gf rfl rfl ?_
        refine step_gf rfl rfl ?_
        refine step_r rfl rfl trivial ?_
        refine step_r rfl rfl trivial ?_
        refine step_gf rfl rfl ?_
        refine step_gf rfl rfl ?_
        refine step_gf rfl rfl ?_
        refine step_r rfl rfl trivial ?_
        refine step_r rfl rfl trivial ?_
        refine step_gf rfl rfl ?_
        refine step_gf rfl rfl ?_
        refine step_gf rfl rfl ?_
        refine step_gf rfl rfl ?_
        refine step_r rfl rfl trivial ?_
        refine step_r rfl rfl trivial ?_
        refine step_nil ?_
        refine seqK_n ?_
        refine sem_ret ?_
        have e40 : small15 = false := by
         unfold small15
         try dsimp only
         rewrite [if_pos g9, if_pos g11, if_pos g13, if_pos g15, if_pos g17, if_pos g19, if_neg g22]
         all_goals rfl
        rw [e40]
        exact answersR rfl ⟨trivial, trivial⟩ (rfl) rfl
      ·have g19 : ¬ (((tick15 (known15 (⟨1, 1, 5, 2, 2, 3, true⟩ : GAura)) ((apply15 (known15 (⟨1, 1, 5, 2, 2, 3, true⟩ : GAura)) ((apply15 (known15 (⟨1, 1, 5, 2, 2, 3, true⟩ : GAura)) ([]) 1 7 10).1) 1 7 11).1) 12).1.length : Int) = 1) := beq_f h19
       refine step_g0 rfl h19 rfl ?_
       refine step_g0 rfl h19 rfl ?_
       refine step_g0 rfl h19 rfl ?_
       refine step_g0 rfl h19 rfl ?_
       refine step_g0 rfl h19 rfl ?_
       refine step_pickF rfl h19 rfl rfl ?_
       refine step_r rfl rfl trivial ?_
       refine step_gf rfl rfl ?_
       refine step_gf rfl rfl ?_
       refine step_gf rfl rfl ?_
       refine step_r rfl rfl trivial ?_
       refine step_r rfl rfl trivial ?_
       refine step_gf rfl rfl ?_
       refine step_gf rfl rfl ?_
       refine step_gf rfl rfl ?_
       refine step_r rfl rfl trivial ?_
       refine step_r rfl rfl trivial ?_
       refine step_gf rfl rfl ?_
       refine step_gf rfl rfl ?_
       refine step_gf rfl rfl ?_
       refine step_r rfl rfl trivial ?_
       refine step_r rfl rfl trivial ?_
       refine step_gf rfl rfl ?_
       refine step_gf rfl rfl ?_
       refine step_gf rfl rfl ?_
       refine step_r rfl rfl trivial ?_
       refine step_r rfl rfl trivial ?_
       refine step_gf rfl rfl ?_
       refine step_gf rfl rfl ?_
       refine step_gf rfl rfl ?_
       refine step_r rfl rfl trivial ?_
       refine step_r rfl rfl trivial ?_
       refine step_gf rfl rfl ?_
       refine step_gf rfl rfl ?_
       refine step_gf rfl rfl ?_
       refine step_gf rfl rfl ?_
       refine step_r rfl rfl trivial ?_
       refine step_r rfl rfl trivial ?_
       refine step_nil ?_
       refine seqK_n ?_
       refine sem_ret ?_
       have e41 : small15 = false := by
        unfold small15
        try dsimp only
        rewrite [if_pos g9, if_pos g11, if_pos g13, if_pos g15, if_pos g17, if_neg g19]
        all_goals rfl
       rw [e41]
       exact answersR rfl ⟨trivial, trivial⟩ (rfl) rfl
     ·have g17 : ¬ (((tick15 (known15 (⟨1, 1, 5, 2, 2, 3, true⟩ : GAura)) ((apply15 (known15 (⟨1, 1, 5, 2, 2, 3, true⟩ : GAura)) ((apply15 (known15 (⟨1, 1, 5, 2, 2, 3, true⟩ : GAura)) ([]) 1 7 10).1) 1 7 11).1) 12).2) = ((apply15 (known15 (⟨1, 1, 5, 2, 2, 3, true⟩ : GAura)) ((apply15 (known15 (⟨1, 1, 5, 2, 2, 3, true⟩ : GAura)) ([]) 1 7 10).1) 1 7 11).1)) := of_decide_eq_false h17
      refine step_g0 rfl h17 rfl ?_
      refine step_g0 rfl h17 rfl ?_
      refine step_g0 rfl h17 rfl ?_
      refine step_pickF rfl h17 rfl rfl ?_
      refine step_r rfl rfl trivial ?_
      refine step_gf rfl rfl ?_
      refine step_gf rfl rfl ?_
      refine step_gf rfl rfl ?_
      refine step_gf rfl rfl ?_
      refine step_gf rfl rfl ?_
      refine step_r rfl rfl trivial ?_
      refine step_r rfl rfl trivial ?_
      refine step_gf rfl rfl ?_
      refine step_gf rfl rfl ?_
      refine step_gf rfl rfl ?_
      refine step_r rfl rfl trivial ?_
      refine step_r rfl rfl trivial ?_
      refine step_gf rfl rfl ?_
      refine step_gf rfl rfl ?_
      refine step_gf rfl rfl ?_
      refine step_r rfl rfl trivial ?_
      refine step_r rfl rfl trivial ?_
      refine step_gf rfl rfl ?_
      refine step_gf rfl rfl ?_
      refine step_gf rfl rfl ?_
      refine step_r rfl rfl trivial ?_
      refine step_r rfl rfl trivial ?_
      refine step_gf rfl rfl ?_
      refine step_gf rfl rfl ?_
      refine step_gf rfl rfl ?_
      refine step_r rfl rfl trivial ?_
      refine step_r rfl rfl trivial ?_
      refine step_gf rfl rfl ?_
      refine step_gf rfl rfl ?_
      refine step_gf rfl rfl ?_
      refine step_r rfl rfl trivial ?_
      refine step_r rfl rfl trivial ?_
      refine step_gf rfl rfl ?_
      refine step_gf rfl rfl ?_
      refine step_gf rfl rfl ?_
      refine step_gf rfl rfl ?_
      refine step_r rfl rfl trivial ?_
      refine step_r rfl rfl trivial ?_
      refine step_nil ?_
      refine seqK_n ?_
      refine sem_ret ?_
      have e42 : small15 = false := by
       unfold small15
       try dsimp only
       rewrite [if_pos g9, if_pos g11, if_pos g13, if_pos g15, if_neg g17]
       all_goals rfl
      rw [e42]
      exact answersR rfl ⟨trivial, trivial⟩ (rfl) rfl
    ·have g15 : ¬ (((apply15 (known15 (⟨1, 1, 5, 2, 2, 3, true⟩ : GAura)) ((apply15 (known15 (⟨1, 1, 5, 2, 2, 3, true⟩ : GAura)) ([]) 1 7 10).1) 1 7 11).1) = ([(⟨1, 7, 2, 16, 12, 0⟩ : GActive)])) := of_decide_eq_false h15
     refine step_g0 rfl h15 rfl ?_
     refine step_g0 rfl h15 rfl ?_
     refine step_g0 rfl h15 rfl ?_
     refine step_pickF rfl h15 rfl rfl ?_
     refine step_r rfl rfl trivial ?_
     refine step_gf rfl rfl ?_
     refine step_gf rfl rfl ?_
     refine step_gf rfl rfl ?_
     refine step_r rfl rfl trivial ?_
     refine step_r rfl rfl trivial ?_
     refine step_gf rfl rfl ?_
     refine step_gf rfl rfl ?_
     refine step_gf rfl rfl ?_
     refine step_gf rfl rfl ?_
     refine step_gf rfl rfl ?_
     refine step_r rfl rfl trivial ?_
     refine step_r rfl rfl trivial ?_
     refine step_gf rfl rfl ?_
     refine step_gf rfl rfl ?_
     refine step_gf rfl rfl ?_
     refine step_r rfl rfl trivial ?_
     refine step_r rfl rfl trivial ?_
     refine step_gf rfl rfl ?_
     refine step_gf rfl rfl ?_
     refine step_gf rfl rfl ?_
     refine step_r rfl rfl trivial ?_
     refine step_r rfl rfl trivial ?_
     refine step_gf rfl rfl ?_
     refine step_gf rfl rfl ?_
     refine step_gf rfl rfl ?_
     refine step_r rfl rfl trivial ?_
     refine step_r rfl rfl trivial ?_
     refine step_gf rfl rfl ?_
     refine step_gf rfl rfl ?_
     refine step_gf rfl rfl ?_
     refine step_r rfl rfl trivial ?_
     refine step_r rfl rfl trivial ?_
     refine step_gf rfl rfl ?_
     refine step_gf rfl rfl ?_
     refine step_gf rfl rfl ?_
     refine step_r rfl rfl trivial ?_
     refine step_r rfl rfl trivial ?_
     refine step_gf rfl rfl ?_
     refine step_gf rfl rfl ?_
     refine step_gf rfl rfl ?_
     refine step_gf rfl rfl ?_
     refine step_r rfl rfl trivial ?_
     refine step_r rfl rfl trivial ?_
     refine step_nil ?_
     refine seqK_n ?_
     refine sem_ret ?_
     have e43 : small15 = false := by
      unfold small15
      try dsimp only
      rewrite [if_pos g9, if_pos g11, if_pos g13, if_neg g15]
      all_goals rfl
     rw [e43]
     exact answersR rfl ⟨trivial, trivial⟩ (rfl) rfl
   ·have g13 : ¬ (((apply15 (known15 (⟨1, 1, 5, 2, 2, 3, true⟩ : GAura)) ((apply15 (known15 (⟨1, 1, 5, 2, 2, 3, true⟩ : GAura)) ([]) 1 7 10).1) 1 7 11).2 : Int) = 0) := beq_f h13
    refine step_g0 rfl h13 rfl ?_
    refine step_g0 rfl h13 rfl ?_
    refine step_g0 rfl h13 rfl ?_
    refine step_g0 rfl h13 rfl ?_
    refine step_pickF rfl h13 rfl rfl ?_
    refine step_r rfl rfl trivial ?_
    refine step_gf rfl rfl ?_
    refine step_gf rfl rfl ?_
    refine step_gf rfl rfl ?_
    refine step_r rfl rfl trivial ?_
    refine step_r rfl rfl trivial ?_
    refine step_gf rfl rfl ?_
    refine step_gf rfl rfl ?_
    refine step_gf rfl rfl ?_
    refine step_r rfl rfl trivial ?_
    refine step_r rfl rfl trivial ?_
    refine step_gf rfl rfl ?_
    refine step_gf rfl rfl ?_
    refine step_gf rfl rfl ?_
    refine step_gf rfl rfl ?_
    refine step_gf rfl rfl ?_
    refine step_r rfl rfl trivial ?_
    refine step_r rfl rfl trivial ?_
    refine step_gf rfl rfl ?_
    refine step_gf rfl rfl ?_
    refine step_gf rfl rfl ?_
    refine step_r rfl rfl trivial ?_
    refine step_r rfl rfl trivial ?_
    refine step_gf rfl rfl ?_
    refine step_gf rfl rfl ?_
    refine step_gf rfl rfl ?_
    refine step_r rfl rfl trivial ?_
    refine step_r rfl rfl trivial ?_
    refine step_gf rfl rfl ?_
    refine step_gf rfl rfl ?_
    refine step_gf rfl rfl ?_
    refine step_r rfl rfl trivial ?_
    refine step_r rfl rfl trivial ?_
    refine step_gf rfl rfl ?_
    refine step_gf rfl rfl ?_
    refine step_gf rfl rfl ?_
    refine step_r rfl rfl trivial ?_
    refine step_r rfl rfl trivial ?_
    refine step_gf rfl rfl ?_
    refine step_gf rfl rfl ?_
    refine step_gf rfl rfl ?_
    refine step_r rfl rfl trivial ?_
    refine step_r rfl rfl trivial ?_
    refine step_gf rfl rfl ?_
    refine step_gf rfl rfl ?_
    refine step_gf rfl rfl ?_
    refine step_gf rfl rfl ?_
    refine step_r rfl rfl trivial ?_
    refine step_r rfl rfl trivial ?_
    refine step_nil ?_
    refine seqK_n ?_
    refine sem_ret ?_
    have e44 : small15 = false := by
     unfold small15
     try dsimp only
     rewrite [if_pos g9, if_pos g11, if_neg g13]
     all_goals rfl
    rw [e44]
    exact answersR rfl ⟨trivial, trivial⟩ (rfl) rfl
  ·have g11 : ¬ (((apply15 (known15 (⟨1, 1, 5, 2, 2, 3, true⟩ : GAura)) ([]) 1 7 10).1) = ([(⟨1, 7, 1, 15, 12, 0⟩ : GActive)])) := of_decide_eq_false h11
   refine step_g0 rfl h11 rfl ?_
   refine step_g0 rfl h11 rfl ?_
   refine step_pickF rfl h11 rfl rfl ?_
   refine step_r rfl rfl trivial ?_
   refine step_gf rfl rfl ?_
   refine step_gf rfl rfl ?_
   refine step_gf rfl rfl ?_
   refine step_gf rfl rfl ?_
   refine step_r rfl rfl trivial ?_
   refine step_r rfl rfl trivial ?_
   refine step_gf rfl rfl ?_
   refine step_gf rfl rfl ?_
   refine step_gf rfl rfl ?_
   refine step_r rfl rfl trivial ?_
   refine step_r rfl rfl trivial ?_
   refine step_gf rfl rfl ?_
   refine step_gf rfl rfl ?_
   refine step_gf rfl rfl ?_
   refine step_r rfl rfl trivial ?_
   refine step_r rfl rfl trivial ?_
   refine step_gf rfl rfl ?_
   refine step_gf rfl rfl ?_
   refine step_gf rfl rfl ?_
   refine step_gf rfl rfl ?_
   refine step_gf rfl rfl ?_
   refine step_r rfl rfl trivial ?_
   refine step_r rfl rfl trivial ?_
   refine step_gf rfl rfl ?_
   refine step_gf rfl rfl ?_
   refine step_gf rfl rfl ?_
   refine step_r rfl rfl trivial ?_
   refine step_r rfl rfl trivial ?_
   refine step_gf rfl rfl ?_
   refine step_gf rfl rfl ?_
   refine step_gf rfl rfl ?_
   refine step_r rfl rfl trivial ?_
   refine step_r rfl rfl trivial ?_
   refine step_gf rfl rfl ?_
   refine step_gf rfl rfl ?_
   refine step_gf rfl rfl ?_
   refine step_r rfl rfl trivial ?_
   refine step_r rfl rfl trivial ?_
   refine step_gf rfl rfl ?_
   refine step_gf rfl rfl ?_
   refine step_gf rfl rfl ?_
   refine step_r rfl rfl trivial ?_
   refine step_r rfl rfl trivial ?_
   refine step_gf rfl rfl ?_
   refine step_gf rfl rfl ?_
   refine step_gf rfl rfl ?_
   refine step_r rfl rfl trivial ?_
   refine step_r rfl rfl trivial ?_
   refine step_gf rfl rfl ?_
   refine step_gf rfl rfl ?_
   refine step_gf rfl rfl ?_
   refine step_gf rfl rfl ?_
   refine step_r rfl rfl trivial ?_
   refine step_r rfl rfl trivial ?_
   refine step_nil ?_
   refine seqK_n ?_
   refine sem_ret ?_
   have e45 : small15 = false := by
    unfold small15
    try dsimp only
    rewrite [if_pos g9, if_neg g11]
    all_goals rfl
   rw [e45]
   exact answersR rfl ⟨trivial, trivial⟩ (rfl) rfl
 ·have g9 : ¬ (((apply15 (known15 (⟨1, 1, 5, 2, 2, 3, true⟩ : GAura)) ([]) 1 7 10).2 : Int) = 0) := beq_f h9
  refine step_g0 rfl h9 rfl ?_
  refine step_g0 rfl h9 rfl ?_
  refine step_g0 rfl h9 rfl ?_
  refine step_g0 rfl h9 rfl ?_
  refine step_pickF rfl h9 rfl rfl ?_
  refine step_r rfl rfl trivial ?_
  refine step_gf rfl rfl ?_
  refine step_gf rfl rfl ?_
  refine step_r rfl rfl trivial ?_
  refine step_r rfl rfl trivial ?_
  refine step_gf rfl rfl ?_
  refine step_gf rfl rfl ?_
  refine step_gf rfl rfl ?_
  refine step_gf rfl rfl ?_
  refine step_r rfl rfl trivial ?_
  refine step_r rfl rfl trivial ?_
  refine step_gf rfl rfl ?_
  refine step_gf rfl rfl ?_
  refine step_gf rfl rfl ?_
  refine step_r rfl rfl trivial ?_
  refine step_r rfl rfl trivial ?_
  refine step_gf rfl rfl ?_
  refine step_gf rfl rfl ?_
  refine step_gf rfl rfl ?_
  refine step_r rfl rfl trivial ?_
  refine step_r rfl rfl trivial ?_
  refine step_gf rfl rfl ?_
  refine step_gf rfl rfl ?_
  refine step_gf rfl rfl ?_
  refine step_gf rfl rfl ?_
  refine step_gf rfl rfl ?_
  refine step_r rfl rfl trivial ?_
  refine step_r rfl rfl trivial ?_
  refine step_gf rfl rfl ?_
  refine step_gf rfl rfl ?_
  refine step_gf rfl rfl ?_
  refine step_r rfl rfl trivial ?_
  refine step_r rfl rfl trivial ?_
  refine step_gf rfl rfl ?_
  refine step_gf rfl rfl ?_
  refine step_gf rfl rfl ?_
  refine step_r rfl rfl trivial ?_
  refine step_r rfl rfl trivial ?_
  refine step_gf rfl rfl ?_
  refine step_gf rfl rfl ?_
  refine step_gf rfl rfl ?_
  refine step_r rfl rfl trivial ?_
  refine step_r rfl rfl trivial ?_
  refine step_gf rfl rfl ?_
  refine step_gf rfl rfl ?_
  refine step_gf rfl rfl ?_
  refine step_r rfl rfl trivial ?_
  refine step_r rfl rfl trivial ?_
  refine step_gf rfl rfl ?_
  refine step_gf rfl rfl ?_
  refine step_gf rfl rfl ?_
  refine step_r rfl rfl trivial ?_
  refine step_r rfl rfl trivial ?_
  refine step_gf rfl rfl ?_
  refine step_gf rfl rfl ?_
  refine step_gf rfl rfl ?_
  refine step_gf rfl rfl ?_
  refine step_r rfl rfl trivial ?_
  refine step_r rfl rfl trivial ?_
  refine step_nil ?_
  refine seqK_n ?_
  refine sem_ret ?_
  have e46 : small15 = false := by
   unfold small15
   try dsimp only
   rewrite [if_neg g9]
   all_goals rfl
  rw [e46]
  exact answersR rfl ⟨trivial, trivial⟩ (rfl) rfl

def ticks15_L0 (every : Int) (ticks : Int) (from_ : Int) (to : Int) : Nat → (List GActive) → Int → Int → Sum Bool Int
  | 0, _, _, _ => .inl default
  | n_ + 1, l0, n0, now0 => if (now0 : Int) ≤ (IntKind.i64.wrap (from_ + to)) then (if ((tick15 (known15 (⟨1, 2, ticks, every, 1, 1, false⟩ : GAura)) l0 now0).2.length : Int) > 1 then .inl false else if ((tick15 (known15 (⟨1, 2, ticks, every, 1, 1, false⟩ : GAura)) l0 now0).1.length : Int) = 1 then ticks15_L0 every ticks from_ to n_ ((tick15 (known15 (⟨1, 2, ticks, every, 1, 1, false⟩ : GAura)) l0 now0).1) (IntKind.i64.wrap (n0 + ((tick15 (known15 (⟨1, 2, ticks, every, 1, 1, false⟩ : GAura)) l0 now0).2.length))) (IntKind.i64.wrap (now0 + 1)) else .inl false) else .inr n0
def ticks15 (every : Int) (ticks : Int) (from_ : Int) (to : Int) : Bool :=
  if (every : Int) < 1 then (small15) else if (every : Int) > 50 then (small15) else if (ticks : Int) < 1 then (small15) else if (ticks : Int) > 500 then (small15) else if (from_ : Int) < 0 then (small15) else if (from_ : Int) > 1048576 then (small15) else if (to : Int) < 0 then (small15) else if (to : Int) > 500 then (small15) else if ((apply15 (known15 (⟨1, 2, ticks, every, 1, 1, false⟩ : GAura)) ([]) 1 0 from_).2 : Int) = 0 then (match ticks15_L0 every ticks from_ to (600) ((apply15 (known15 (⟨1, 2, ticks, every, 1, 1, false⟩ : GAura)) ([]) 1 0 from_).1) 0 from_ with
    | .inl r_ => r_
    | .inr n_0 => if small15 = true then ((n_0 : Int) == (IntKind.i64.wrap ((to : Int).tdiv every))) else false) else false
theorem ticks15_ok (every : Int) (ticks : Int) (from_ : Int) (to : Int) : Ok Try.prog 4 [I every, I ticks, I from_, I to] [] (B (ticks15 every ticks from_ to)) [] [] := by
 refine ok_of_sem Try.func4 rfl ?_
 show Walks Try.prog _ _ ⟨[(0, I every), (1, I ticks), (2, I from_), (3, I to)], [], 0, [], 97, 0⟩
 refine sem_seq ?_
 refine sem_region rfl ?_
 refine step_r rfl rfl trivial ?_
 refine step_nil ?_
 refine seqK_n ?_
 refine sem_seq ?_
 refine sem_region rfl ?_
 refine step_call rfl rfl rfl rfl (small15_ok ) rfl rfl rfl ?_
 refine step_r rfl rfl trivial ?_
 refine step_nil ?_
 refine seqK_n ?_
 refine sem_seq ?_
 refine sem_seq ?_
 refine sem_region rfl ?_
 refine step_r rfl rfl trivial ?_
 refine step_bin rfl rfl rfl rfl rfl trivial ?_
 refine step_r rfl rfl trivial ?_
 refine step_gs rfl (fun h4 => ?_) (fun h4 => ?_)
 ·have g4 : (every : Int) < 1 := of_decide_eq_true h4
  refine step_g0 rfl h4 rfl ?_
  refine step_g0 rfl h4 rfl ?_
  refine step_pickT rfl h4 rfl rfl ?_
  refine step_r rfl rfl trivial ?_
  refine step_gf rfl rfl ?_
  refine step_gf rfl rfl ?_
  refine step_r rfl rfl trivial ?_
  refine step_r rfl rfl trivial ?_
  refine step_gf rfl rfl ?_
  refine step_gf rfl rfl ?_
  refine step_r rfl rfl trivial ?_
  refine step_r rfl rfl trivial ?_
  refine step_gf rfl rfl ?_
  refine step_gf rfl rfl ?_
  refine step_r rfl rfl trivial ?_
  refine step_r rfl rfl trivial ?_
  refine step_gf rfl rfl ?_
  refine step_gf rfl rfl ?_
  refine step_r rfl rfl trivial ?_
  refine step_r rfl rfl trivial ?_
  refine step_gf rfl rfl ?_
  refine step_gf rfl rfl ?_
  refine step_r rfl rfl trivial ?_
  refine step_r rfl rfl trivial ?_
  refine step_gf rfl rfl ?_
  refine step_gf rfl rfl ?_
  refine step_r rfl rfl trivial ?_
  refine step_nil ?_
  refine seqK_n ?_
  refine sem_condT rfl ?_
  refine sem_seq ?_
  refine sem_region rfl ?_
  refine step_r rfl rfl trivial ?_
  refine step_r rfl rfl trivial ?_
  refine step_nil ?_
  refine seqK_n ?_
  refine sem_ret ?_
  refine seqK_r ?_
  have e5 : ticks15 every ticks from_ to = (small15) := by
   unfold ticks15
   try dsimp only
   rewrite [if_pos g4]
   all_goals rfl
  rw [e5]
  exact answersR rfl ⟨trivial, trivial⟩ (rfl) rfl
 ·have g4 : ¬ ((every : Int) < 1) := of_decide_eq_false h4
  refine step_g1 rfl h4 ?_
  refine step_r rfl rfl trivial ?_
  refine step_g1 rfl h4 ?_
  refine step_bin rfl rfl rfl rfl rfl trivial ?_
  refine step_pickF rfl h4 rfl rfl ?_
  refine step_r rfl rfl trivial ?_
  refine step_gs rfl (fun h7 => ?_) (fun h7 => ?_)
  ·have g7 : (every : Int) > 50 := of_decide_eq_true h7
   refine step_g0 rfl h7 rfl ?_
   refine step_g0 rfl h7 rfl ?_
   refine step_pickT rfl h7 rfl rfl ?_
   refine step_r rfl rfl trivial ?_
   refine step_gf rfl rfl ?_
   refine step_gf rfl rfl ?_
   refine step_r rfl rfl trivial ?_
   refine step_r rfl rfl trivial ?_
   refine step_gf rfl rfl ?_
   refine step_gf rfl rfl ?_
   refine step_r rfl rfl trivial ?_
   refine step_r rfl rfl trivial ?_
   refine step_gf rfl rfl ?_
   refine step_gf rfl rfl ?_
   refine step_r rfl rfl trivial ?_
   refine step_r rfl rfl trivial ?_
   refine step_gf rfl rfl ?_
   refine step_gf rfl rfl ?_
   refine step_r rfl rfl trivial ?_
   refine step_r rfl rfl trivial ?_
   refine step_gf rfl rfl ?_
   refine step_gf rfl rfl ?_
   refine step_r rfl rfl trivial ?_
   refine step_nil ?_
   refine seqK_n ?_
   refine sem_condT rfl ?_
   refine sem_seq ?_
   refine sem_region rfl ?_
   refine step_r rfl rfl trivial ?_
   refine step_r rfl rfl trivial ?_
   refine step_nil ?_
   refine seqK_n ?_
   refine sem_ret ?_
   refine seqK_r ?_
   have e8 : ticks15 every ticks from_ to = (small15) := by
    unfold ticks15
    try dsimp only
    rewrite [if_neg g4, if_pos g7]
    all_goals rfl
   rw [e8]
   exact answersR rfl ⟨trivial, trivial⟩ (rfl) rfl
  ·have g7 : ¬ ((every : Int) > 50) := of_decide_eq_false h7
   refine step_g1 rfl h7 ?_
   refine step_r rfl rfl trivial ?_
   refine step_g1 rfl h7 ?_
   refine step_bin rfl rfl rfl rfl rfl trivial ?_
   refine step_pickF rfl h7 rfl rfl ?_
   refine step_r rfl rfl trivial ?_
   refine step_gs rfl (fun h11 => ?_) (fun h11 => ?_)
   ·have g11 : (ticks : Int) < 1 := of_decide_eq_true h11
    refine step_g0 rfl h11 rfl ?_
    refine step_g0 rfl h11 rfl ?_
    refine step_pickT rfl h11 rfl rfl ?_
    refine step_r rfl rfl trivial ?_
    refine step_gf rfl rfl ?_
    refine step_gf rfl rfl ?_
    refine step_r rfl rfl trivial ?_
    refine step_r rfl rfl trivial ?_
    refine step_gf rfl rfl ?_
    refine step_gf rfl rfl ?_
    refine step_r rfl rfl trivial ?_
    refine step_r rfl rfl trivial ?_
    refine step_gf rfl rfl ?_
    refine step_gf rfl rfl ?_
    refine step_r rfl rfl trivial ?_
    refine step_r rfl rfl trivial ?_
    refine step_gf rfl rfl ?_
    refine step_gf rfl rfl ?_
    refine step_r rfl rfl trivial ?_
    refine step_nil ?_
    refine seqK_n ?_
    refine sem_condT rfl ?_
    refine sem_seq ?_
    refine sem_region rfl ?_
    refine step_r rfl rfl trivial ?_
    refine step_r rfl rfl trivial ?_
    refine step_nil ?_
    refine seqK_n ?_
    refine sem_ret ?_
    refine seqK_r ?_
    have e12 : ticks15 every ticks from_ to = (small15) := by
     unfold ticks15
     try dsimp only
     rewrite [if_neg g4, if_neg g7, if_pos g11]
     all_goals rfl
    rw [e12]
    exact answersR rfl ⟨trivial, trivial⟩ (rfl) rfl
   ·have g11 : ¬ ((ticks : Int) < 1) := of_decide_eq_false h11
    refine step_g1 rfl h11 ?_
    refine step_r rfl rfl trivial ?_
    refine step_g1 rfl h11 ?_
    refine step_bin rfl rfl rfl rfl rfl trivial ?_
    refine step_pickF rfl h11 rfl rfl ?_
    refine step_r rfl rfl trivial ?_
    refine step_gs rfl (fun h14 => ?_) (fun h14 => ?_)
    ·have g14 : (ticks : Int) > 500 := of_decide_eq_true h14
     refine step_g0 rfl h14 rfl ?_
     refine step_g0 rfl h14 rfl ?_
     refine step_pickT rfl h14 rfl rfl ?_
     refine step_r rfl rfl trivial ?_
     refine step_gf rfl rfl ?_
     refine step_gf rfl rfl ?_
     refine step_r rfl rfl trivial ?_
     refine step_r rfl rfl trivial ?_
     refine step_gf rfl rfl ?_
     refine step_gf rfl rfl ?_
     refine step_r rfl rfl trivial ?_
     refine step_r rfl rfl trivial ?_
     refine step_gf rfl rfl ?_
     refine step_gf rfl rfl ?_
     refine step_r rfl rfl trivial ?_
     refine step_nil ?_
     refine seqK_n ?_
     refine sem_condT rfl ?_
     refine sem_seq ?_
     refine sem_region rfl ?_
     refine step_r rfl rfl trivial ?_
     refine step_r rfl rfl trivial ?_
     refine step_nil ?_
     refine seqK_n ?_
     refine sem_ret ?_
     refine seqK_r ?_
     have e15 : ticks15 every ticks from_ to = (small15) := by
      unfold ticks15
      try dsimp only
      rewrite [if_neg g4, if_neg g7, if_neg g11, if_pos g14]
      all_goals rfl
     rw [e15]
     exact answersR rfl ⟨trivial, trivial⟩ (rfl) rfl
    ·have g14 : ¬ ((ticks : Int) > 500) := of_decide_eq_false h14
     refine step_g1 rfl h14 ?_
     refine step_r rfl rfl trivial ?_
     refine step_g1 rfl h14 ?_
     refine step_bin rfl rfl rfl rfl rfl trivial ?_
     refine step_pickF rfl h14 rfl rfl ?_
     refine step_r rfl rfl trivial ?_
     refine step_gs rfl (fun h18 => ?_) (fun h18 => ?_)
     ·have g18 : (from_ : Int) < 0 := of_decide_eq_true h18
      refine step_g0 rfl h18 rfl ?_
      refine step_g0 rfl h18 rfl ?_
      refine step_pickT rfl h18 rfl rfl ?_
      refine step_r rfl rfl trivial ?_
      refine step_gf rfl rfl ?_
      refine step_gf rfl rfl ?_
      refine step_r rfl rfl trivial ?_
      refine step_r rfl rfl trivial ?_
      refine step_gf rfl rfl ?_
      refine step_gf rfl rfl ?_
      refine step_r rfl rfl trivial ?_
      refine step_nil ?_
      refine seqK_n ?_
      refine sem_condT rfl ?_
      refine sem_seq ?_
      refine sem_region rfl ?_
      refine step_r rfl rfl trivial ?_
      refine step_r rfl rfl trivial ?_
      refine step_nil ?_
      refine seqK_n ?_
      refine sem_ret ?_
      refine seqK_r ?_
      have e19 : ticks15 every ticks from_ to = (small15) := by
       unfold ticks15
       try dsimp only
       rewrite [if_neg g4, if_neg g7, if_neg g11, if_neg g14, if_pos g18]
       all_goals rfl
      rw [e19]
      exact answersR rfl ⟨trivial, trivial⟩ (rfl) rfl
     ·have g18 : ¬ ((from_ : Int) < 0) := of_decide_eq_false h18
      refine step_g1 rfl h18 ?_
      refine step_r rfl rfl trivial ?_
      refine step_g1 rfl h18 ?_
      refine step_bin rfl rfl rfl rfl rfl trivial ?_
      refine step_pickF rfl h18 rfl rfl ?_
      refine step_r rfl rfl trivial ?_
      refine step_gs rfl (fun h21 => ?_) (fun h21 => ?_)
      ·have g21 : (from_ : Int) > 1048576 := of_decide_eq_true h21
       refine step_g0 rfl h21 rfl ?_
       refine step_g0 rfl h21 rfl ?_
       refine step_pickT rfl h21 rfl rfl ?_
       refine step_r rfl rfl trivial ?_
       refine step_gf rfl rfl ?_
       refine step_gf rfl rfl ?_
       refine step_r rfl rfl trivial ?_
       refine step_nil ?_
       refine seqK_n ?_
       refine sem_condT rfl ?_
       refine sem_seq ?_
       refine sem_region rfl ?_
       refine step_r rfl rfl trivial ?_
       refine step_r rfl rfl trivial ?_
       refine step_nil ?_
       refine seqK_n ?_
       refine sem_ret ?_
       refine seqK_r ?_
       have e22 : ticks15 every ticks from_ to = (small15) := by
        unfold ticks15
        try dsimp only
        rewrite [if_neg g4, if_neg g7, if_neg g11, if_neg g14, if_neg g18, if_pos g21]
        all_goals rfl
       rw [e22]
       exact answersR rfl ⟨trivial, trivial⟩ (rfl) rfl
      ·have g21 : ¬ ((from_ : Int) > 1048576) := of_decide_eq_false h21
       refine step_g1 rfl h21 ?_
       refine step_r rfl rfl trivial ?_
       refine step_g1 rfl h21 ?_
       refine step_bin rfl rfl rfl rfl rfl trivial ?_
       refine step_pickF rfl h21 rfl rfl ?_
       refine step_r rfl rfl trivial ?_
       refine step_gs rfl (fun h25 => ?_) (fun h25 => ?_)
       ·have g25 : (to : Int) < 0 := of_decide_eq_true h25
        refine step_g0 rfl h25 rfl ?_
        refine step_g0 rfl h25 rfl ?_
        refine step_pickT rfl h25 rfl rfl ?_
        refine step_nil ?_
        refine seqK_n ?_
        refine sem_condT rfl ?_
        refine sem_seq ?_
        refine sem_region rfl ?_
        refine step_r rfl rfl trivial ?_
        refine step_r rfl rfl trivial ?_
        refine step_nil ?_
        refine seqK_n ?_
        refine sem_ret ?_
        refine seqK_r ?_
        have e26 : ticks15 every ticks from_ to = (small15) := by
         unfold ticks15
         try dsimp only
         rewrite [if_neg g4, if_neg g7, if_neg g11, if_neg g14, if_neg g18, if_neg g21, if_pos g25]
         all_goals rfl
        rw [e26]
        exact answersR rfl ⟨trivial, trivial⟩ (rfl) rfl
       ·have g25 : ¬ ((to : Int) < 0) := of_decide_eq_false h25
        refine step_g1 rfl h25 ?_
        refine step_r rfl rfl trivial ?_
        refine step_g1 rfl h25 ?_
        refine step_bin rfl rfl rfl rfl rfl trivial ?_
        refine step_pickF rfl h25 rfl rfl ?_
        refine step_nil ?_
        refine seqK_n ?_
        refine sem_cond rfl (fun h28 => ?_) (fun h28 => ?_)
        ·have g28 : (to : Int) > 500 := of_decide_eq_true h28
         refine sem_seq ?_
         refine sem_region rfl ?_
         refine step_r rfl rfl trivial ?_
         refine step_r rfl rfl trivial ?_
         refine step_nil ?_
         refine seqK_n ?_
         refine sem_ret ?_
         refine seqK_r ?_
         have e29 : ticks15 every ticks from_ to = (small15) := by
          unfold ticks15
          try dsimp only
          rewrite [if_neg g4, if_neg g7, if_neg g11, if_neg g14, if_neg g18, if_neg g21, if_neg g25, if_pos g28]
          all_goals rfl
         rw [e29]
         exact answersR rfl ⟨trivial, trivial⟩ (rfl) rfl
        ·have g28 : ¬ ((to : Int) > 500) := of_decide_eq_false h28
         refine sem_skip ?_
         refine seqK_n ?_
         refine sem_seq ?_
         refine sem_region rfl ?_
         refine step_r rfl rfl trivial ?_
         refine step_r rfl rfl trivial ?_
         refine step_r (v := (.agg [_, _, _, _, _, _, _])) rfl rfl trivial ?_
         refine step_call rfl rfl rfl rfl (known15_ok (⟨1, 2, ticks, every, 1, 1, false⟩ : GAura)) rfl rfl rfl ?_
         refine step_n (o := .box [_, _, _, _, _, _, _, _, _, _]) (nx' := 1) rfl rfl rfl trivial ?_
         refine step_store (H' := [(0, .box [_, _, _, _, _, _, _, _, _, _])]) rfl rfl rfl rfl rfl rfl (Nat.le_of_ble_eq_true rfl) (.inl rfl) rfl ?_
         refine step_nil ?_
         refine seqK_n ?_
         refine sem_seq ?_
         refine sem_region rfl ?_
         refine step_r (v := (.agg [_, _, _, _, _, _, _, _, _, _])) rfl rfl (Nat.le_of_ble_eq_true rfl) ?_
         refine step_r rfl rfl trivial ?_
         refine step_callN (out' := .tup [.ref 1 _ _ _, _]) (H' := [(1, .row _ _ _), (0, .box [_, _, _, _, _, _, _, _, _, _])]) (nx' := 2) rfl rfl rfl rfl rfl rfl rfl (by (repeat' apply And.intro) <;> first | trivial | rfl | exact flat_len (fun _ => rfl) _ | exact encI_len _ | exact encB_len _ | exact encY_len _ | exact Nat.le_of_ble_eq_true rfl | assumption) (apply15_ok (known15 (⟨1, 2, ticks, every, 1, 1, false⟩ : GAura)) ([]) false 1 0 from_ (by first | assumption | omega | (simp only [List.length_nil, List.length_cons, List.length_append] at *; omega) | (simp; done) | (simp; omega))) rfl rfl rfl rfl ?_
         have p30 := apply15_len (known15 (⟨1, 2, ticks, every, 1, 1, false⟩ : GAura)) ([]) 1 0 from_
         refine step_r rfl rfl trivial ?_
         refine step_r rfl rfl trivial ?_
         refine step_r rfl rfl trivial ?_
         refine step_r rfl rfl trivial ?_
         refine step_r rfl rfl trivial ?_
         refine step_nil ?_
         refine seqK_n ?_
         refine sem_seq ?_
         refine sem_seq ?_
         refine sem_region rfl ?_
         refine step_r rfl rfl trivial ?_
         refine step_bin rfl rfl rfl rfl rfl trivial ?_
         refine step_nil ?_
         refine seqK_n ?_
         refine sem_cond rfl (fun h32 => ?_) (fun h32 => ?_)
         ·have g32 : ¬ (((apply15 (known15 (⟨1, 2, ticks, every, 1, 1, false⟩ : GAura)) ([]) 1 0 from_).2 : Int) = 0) := bne_t h32
          refine sem_seq ?_
          refine sem_region rfl ?_
          refine step_r rfl rfl trivial ?_
          refine step_nil ?_
          refine seqK_n ?_
          refine sem_ret ?_
          refine seqK_r ?_
          have e33 : ticks15 every ticks from_ to = false := by
           unfold ticks15
           try dsimp only
           rewrite [if_neg g4, if_neg g7, if_neg g11, if_neg g14, if_neg g18, if_neg g21, if_neg g25, if_neg g28, if_neg g32]
           all_goals rfl
          rw [e33]
          exact answersR rfl ⟨trivial, trivial⟩ (rfl) rfl
         ·have g32 : ((apply15 (known15 (⟨1, 2, ticks, every, 1, 1, false⟩ : GAura)) ([]) 1 0 from_).2 : Int) = 0 := bne_f h32
          refine sem_skip ?_
          refine seqK_n ?_
          refine sem_seq ?_
          refine sem_region rfl ?_
          refine step_r rfl rfl trivial ?_
          refine step_nil ?_
          refine seqK_n ?_
          refine sem_seq ?_
          refine sem_seq ?_
          refine sem_region rfl ?_
          refine step_r rfl rfl trivial ?_
          refine step_r rfl rfl trivial ?_
          refine step_nil ?_
          refine seqK_n ?_
          refine sem_cutW (fun n_0 : Int => (⟨[(0, I every), (3, I to), (9, B (small15)), (13, I n_0)], [], 0, [], 97, 0⟩ : St)) (fun w_ => ticks15_L0 every ticks from_ to (600) ((apply15 (known15 (⟨1, 2, ticks, every, 1, 1, false⟩ : GAura)) ([]) 1 0 from_).1) 0 from_ = .inr w_) ?_ ?_
          ·refine sem_block ?_
           refine sem_loopT (fun w_ : Nat × (List GActive) × Int × Int => match w_ with | (f0, l0, n0, now0) => (⟨[(0, I every), (2, I from_), (3, I to), (9, B (small15)), (10, .ptr 0 0), (11, .ref 1 6 0 l0.length), (13, I n0), (14, I now0)], [(0, .box [.pv (.slc (known15 (⟨1, 2, ticks, every, 1, 1, false⟩ : GAura)).Abilities.length false ((known15 (⟨1, 2, ticks, every, 1, 1, false⟩ : GAura)).Abilities.flatMap encGAbility)), .pv (.slc (known15 (⟨1, 2, ticks, every, 1, 1, false⟩ : GAura)).Auras.length false ((known15 (⟨1, 2, ticks, every, 1, 1, false⟩ : GAura)).Auras.flatMap encGAura)), .pv (.slc (known15 (⟨1, 2, ticks, every, 1, 1, false⟩ : GAura)).Foes.length false ((known15 (⟨1, 2, ticks, every, 1, 1, false⟩ : GAura)).Foes.flatMap encGFoe)), I (known15 (⟨1, 2, ticks, every, 1, 1, false⟩ : GAura)).Map.W, I (known15 (⟨1, 2, ticks, every, 1, 1, false⟩ : GAura)).Map.H, .pv (.slc (known15 (⟨1, 2, ticks, every, 1, 1, false⟩ : GAura)).Map.Wall.length false (encB (known15 (⟨1, 2, ticks, every, 1, 1, false⟩ : GAura)).Map.Wall)), I (known15 (⟨1, 2, ticks, every, 1, 1, false⟩ : GAura)).Door.X, I (known15 (⟨1, 2, ticks, every, 1, 1, false⟩ : GAura)).Door.Y, I (known15 (⟨1, 2, ticks, every, 1, 1, false⟩ : GAura)).Lair.X, I (known15 (⟨1, 2, ticks, every, 1, 1, false⟩ : GAura)).Lair.Y]), (1, .row 42 6 (l0.flatMap encGActive))], 2, [], 97, 0⟩ : St)) (fun w_ : Nat × (List GActive) × Int × Int => match w_ with | (f0, l0, n0, now0) => ticks15_L0 every ticks from_ to f0 l0 n0 now0 = ticks15_L0 every ticks from_ to (600) ((apply15 (known15 (⟨1, 2, ticks, every, 1, 1, false⟩ : GAura)) ([]) 1 0 from_).1) 0 from_ ∧ (from_ + to + 1 - now0).toNat < f0 ∧ l0.length = 1 ∧ from_ ≤ now0 ∧ now0 ≤ from_ + to + 1) (fun w_ : Nat × (List GActive) × Int × Int => match w_ with | (f0, l0, n0, now0) => f0) (600, (apply15 (known15 (⟨1, 2, ticks, every, 1, 1, false⟩ : GAura)) ([]) 1 0 from_).1, 0, from_) (⟨rfl, (by first | omega | (simp; omega)), ⟨apply_one (by assumption), by omega, by omega⟩⟩) ?_ (fun w_ hh_ => ?_)
           ·exact (Trans.ren [] (by decide +kernel) (by decide +kernel) rfl ⟨⟨rfl, rfl⟩, ⟨rfl, rfl⟩, ⟨rfl, rfl⟩, ⟨rfl, rfl⟩, ⟨rfl, rfl⟩, ⟨rfl, rfl⟩, ⟨rfl, rfl⟩, ⟨rfl, rfl⟩, trivial⟩ ⟨⟨rfl, rfl, rfl⟩, ⟨rfl, rfl, rfl⟩, trivial⟩ (by decide))
           obtain ⟨f0, l0, n0, now0⟩ := w_
           obtain ⟨hI0, hb0, hv0⟩ := hh_
           obtain ⟨f0, rfl⟩ : ∃ z_, f0 = z_ + 1 := ⟨f0 - 1, by omega⟩
           show Walks Try.prog _ _ (⟨[(0, I every), (2, I from_), (3, I to), (9, B (small15)), (10, .ptr 0 0), (11, .ref 1 6 0 l0.length), (13, I n0), (14, I now0)], [(0, .box [.pv (.slc (known15 (⟨1, 2, ticks, every, 1, 1, false⟩ : GAura)).Abilities.length false ((known15 (⟨1, 2, ticks, every, 1, 1, false⟩ : GAura)).Abilities.flatMap encGAbility)), .pv (.slc (known15 (⟨1, 2, ticks, every, 1, 1, false⟩ : GAura)).Auras.length false ((known15 (⟨1, 2, ticks, every, 1, 1, false⟩ : GAura)).Auras.flatMap encGAura)), .pv (.slc (known15 (⟨1, 2, ticks, every, 1, 1, false⟩ : GAura)).Foes.length false ((known15 (⟨1, 2, ticks, every, 1, 1, false⟩ : GAura)).Foes.flatMap encGFoe)), I (known15 (⟨1, 2, ticks, every, 1, 1, false⟩ : GAura)).Map.W, I (known15 (⟨1, 2, ticks, every, 1, 1, false⟩ : GAura)).Map.H, .pv (.slc (known15 (⟨1, 2, ticks, every, 1, 1, false⟩ : GAura)).Map.Wall.length false (encB (known15 (⟨1, 2, ticks, every, 1, 1, false⟩ : GAura)).Map.Wall)), I (known15 (⟨1, 2, ticks, every, 1, 1, false⟩ : GAura)).Door.X, I (known15 (⟨1, 2, ticks, every, 1, 1, false⟩ : GAura)).Door.Y, I (known15 (⟨1, 2, ticks, every, 1, 1, false⟩ : GAura)).Lair.X, I (known15 (⟨1, 2, ticks, every, 1, 1, false⟩ : GAura)).Lair.Y]), (1, .row 42 6 (l0.flatMap encGActive))], 2, [], 97, 0⟩ : St)
           refine sem_seq ?_
           refine sem_seq ?_
           refine sem_region rfl ?_
           refine step_r rfl rfl trivial ?_
           refine step_r rfl rfl trivial ?_
           refine step_r rfl rfl trivial ?_
           refine step_bin rfl rfl rfl rfl rfl trivial ?_
           refine step_bin rfl rfl rfl rfl rfl trivial ?_
           refine step_nil ?_
           refine seqK_n ?_
           refine sem_cond rfl (fun h38 => ?_) (fun h38 => ?_)
           ·have g38 : (now0 : Int) ≤ (IntKind.i64.wrap (from_ + to)) := of_decide_eq_true h38
            refine sem_skip ?_
            refine seqK_n ?_
            refine sem_seq ?_
            refine sem_block ?_
            refine sem_seq ?_
            refine sem_region rfl ?_
            refine step_r (v := (.agg [_, _, _, _, _, _, _, _, _, _])) rfl rfl (Nat.le_of_ble_eq_true rfl) ?_
            refine step_r rfl rfl trivial ?_
            refine step_r rfl rfl trivial ?_
            refine step_callJ (Hin := [.row _ _ _]) (out' := .tup [.ref 2 _ _ _, .ref 3 _ _ _]) (H' := [(2, .row _ _ _), (3, .row _ _ _), (0, .box [_, _, _, _, _, _, _, _, _, _]), (1, .row _ _ _)]) (nx' := 4) [1] rfl rfl rfl rfl rfl rfl rfl rfl rfl (by (repeat' apply And.intro) <;> first | trivial | rfl | exact flat_len (s := 6) (enc := encGActive) (fun _ => rfl) _ | exact flat_len (fun _ => rfl) _ | exact encI_len _ | exact encB_len _ | exact encY_len _ | exact Nat.le_of_ble_eq_true rfl | assumption) (tick15_ok (known15 (⟨1, 2, ticks, every, 1, 1, false⟩ : GAura)) l0 false now0 (by first | assumption | omega | (simp only [List.length_nil, List.length_cons, List.length_append] at *; omega) | (simp; done) | (simp; omega))) rfl (by decide) rfl rfl ⟨encGActive_solid, encGActive_solid, trivial⟩ rfl rfl rfl rfl ?_
            have p39 := tick15_len (known15 (⟨1, 2, ticks, every, 1, 1, false⟩ : GAura)) l0 now0
            refine step_r rfl rfl trivial ?_
            refine step_r rfl rfl trivial ?_
            refine step_r rfl rfl trivial ?_
            refine step_r rfl rfl trivial ?_
            refine step_r rfl rfl trivial ?_
            refine step_nil ?_
            refine seqK_n ?_
            refine sem_seq ?_
            refine sem_seq ?_
            refine sem_region rfl ?_
            refine step_r rfl rfl trivial ?_
            refine step_r rfl rfl trivial ?_
            refine step_bin rfl rfl rfl rfl rfl trivial ?_
            refine step_r rfl rfl trivial ?_
            refine step_gs rfl (fun h41 => ?_) (fun h41 => ?_)
            ·have g41 : ((tick15 (known15 (⟨1, 2, ticks, every, 1, 1, false⟩ : GAura)) l0 now0).2.length : Int) > 1 := of_decide_eq_true h41
             refine step_g0 rfl h41 rfl ?_
             refine step_g0 rfl h41 rfl ?_
             refine step_g0 rfl h41 rfl ?_
             refine step_pickT rfl h41 rfl rfl ?_
             refine step_nil ?_
             refine seqK_n ?_
             refine sem_condT rfl ?_
             refine sem_seq ?_
             refine sem_region rfl ?_
             refine step_r rfl rfl trivial ?_
             refine step_nil ?_
             refine seqK_n ?_
             refine sem_ret ?_
             refine seqK_r ?_
             refine blkK_r ?_
             refine seqK_r ?_
             refine lupK_r ?_
             refine blkK_r ?_
             refine cutW_r ?_
             refine seqK_r ?_
             have e42 : ticks15_L0 every ticks from_ to (600) ((apply15 (known15 (⟨1, 2, ticks, every, 1, 1, false⟩ : GAura)) ([]) 1 0 from_).1) 0 from_ = .inl false := by
              rewrite [← hI0]
              rewrite [ticks15_L0]
              try dsimp only
              rewrite [if_pos g38, if_pos g41]
              all_goals rfl
             have e43 : ticks15 every ticks from_ to = false := by
              unfold ticks15
              try dsimp only
              rewrite [if_neg g4, if_neg g7, if_neg g11, if_neg g14, if_neg g18, if_neg g21, if_neg g25, if_neg g28, if_pos g32, e42]
              try dsimp only
              all_goals rfl
             rw [e43]
             exact answersR rfl ⟨trivial, trivial⟩ (rfl) rfl
            ·have g41 : ¬ (((tick15 (known15 (⟨1, 2, ticks, every, 1, 1, false⟩ : GAura)) l0 now0).2.length : Int) > 1) := of_decide_eq_false h41
             refine step_g1 rfl h41 ?_
             refine step_r rfl rfl trivial ?_
             refine step_g1 rfl h41 ?_
             refine step_r rfl rfl trivial ?_
             refine step_g1 rfl h41 ?_
             refine step_bin rfl rfl rfl rfl rfl trivial ?_
             refine step_pickF rfl h41 rfl rfl ?_
             refine step_nil ?_
             refine seqK_n ?_
             refine sem_cond rfl (fun h45 => ?_) (fun h45 => ?_)
             ·have g45 : ¬ (((tick15 (known15 (⟨1, 2, ticks, every, 1, 1, false⟩ : GAura)) l0 now0).1.length : Int) = 1) := bne_t h45
              refine sem_seq ?_
              refine sem_region rfl ?_
              refine step_r rfl rfl trivial ?_
              refine step_nil ?_
              refine seqK_n ?_
              refine sem_ret ?_
              refine seqK_r ?_
              refine blkK_r ?_
              refine seqK_r ?_
              refine lupK_r ?_
              refine blkK_r ?_
              refine cutW_r ?_
              refine seqK_r ?_
              have e46 : ticks15_L0 every ticks from_ to (600) ((apply15 (known15 (⟨1, 2, ticks, every, 1, 1, false⟩ : GAura)) ([]) 1 0 from_).1) 0 from_ = .inl false := by
               rewrite [← hI0]
               rewrite [ticks15_L0]
               try dsimp only
               rewrite [if_pos g38, if_neg g41, if_neg g45]
               all_goals rfl
              have e47 : ticks15 every ticks from_ to = false := by
               unfold ticks15
               try dsimp only
               rewrite [if_neg g4, if_neg g7, if_neg g11, if_neg g14, if_neg g18, if_neg g21, if_neg g25, if_neg g28, if_pos g32, e46]
               try dsimp only
               all_goals rfl
              rw [e47]
              exact answersR rfl ⟨trivial, trivial⟩ (rfl) rfl
             ·have g45 : ((tick15 (known15 (⟨1, 2, ticks, every, 1, 1, false⟩ : GAura)) l0 now0).1.length : Int) = 1 := bne_f h45
              refine sem_skip ?_
              refine seqK_n ?_
              refine sem_seq ?_
              refine sem_region rfl ?_
              refine step_r rfl rfl trivial ?_
              refine step_r rfl rfl trivial ?_
              refine step_r rfl rfl trivial ?_
              refine step_bin rfl rfl rfl rfl rfl trivial ?_
              refine step_r rfl rfl trivial ?_
              refine step_nil ?_
              refine seqK_n ?_
              refine sem_region rfl ?_
              refine step_r rfl rfl trivial ?_
              refine step_r rfl rfl trivial ?_
              refine step_nil ?_
              refine blkK_n ?_
              refine seqK_n ?_
              refine sem_region rfl ?_
              refine step_r rfl rfl trivial ?_
              refine step_bin rfl rfl rfl rfl rfl trivial ?_
              refine step_r rfl rfl trivial ?_
              refine step_nil ?_
              have e51 : ticks15_L0 every ticks from_ to (f0 + 1) l0 n0 now0 = ticks15_L0 every ticks from_ to f0 ((tick15 (known15 (⟨1, 2, ticks, every, 1, 1, false⟩ : GAura)) l0 now0).1) (IntKind.i64.wrap (n0 + ((tick15 (known15 (⟨1, 2, ticks, every, 1, 1, false⟩ : GAura)) l0 now0).2.length))) (IntKind.i64.wrap (now0 + 1)) := by
               rewrite [ticks15_L0]
               try dsimp only
               rewrite [if_pos g38, if_neg g41, if_pos g45]
               all_goals rfl
              exact lup_againT (f0, (tick15 (known15 (⟨1, 2, ticks, every, 1, 1, false⟩ : GAura)) l0 now0).1, (IntKind.i64.wrap (n0 + ((tick15 (known15 (⟨1, 2, ticks, every, 1, 1, false⟩ : GAura)) l0 now0).2.length))), (IntKind.i64.wrap (now0 + 1))) ⟨e51.symm.trans hI0, (by simp only [IntKind.wrap_i64] at *; omega), (by simp only [IntKind.wrap_i64] at *; omega)⟩ (Nat.lt_succ_self _) (Trans.ren [(1, 2), (2, 1)] (by decide +kernel) (by decide +kernel) rfl ⟨⟨rfl, rfl⟩, ⟨rfl, rfl⟩, ⟨rfl, rfl⟩, ⟨rfl, rfl⟩, ⟨rfl, rfl⟩, ⟨rfl, rfl⟩, ⟨rfl, rfl⟩, ⟨rfl, rfl⟩, trivial⟩ ⟨⟨rfl, rfl, rfl⟩, ⟨rfl, rfl, rfl⟩, trivial⟩ (by decide))
           ·have g38 : ¬ ((now0 : Int) ≤ (IntKind.i64.wrap (from_ + to))) := of_decide_eq_false h38
            refine sem_exit ?_
            refine seqK_e ?_
            refine lupK_e ?_
            refine blkK_t rfl ?_
            have e52 : ticks15_L0 every ticks from_ to (600) ((apply15 (known15 (⟨1, 2, ticks, every, 1, 1, false⟩ : GAura)) ([]) 1 0 from_).1) 0 from_ = .inr n0 := by
             rewrite [← hI0]
             rewrite [ticks15_L0]
             try dsimp only
             rewrite [if_neg g38]
             all_goals rfl
            exact cutW_n n0 e52 (Trans.ren [] (by decide +kernel) (by decide +kernel) rfl ⟨⟨rfl, rfl⟩, ⟨rfl, rfl⟩, ⟨rfl, rfl⟩, ⟨rfl, rfl⟩, trivial⟩ trivial (by decide))
          ·rintro n_0 (hJ34 : ticks15_L0 every ticks from_ to (600) ((apply15 (known15 (⟨1, 2, ticks, every, 1, 1, false⟩ : GAura)) ([]) 1 0 from_).1) 0 from_ = .inr n_0)
           show seqK _ _ _ .normal (⟨[(0, I every), (3, I to), (9, B (small15)), (13, I n_0)], [], 0, [], 97, 0⟩ : St)
           refine seqK_n ?_
           refine sem_seq ?_
           refine sem_region rfl ?_
           refine step_r rfl rfl trivial ?_
           refine step_r rfl rfl trivial ?_
           refine step_gs rfl (fun h54 => ?_) (fun h54 => ?_)
           ·have g54 : small15 = true := h54
            refine step_g1 rfl h54 ?_
            refine step_r rfl rfl trivial ?_
            refine step_g1 rfl h54 ?_
            refine step_r rfl rfl trivial ?_
            refine step_g1 rfl h54 ?_
            refine step_r rfl rfl trivial ?_
            refine step_g1 rfl h54 ?_
            refine step_bin rfl rfl rfl rfl rfl (by first | decide | omega | simp_all) ?_
            refine step_g1 rfl h54 ?_
            refine step_bin rfl rfl rfl rfl rfl trivial ?_
            refine step_pickT rfl h54 rfl rfl ?_
            refine step_r rfl rfl trivial ?_
            refine step_nil ?_
            refine seqK_n ?_
            refine sem_ret ?_
            have e59 : ticks15 every ticks from_ to = ((n_0 : Int) == (IntKind.i64.wrap ((to : Int).tdiv every))) := by
             unfold ticks15
             try dsimp only
             rewrite [if_neg g4, if_neg g7, if_neg g11, if_neg g14, if_neg g18, if_neg g21, if_neg g25, if_neg g28, if_pos g32, hJ34]
             try dsimp only
             rewrite [if_pos g54]
             all_goals rfl
            rw [e59]
            exact answersR rfl ⟨trivial, trivial⟩ (rfl) rfl
           ·have g54 : ¬ (small15 = true) := boo_f h54
            refine step_g0 rfl h54 rfl ?_
            refine step_g0 rfl h54 rfl ?_
            refine step_g0 rfl h54 rfl ?_
            refine step_g0 rfl h54 rfl ?_
            refine step_g0 rfl h54 rfl ?_
            refine step_pickF rfl h54 rfl rfl ?_
            refine step_r rfl rfl trivial ?_
            refine step_nil ?_
            refine seqK_n ?_
            refine sem_ret ?_
            have e60 : ticks15 every ticks from_ to = false := by
             unfold ticks15
             try dsimp only
             rewrite [if_neg g4, if_neg g7, if_neg g11, if_neg g14, if_neg g18, if_neg g21, if_neg g25, if_neg g28, if_pos g32, hJ34]
             try dsimp only
             rewrite [if_neg g54]
             all_goals rfl
            rw [e60]
            exact answersR rfl ⟨trivial, trivial⟩ (rfl) rfl
end Go.Proofs.Ytcbdecknbfabaaa

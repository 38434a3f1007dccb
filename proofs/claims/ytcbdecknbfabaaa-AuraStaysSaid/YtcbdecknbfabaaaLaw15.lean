import Derived.Test.YtcbdecknbfabaaaAura
namespace Go.Proofs.Ytcbdecknbfabaaa
open Go Go.RowKit Go.Proofs.YtcbdecknbfabaaaVm
attribute [local irreducible] opsWp AnswersE OpsS
set_option maxHeartbeats 400000
set_option maxRecDepth 100000
set_option linter.all false
theorem sameL (a : List GActive) (a_f : Bool) (b : List GActive) (b_f : Bool) : Ok Try.prog 13 [.pv (.slc a.length a_f (a.flatMap encGActive)), .pv (.slc b.length b_f (b.flatMap encGActive))] [] (B (decide (a = b))) [] [] := by
 refine Ok.len fun hlen => ?_
 have hl_a : a.length ≤ maxLen := hlen _ (by simp [lensL, lens, lensP])
 have hl_b : b.length ≤ maxLen := hlen _ (by simp [lensL, lens, lensP])
 unfold maxLen at hl_a hl_b
 refine ok_of_sem Try.func13 rfl ?_
 show Walks Try.prog _ _ ⟨[(0, .pv (.slc a.length a_f (a.flatMap encGActive))), (1, .pv (.slc b.length b_f (b.flatMap encGActive)))], [], 0, [], 26, 0⟩
 refine sem_seq (sem_region rfl (step_r rfl rfl trivial (step_nil (seqK_n (sem_seq (sem_seq (sem_region rfl (step_r rfl rfl trivial (step_r rfl rfl trivial (step_r rfl rfl trivial (step_r rfl rfl trivial ?_)))))))))))
 refine step_bin rfl rfl rfl rfl rfl trivial (step_nil (seqK_n ?_))
 refine sem_cond rfl (fun h1 => ?_) (fun h1 => ?_)
 ·skip
  refine sem_seq (sem_region rfl (step_r rfl rfl trivial (step_nil (seqK_n (sem_ret (seqK_r ?_))))))
  have hne : ¬ a.length = b.length := by
   have h := h1; simp at h; omega
  exact answersR rfl (by simp) (congrArg B (decide_eq_false (fun e => hne (by rw [e]))).symm) rfl
 ·have hlen : a.length = b.length := by
   have h := h1; simp at h; omega
  refine sem_skip (seqK_n (sem_seq (sem_seq (sem_region rfl (step_r rfl rfl trivial (step_nil (seqK_n (sem_block ?_))))))))
  refine sem_loop_of (fun k : Nat => (⟨[(0, .pv (.slc a.length a_f (a.flatMap encGActive))), (1, .pv (.slc b.length b_f (b.flatMap encGActive))), (5, I k)], [], 0, [], 26, 0⟩ : St)) (fun k : Nat => k ≤ a.length ∧ a.take k = b.take k) (fun k : Nat => a.length - k) 0 (⟨Nat.zero_le _, rfl⟩) (less_of rfl ⟨⟨rfl, rfl⟩, ⟨rfl, rfl⟩, ⟨rfl, rfl⟩, trivial⟩ trivial (fun _ _ => .inr (Nat.zero_le _))) (fun k hI => ?_)
  show Walks Try.prog _ _ (⟨[(0, .pv (.slc a.length a_f (a.flatMap encGActive))), (1, .pv (.slc b.length b_f (b.flatMap encGActive))), (5, I k)], [], 0, [], 26, 0⟩ : St)
  refine sem_seq (sem_seq (sem_region rfl (step_r rfl rfl trivial (step_r rfl rfl trivial (step_r rfl rfl trivial (step_bin rfl rfl rfl rfl rfl trivial (step_nil (seqK_n ?_))))))))
  refine sem_cond rfl (fun h3 => ?_) (fun h3 => ?_)
  ·have hk : k < a.length := by simpa using h3
   have hk2 : k < b.length := by omega
   obtain ⟨x, hx⟩ : ∃ x, a[k]? = some x := ⟨_, List.getElem?_eq_getElem hk⟩
   obtain ⟨y, hy⟩ : ∃ y, b[k]? = some y := ⟨_, List.getElem?_eq_getElem hk2⟩
   refine sem_skip (seqK_n (sem_seq (sem_block (sem_seq ?_))))
   refine sem_drawn rfl (by decide +kernel) rfl ?_
   refine step_r rfl rfl trivial (step_r rfl rfl trivial (step_idxS (k := k) rfl rfl rfl rfl hk (flat_ne (s := 6) (enc := encGActive) (fun _ => rfl) (by decide) hk) rfl (step_load_row rfl rfl rfl (flat_lt (s := 6) (enc := encGActive) (fun _ => rfl) hk) (flat_take (s := 6) (enc := encGActive) (fun _ => rfl) hx) rfl (step_r rfl rfl trivial (step_r rfl rfl trivial (step_idxS (k := k) rfl rfl rfl rfl hk2 (flat_ne (s := 6) (enc := encGActive) (fun _ => rfl) (by decide) hk2) rfl (step_load_row rfl rfl rfl (flat_lt (s := 6) (enc := encGActive) (fun _ => rfl) hk2) (flat_take (s := 6) (enc := encGActive) (fun _ => rfl) hy) rfl ?_)))))))
   refine step_neqA rfl rfl rfl (by kernel_rfl) rfl rfl rfl rfl rfl ?_
   refine step_nil (seqK_n ?_)
   refine sem_cond rfl (fun h4 => ?_) (fun h4 => ?_)
   ·have hne : x ≠ y := by
     intro e; subst e; simp at h4
    refine sem_seq (sem_region rfl (step_r rfl rfl trivial (step_nil (seqK_n (sem_ret (blkK_r (seqK_r (lupK_r (blkK_r (seqK_r ?_))))))))))
    exact answersR rfl (by simp) (congrArg B (decide_eq_false (same_no hx hy hne)).symm) rfl
   ·have hxy : x = y := by
     have h := h4
     simp at h
     rcases x with ⟨⟩; rcases y with ⟨⟩; simp_all
    refine sem_skip (blkK_n (seqK_n (sem_region rfl (step_r rfl rfl trivial (step_bin rfl rfl rfl rfl rfl trivial (step_r rfl rfl trivial (step_nil ?_)))))))
    exact lup_again (k+1) (⟨hk, by rw [take_snoc hx, take_snoc hy, hI.2, hxy]⟩) (by omega) (less_of rfl ⟨⟨rfl, rfl⟩, ⟨rfl, rfl⟩, ⟨congrArg (fun n => some (I n)) (wrapK hk hl_a), rfl⟩, trivial⟩ trivial (fun _ _ => .inr (Nat.zero_le _)))
  ·have hk : k = a.length := by have := of_decide_eq_false h3; have := hI.1; omega
   refine sem_exit (seqK_e (lupK_e (blkK_t rfl (seqK_n (sem_seq (sem_region rfl (step_r rfl rfl trivial (step_nil (seqK_n (sem_ret ?_))))))))))
   exact answersR rfl (by simp) (congrArg B (decide_eq_true (same_all hI.2 hk hlen)).symm) rfl

def known15 (a : GAura) : GContent :=
  (⟨[], [a], [], (⟨1, 1, [false]⟩ : GGrid), (⟨0, 0⟩ : GPos), (⟨0, 0⟩ : GPos)⟩ : GContent)
theorem known15_ok (a : GAura) : Ok Try.prog 20 [aGAura a] [] (aGContent (known15 a)) [] [] := by
 refine ok_of_sem Try.func20 rfl ?_
 show Walks Try.prog _ _ ⟨[(0, aGAura a)], [], 0, [], 8, 0⟩
 refine sem_seq (sem_region rfl (step_n (o := .box [_, _, _, _, _, _, _]) (nx' := 1) rfl rfl rfl trivial (step_n (o := .box [_, _, _, _, _, _, _, _, _, _]) (nx' := 2) rfl rfl rfl trivial (step_nil (seqK_n (sem_seq (sem_region rfl (step_r (v := (.agg [_, _, _, _, _, _, _])) rfl rfl (Nat.le_of_ble_eq_true rfl) (step_n (o := .row _ _ [_, _, _, _, _, _, _]) (nx' := 3) rfl rfl rfl (by decide) (step_n (o := .row _ _ [_]) (nx' := 4) rfl rfl rfl (by decide) (step_r (v := (.agg [_, _, _])) rfl rfl trivial ?_)))))))))))
 refine step_r (v := (.agg [_, _, _, _, _, _, _, _, _, _])) rfl rfl trivial (step_store (H' := [(3, .row _ _ _), (2, .row _ _ _), (1, .box [_, _, _, _, _, _, _, _, _, _]), (0, .box [_, _, _, _, _, _, _])]) rfl rfl rfl rfl rfl rfl (Nat.le_of_ble_eq_true rfl) (.inl rfl) rfl (step_nil (seqK_n ?_)))
 refine sem_trans (Trans.freezeJ (T' := [(2, .ptr 1 0)]) (H' := [(1, .box [.pv (.slc 0 false []), .pv (.slc ([a]).length false ([a].flatMap encGAura)), .pv (.slc 0 false []), I 1, I 1, .pv (.slc ([false]).length false (encB [false])), I 0, I 0, I 0, I 0]), (0, .box [I a.Id, I a.Kind, I a.Ticks, I a.Every, I a.Stacks, I a.Amount, B a.Harm])]) [2, 3] (by decide) ⟨⟨_, _, rfl, rfl, (by (repeat' apply And.intro) <;> first | trivial | rfl | exact flat_len (fun _ => rfl) _ | exact encI_len _ | exact Nat.le_of_ble_eq_true rfl | assumption)⟩, trivial⟩ ⟨⟨rfl, _, _, rfl, rfl, (by (repeat' apply And.intro) <;> first | trivial | rfl | exact flat_len (fun _ => rfl) _ | exact encI_len _ | exact Nat.le_of_ble_eq_true rfl | assumption)⟩, ⟨rfl, _, _, rfl, rfl, (by (repeat' apply And.intro) <;> first | trivial | rfl | exact flat_len (fun _ => rfl) _ | exact encI_len _ | exact Nat.le_of_ble_eq_true rfl | assumption)⟩, trivial⟩) ?_
 refine sem_trans (Trans.loose (T' := [(2, .ptr 1 0)]) (H' := [(1, .box [.pv (.slc 0 false []), .pv (.slc ([a]).length false ([a].flatMap encGAura)), .pv (.slc 0 false []), I 1, I 1, .pv (.slc ([false]).length false (encB [false])), I 0, I 0, I 0, I 0])]) ⟨⟨_, rfl, .inl rfl⟩, trivial⟩ ⟨⟨_, rfl, .inr rfl⟩, trivial⟩) ?_
 refine sem_ret ?_
 have e1 : known15 a = (⟨[], [a], [], (⟨1, 1, [false]⟩ : GGrid), (⟨0, 0⟩ : GPos), (⟨0, 0⟩ : GPos)⟩ : GContent) := by
  unfold known15
  try dsimp only
  all_goals rfl
 rw [e1]
 exact answersR rfl ⟨Nat.le_of_ble_eq_true rfl, trivial⟩ (rfl) rfl

def small15 : Bool :=
  if ((apply15 (known15 (⟨1, 1, 5, 2, 2, 3, true⟩ : GAura)) ([]) 1 7 10).2 : Int) = 0 then (if ((apply15 (known15 (⟨1, 1, 5, 2, 2, 3, true⟩ : GAura)) ([]) 1 7 10).1) = ([(⟨1, 7, 1, 15, 12, 0⟩ : GActive)]) then (if ((apply15 (known15 (⟨1, 1, 5, 2, 2, 3, true⟩ : GAura)) ((apply15 (known15 (⟨1, 1, 5, 2, 2, 3, true⟩ : GAura)) ([]) 1 7 10).1) 1 7 11).2 : Int) = 0 then (if ((apply15 (known15 (⟨1, 1, 5, 2, 2, 3, true⟩ : GAura)) ((apply15 (known15 (⟨1, 1, 5, 2, 2, 3, true⟩ : GAura)) ([]) 1 7 10).1) 1 7 11).1) = ([(⟨1, 7, 2, 16, 12, 0⟩ : GActive)]) then (if ((tick15 (known15 (⟨1, 1, 5, 2, 2, 3, true⟩ : GAura)) ((apply15 (known15 (⟨1, 1, 5, 2, 2, 3, true⟩ : GAura)) ((apply15 (known15 (⟨1, 1, 5, 2, 2, 3, true⟩ : GAura)) ([]) 1 7 10).1) 1 7 11).1) 12).2) = ((apply15 (known15 (⟨1, 1, 5, 2, 2, 3, true⟩ : GAura)) ((apply15 (known15 (⟨1, 1, 5, 2, 2, 3, true⟩ : GAura)) ([]) 1 7 10).1) 1 7 11).1) then (if ((tick15 (known15 (⟨1, 1, 5, 2, 2, 3, true⟩ : GAura)) ((apply15 (known15 (⟨1, 1, 5, 2, 2, 3, true⟩ : GAura)) ((apply15 (known15 (⟨1, 1, 5, 2, 2, 3, true⟩ : GAura)) ([]) 1 7 10).1) 1 7 11).1) 12).1.length : Int) = 1 then (if ((((tick15 (known15 (⟨1, 1, 5, 2, 2, 3, true⟩ : GAura)) ((apply15 (known15 (⟨1, 1, 5, 2, 2, 3, true⟩ : GAura)) ((apply15 (known15 (⟨1, 1, 5, 2, 2, 3, true⟩ : GAura)) ([]) 1 7 10).1) 1 7 11).1) 12).1).getD 0 default).Next : Int) = 14 then (if ((expire15 ((tick15 (known15 (⟨1, 1, 5, 2, 2, 3, true⟩ : GAura)) ((apply15 (known15 (⟨1, 1, 5, 2, 2, 3, true⟩ : GAura)) ((apply15 (known15 (⟨1, 1, 5, 2, 2, 3, true⟩ : GAura)) ([]) 1 7 10).1) 1 7 11).1) 12).1) 16).1.length : Int) = 0 then (if ((expire15 ((tick15 (known15 (⟨1, 1, 5, 2, 2, 3, true⟩ : GAura)) ((apply15 (known15 (⟨1, 1, 5, 2, 2, 3, true⟩ : GAura)) ((apply15 (known15 (⟨1, 1, 5, 2, 2, 3, true⟩ : GAura)) ([]) 1 7 10).1) 1 7 11).1) 12).1) 16).2.length : Int) = 1 then (if ((dispel15 (known15 (⟨1, 1, 5, 2, 2, 3, true⟩ : GAura)) ((apply15 (known15 (⟨1, 1, 5, 2, 2, 3, true⟩ : GAura)) ((apply15 (known15 (⟨1, 1, 5, 2, 2, 3, true⟩ : GAura)) ([]) 1 7 10).1) 1 7 11).1) 1).1.length : Int) = 0 then (if ((dispel15 (known15 (⟨1, 1, 5, 2, 2, 3, true⟩ : GAura)) ((apply15 (known15 (⟨1, 1, 5, 2, 2, 3, true⟩ : GAura)) ((apply15 (known15 (⟨1, 1, 5, 2, 2, 3, true⟩ : GAura)) ([]) 1 7 10).1) 1 7 11).1) 1).2.length : Int) = 1 then (if right15 (known15 (⟨1, 1, 5, 2, 2, 3, true⟩ : GAura)) ((apply15 (known15 (⟨1, 1, 5, 2, 2, 3, true⟩ : GAura)) ((apply15 (known15 (⟨1, 1, 5, 2, 2, 3, true⟩ : GAura)) ([]) 1 7 10).1) 1 7 11).1) = true then ((sum15 (known15 (⟨1, 1, 5, 2, 2, 3, true⟩ : GAura)) ((apply15 (known15 (⟨1, 1, 5, 2, 2, 3, true⟩ : GAura)) ((apply15 (known15 (⟨1, 1, 5, 2, 2, 3, true⟩ : GAura)) ([]) 1 7 10).1) 1 7 11).1) 1 : Int) == 6) else false) else false) else false) else false) else false) else false) else false) else false) else false) else false) else false) else false
theorem small15_ok  : Ok Try.prog 7 [] [] (B (small15)) [] [] := by
 refine ok_of_sem Try.func7 rfl ?_
 show Walks Try.prog _ _ ⟨[], [], 0, [], 108, 0⟩
 refine sem_seq (sem_region rfl (step_r rfl rfl trivial (step_nil (seqK_n (sem_seq (sem_region rfl (step_r (v := (.agg [_, _, _, _, _, _, _])) rfl rfl trivial (step_call rfl rfl rfl rfl (known15_ok (⟨1, 1, 5, 2, 2, 3, true⟩ : GAura)) rfl rfl rfl (step_n (o := .box [_, _, _, _, _, _, _, _, _, _]) (nx' := 1) rfl rfl rfl trivial (step_store (H' := [(0, .box [_, _, _, _, _, _, _, _, _, _])]) rfl rfl rfl rfl rfl rfl (Nat.le_of_ble_eq_true rfl) (.inl rfl) rfl (step_nil ?_)))))))))))
 refine seqK_n (sem_seq (sem_region rfl (step_r (v := (.agg [_, _, _, _, _, _, _, _, _, _])) rfl rfl (Nat.le_of_ble_eq_true rfl) ?_)))
 refine step_callN (out' := .tup [.ref 1 _ _ _, _]) (H' := [(1, .row _ _ _), (0, .box [_, _, _, _, _, _, _, _, _, _])]) (nx' := 2) rfl rfl rfl rfl rfl rfl rfl (by (repeat' apply And.intro) <;> first | trivial | rfl | exact flat_len (fun _ => rfl) _ | exact encI_len _ | exact Nat.le_of_ble_eq_true rfl | assumption) (apply15_ok (known15 (⟨1, 1, 5, 2, 2, 3, true⟩ : GAura)) ([]) false 1 7 10 (by first | assumption | omega | (simp only [List.length_nil, List.length_cons, List.length_append] at *; omega) | (simp; done) | (simp; omega))) rfl rfl rfl rfl ?_
 have p1 := apply15_len (known15 (⟨1, 1, 5, 2, 2, 3, true⟩ : GAura)) ([]) 1 7 10
 refine step_r rfl rfl trivial (step_r rfl rfl trivial (step_r rfl rfl trivial (step_r rfl rfl trivial (step_r rfl rfl trivial (step_nil (seqK_n (sem_seq (sem_region rfl (step_r (v := (.agg [_, _, _, _, _, _, _, _, _, _])) rfl rfl (Nat.le_of_ble_eq_true rfl) (step_r rfl rfl trivial ?_))))))))))
 refine step_callJ (Hin := [.row _ _ _]) (out' := .tup [.ref 2 _ _ _, _]) (H' := [(2, .row _ _ _), (1, .row _ _ _), (0, .box [_, _, _, _, _, _, _, _, _, _])]) (nx' := 3) [1] rfl rfl rfl rfl rfl rfl rfl rfl rfl (by (repeat' apply And.intro) <;> first | trivial | rfl | exact flat_len (s := 6) (enc := encGActive) (fun _ => rfl) _ | exact flat_len (fun _ => rfl) _ | exact encI_len _ | exact Nat.le_of_ble_eq_true rfl | assumption) (apply15_ok (known15 (⟨1, 1, 5, 2, 2, 3, true⟩ : GAura)) ((apply15 (known15 (⟨1, 1, 5, 2, 2, 3, true⟩ : GAura)) ([]) 1 7 10).1) false 1 7 11 (by first | assumption | omega | (simp only [List.length_nil, List.length_cons, List.length_append] at *; omega) | (simp; done) | (simp; omega))) rfl (by decide) rfl rfl ⟨encGActive_solid, trivial⟩ rfl rfl rfl rfl ?_
 have p3 := apply15_len (known15 (⟨1, 1, 5, 2, 2, 3, true⟩ : GAura)) ((apply15 (known15 (⟨1, 1, 5, 2, 2, 3, true⟩ : GAura)) ([]) 1 7 10).1) 1 7 11
 refine step_r rfl rfl trivial (step_r rfl rfl trivial (step_r rfl rfl trivial (step_r rfl rfl trivial (step_r rfl rfl trivial (step_nil (seqK_n (sem_seq (sem_region rfl (step_r (v := (.agg [_, _, _, _, _, _, _, _, _, _])) rfl rfl (Nat.le_of_ble_eq_true rfl) (step_r rfl rfl trivial ?_))))))))))
 refine step_callJ (Hin := [.row _ _ _]) (out' := .tup [.ref 3 _ _ _, .ref 4 _ _ _]) (H' := [(3, .row _ _ _), (4, .row _ _ _), (2, .row _ _ _), (1, .row _ _ _), (0, .box [_, _, _, _, _, _, _, _, _, _])]) (nx' := 5) [2] rfl rfl rfl rfl rfl rfl rfl rfl rfl (by (repeat' apply And.intro) <;> first | trivial | rfl | exact flat_len (s := 6) (enc := encGActive) (fun _ => rfl) _ | exact flat_len (fun _ => rfl) _ | exact encI_len _ | exact Nat.le_of_ble_eq_true rfl | assumption) (tick15_ok (known15 (⟨1, 1, 5, 2, 2, 3, true⟩ : GAura)) ((apply15 (known15 (⟨1, 1, 5, 2, 2, 3, true⟩ : GAura)) ((apply15 (known15 (⟨1, 1, 5, 2, 2, 3, true⟩ : GAura)) ([]) 1 7 10).1) 1 7 11).1) false 12 (by first | assumption | omega | (simp only [List.length_nil, List.length_cons, List.length_append] at *; omega) | (simp; done) | (simp; omega))) rfl (by decide) rfl rfl ⟨encGActive_solid, encGActive_solid, trivial⟩ rfl rfl rfl rfl ?_
 have p5 := tick15_len (known15 (⟨1, 1, 5, 2, 2, 3, true⟩ : GAura)) ((apply15 (known15 (⟨1, 1, 5, 2, 2, 3, true⟩ : GAura)) ((apply15 (known15 (⟨1, 1, 5, 2, 2, 3, true⟩ : GAura)) ([]) 1 7 10).1) 1 7 11).1) 12
 refine step_r rfl rfl trivial (step_r rfl rfl trivial (step_r rfl rfl trivial (step_r rfl rfl trivial (step_r rfl rfl trivial (step_nil (seqK_n (sem_seq (sem_region rfl (step_r rfl rfl trivial ?_)))))))))
 refine step_callJ (Hin := [.row _ _ _]) (out' := .tup [.ref 5 _ _ _, .ref 6 _ _ _]) (H' := [(5, .row _ _ _), (6, .row _ _ _), (3, .row _ _ _), (4, .row _ _ _), (2, .row _ _ _), (1, .row _ _ _), (0, .box [_, _, _, _, _, _, _, _, _, _])]) (nx' := 7) [3] rfl rfl rfl rfl rfl rfl rfl rfl rfl (by (repeat' apply And.intro) <;> first | trivial | rfl | exact flat_len (s := 6) (enc := encGActive) (fun _ => rfl) _ | exact flat_len (fun _ => rfl) _ | exact encI_len _ | exact Nat.le_of_ble_eq_true rfl | assumption) (expire15_ok ((tick15 (known15 (⟨1, 1, 5, 2, 2, 3, true⟩ : GAura)) ((apply15 (known15 (⟨1, 1, 5, 2, 2, 3, true⟩ : GAura)) ((apply15 (known15 (⟨1, 1, 5, 2, 2, 3, true⟩ : GAura)) ([]) 1 7 10).1) 1 7 11).1) 12).1) false 16 (by first | assumption | omega | (simp only [List.length_nil, List.length_cons, List.length_append] at *; omega) | (simp; done) | (simp; omega))) rfl (by decide) rfl rfl ⟨encGActive_solid, encGActive_solid, trivial⟩ rfl rfl rfl rfl ?_
 have p6 := expire15_len ((tick15 (known15 (⟨1, 1, 5, 2, 2, 3, true⟩ : GAura)) ((apply15 (known15 (⟨1, 1, 5, 2, 2, 3, true⟩ : GAura)) ((apply15 (known15 (⟨1, 1, 5, 2, 2, 3, true⟩ : GAura)) ([]) 1 7 10).1) 1 7 11).1) 12).1) 16
 refine step_r rfl rfl trivial (step_r rfl rfl trivial (step_r rfl rfl trivial (step_r rfl rfl trivial (step_r rfl rfl trivial (step_nil (seqK_n (sem_seq (sem_region rfl (step_r (v := (.agg [_, _, _, _, _, _, _, _, _, _])) rfl rfl (Nat.le_of_ble_eq_true rfl) (step_r rfl rfl trivial ?_))))))))))
 refine step_callJ (Hin := [.row _ _ _]) (out' := .tup [.ref 7 _ _ _, .ref 8 _ _ _]) (H' := [(7, .row _ _ _), (8, .row _ _ _), (5, .row _ _ _), (6, .row _ _ _), (3, .row _ _ _), (4, .row _ _ _), (2, .row _ _ _), (1, .row _ _ _), (0, .box [_, _, _, _, _, _, _, _, _, _])]) (nx' := 9) [2] rfl rfl rfl rfl rfl rfl rfl rfl rfl (by (repeat' apply And.intro) <;> first | trivial | rfl | exact flat_len (s := 6) (enc := encGActive) (fun _ => rfl) _ | exact flat_len (fun _ => rfl) _ | exact encI_len _ | exact Nat.le_of_ble_eq_true rfl | assumption) (dispel15_ok (known15 (⟨1, 1, 5, 2, 2, 3, true⟩ : GAura)) ((apply15 (known15 (⟨1, 1, 5, 2, 2, 3, true⟩ : GAura)) ((apply15 (known15 (⟨1, 1, 5, 2, 2, 3, true⟩ : GAura)) ([]) 1 7 10).1) 1 7 11).1) false 1 (by first | assumption | omega | (simp only [List.length_nil, List.length_cons, List.length_append] at *; omega) | (simp; done) | (simp; omega))) rfl (by decide) rfl rfl ⟨encGActive_solid, encGActive_solid, trivial⟩ rfl rfl rfl rfl ?_
 have p7 := dispel15_len (known15 (⟨1, 1, 5, 2, 2, 3, true⟩ : GAura)) ((apply15 (known15 (⟨1, 1, 5, 2, 2, 3, true⟩ : GAura)) ((apply15 (known15 (⟨1, 1, 5, 2, 2, 3, true⟩ : GAura)) ([]) 1 7 10).1) 1 7 11).1) 1
 refine step_r rfl rfl trivial (step_r rfl rfl trivial (step_r rfl rfl trivial (step_r rfl rfl trivial (step_r rfl rfl trivial (step_nil (seqK_n (sem_seq (sem_region rfl (step_r rfl rfl trivial (step_bin rfl rfl rfl rfl rfl trivial (step_r rfl rfl trivial ?_)))))))))))
 refine step_gs rfl (fun h9 => ?_) (fun h9 => ?_)
 ·have g9 : ((apply15 (known15 (⟨1, 1, 5, 2, 2, 3, true⟩ : GAura)) ([]) 1 7 10).2 : Int) = 0 := beq_t h9
  refine step_g1 rfl h9 (step_r rfl rfl trivial (step_g1 rfl h9 (step_r (v := (.agg [_, _, _, _, _, _])) rfl rfl trivial (step_g1 rfl h9 (step_n (o := .row _ _ [_, _, _, _, _, _]) (nx' := 10) rfl rfl rfl (by decide) (step_g1 rfl h9 ?_))))))
  refine step_callJ (Hin := [.row _ _ _, .row _ _ _]) (H' := [(9, .row _ _ _), (7, .row _ _ _), (8, .row _ _ _), (5, .row _ _ _), (6, .row _ _ _), (3, .row _ _ _), (4, .row _ _ _), (2, .row _ _ _), (1, .row _ _ _), (0, .box [_, _, _, _, _, _, _, _, _, _])]) (nx' := 10) [1, 9] rfl rfl rfl rfl rfl rfl rfl rfl rfl (by (repeat' apply And.intro) <;> first | trivial | rfl | exact flat_len (s := 6) (enc := encGActive) (fun _ => rfl) _ | exact flat_len (fun _ => rfl) _ | exact encI_len _ | exact Nat.le_of_ble_eq_true rfl | assumption) (sameL ((apply15 (known15 (⟨1, 1, 5, 2, 2, 3, true⟩ : GAura)) ([]) 1 7 10).1) false ([(⟨1, 7, 1, 15, 12, 0⟩ : GActive)]) false) rfl (by decide) rfl rfl trivial rfl rfl rfl rfl ?_
  refine step_pickT rfl h9 rfl rfl (step_r rfl rfl trivial ?_)
  refine step_gs rfl (fun h11 => ?_) (fun h11 => ?_)
  ·have g11 : ((apply15 (known15 (⟨1, 1, 5, 2, 2, 3, true⟩ : GAura)) ([]) 1 7 10).1) = ([(⟨1, 7, 1, 15, 12, 0⟩ : GActive)]) := of_decide_eq_true h11
   refine step_g1 rfl h11 (step_r rfl rfl trivial (step_g1 rfl h11 (step_bin rfl rfl rfl rfl rfl trivial (step_pickT rfl h11 rfl rfl (step_r rfl rfl trivial ?_)))))
   refine step_gs rfl (fun h13 => ?_) (fun h13 => ?_)
   ·have g13 : ((apply15 (known15 (⟨1, 1, 5, 2, 2, 3, true⟩ : GAura)) ((apply15 (known15 (⟨1, 1, 5, 2, 2, 3, true⟩ : GAura)) ([]) 1 7 10).1) 1 7 11).2 : Int) = 0 := beq_t h13
    refine step_g1 rfl h13 (step_r rfl rfl trivial (step_g1 rfl h13 (step_r (v := (.agg [_, _, _, _, _, _])) rfl rfl trivial (step_g1 rfl h13 (step_n (o := .row _ _ [_, _, _, _, _, _]) (nx' := 11) rfl rfl rfl (by decide) (step_g1 rfl h13 ?_))))))
    refine step_callJ (Hin := [.row _ _ _, .row _ _ _]) (H' := [(10, .row _ _ _), (9, .row _ _ _), (7, .row _ _ _), (8, .row _ _ _), (5, .row _ _ _), (6, .row _ _ _), (3, .row _ _ _), (4, .row _ _ _), (2, .row _ _ _), (1, .row _ _ _), (0, .box [_, _, _, _, _, _, _, _, _, _])]) (nx' := 11) [2, 10] rfl rfl rfl rfl rfl rfl rfl rfl rfl (by (repeat' apply And.intro) <;> first | trivial | rfl | exact flat_len (s := 6) (enc := encGActive) (fun _ => rfl) _ | exact flat_len (fun _ => rfl) _ | exact encI_len _ | exact Nat.le_of_ble_eq_true rfl | assumption) (sameL ((apply15 (known15 (⟨1, 1, 5, 2, 2, 3, true⟩ : GAura)) ((apply15 (known15 (⟨1, 1, 5, 2, 2, 3, true⟩ : GAura)) ([]) 1 7 10).1) 1 7 11).1) false ([(⟨1, 7, 2, 16, 12, 0⟩ : GActive)]) false) rfl (by decide) rfl rfl trivial rfl rfl rfl rfl ?_
    refine step_pickT rfl h13 rfl rfl (step_r rfl rfl trivial ?_)
    refine step_gs rfl (fun h15 => ?_) (fun h15 => ?_)
    ·have g15 : ((apply15 (known15 (⟨1, 1, 5, 2, 2, 3, true⟩ : GAura)) ((apply15 (known15 (⟨1, 1, 5, 2, 2, 3, true⟩ : GAura)) ([]) 1 7 10).1) 1 7 11).1) = ([(⟨1, 7, 2, 16, 12, 0⟩ : GActive)]) := of_decide_eq_true h15
     refine step_g1 rfl h15 (step_r rfl rfl trivial (step_g1 rfl h15 (step_r rfl rfl trivial (step_g1 rfl h15 ?_))))
     refine step_callJ (Hin := [.row _ _ _, .row _ _ _]) (H' := [(10, .row _ _ _), (9, .row _ _ _), (7, .row _ _ _), (8, .row _ _ _), (5, .row _ _ _), (6, .row _ _ _), (3, .row _ _ _), (4, .row _ _ _), (2, .row _ _ _), (1, .row _ _ _), (0, .box [_, _, _, _, _, _, _, _, _, _])]) (nx' := 11) [4, 2] rfl rfl rfl rfl rfl rfl rfl rfl rfl (by (repeat' apply And.intro) <;> first | trivial | rfl | exact flat_len (s := 6) (enc := encGActive) (fun _ => rfl) _ | exact flat_len (fun _ => rfl) _ | exact encI_len _ | exact Nat.le_of_ble_eq_true rfl | assumption) (sameL ((tick15 (known15 (⟨1, 1, 5, 2, 2, 3, true⟩ : GAura)) ((apply15 (known15 (⟨1, 1, 5, 2, 2, 3, true⟩ : GAura)) ((apply15 (known15 (⟨1, 1, 5, 2, 2, 3, true⟩ : GAura)) ([]) 1 7 10).1) 1 7 11).1) 12).2) false ((apply15 (known15 (⟨1, 1, 5, 2, 2, 3, true⟩ : GAura)) ((apply15 (known15 (⟨1, 1, 5, 2, 2, 3, true⟩ : GAura)) ([]) 1 7 10).1) 1 7 11).1) false) rfl (by decide) rfl rfl trivial rfl rfl rfl rfl ?_
     refine step_pickT rfl h15 rfl rfl (step_r rfl rfl trivial ?_)
     refine step_gs rfl (fun h17 => ?_) (fun h17 => ?_)
     ·have g17 : ((tick15 (known15 (⟨1, 1, 5, 2, 2, 3, true⟩ : GAura)) ((apply15 (known15 (⟨1, 1, 5, 2, 2, 3, true⟩ : GAura)) ((apply15 (known15 (⟨1, 1, 5, 2, 2, 3, true⟩ : GAura)) ([]) 1 7 10).1) 1 7 11).1) 12).2) = ((apply15 (known15 (⟨1, 1, 5, 2, 2, 3, true⟩ : GAura)) ((apply15 (known15 (⟨1, 1, 5, 2, 2, 3, true⟩ : GAura)) ([]) 1 7 10).1) 1 7 11).1) := of_decide_eq_true h17
      refine step_g1 rfl h17 (step_r rfl rfl trivial (step_g1 rfl h17 (step_r rfl rfl trivial (step_g1 rfl h17 (step_bin rfl rfl rfl rfl rfl trivial (step_pickT rfl h17 rfl rfl (step_r rfl rfl trivial ?_)))))))
      refine step_gs rfl (fun h19 => ?_) (fun h19 => ?_)
      ·have g19 : ((tick15 (known15 (⟨1, 1, 5, 2, 2, 3, true⟩ : GAura)) ((apply15 (known15 (⟨1, 1, 5, 2, 2, 3, true⟩ : GAura)) ((apply15 (known15 (⟨1, 1, 5, 2, 2, 3, true⟩ : GAura)) ([]) 1 7 10).1) 1 7 11).1) 12).1.length : Int) = 1 := beq_t h19
       refine step_g1 rfl h19 (step_r rfl rfl trivial (step_g1 rfl h19 ?_))
       have jk20 : 0 < ((tick15 (known15 (⟨1, 1, 5, 2, 2, 3, true⟩ : GAura)) ((apply15 (known15 (⟨1, 1, 5, 2, 2, 3, true⟩ : GAura)) ((apply15 (known15 (⟨1, 1, 5, 2, 2, 3, true⟩ : GAura)) ([]) 1 7 10).1) 1 7 11).1) 12).1).length := by first | assumption | omega | (simp only [List.length_set, List.length_append]; omega) | (simp only [IntKind.wrap_i64] at *; omega) | (simp; omega) | simp_all
       refine step_idxR (k := 0) rfl rfl rfl rfl jk20 rfl (step_g1 rfl h19 (step_r rfl rfl (by decide) (step_g1 rfl h19 ?_)))
       refine step_load_oneR rfl rfl rfl rfl (flat_get (s := 6) (enc := encGActive) (fun _ => rfl) (get_getD jk20) (o := 4) rfl (by decide)) rfl ?_
       refine step_g1 rfl h19 (step_bin rfl rfl rfl rfl rfl trivial (step_pickT rfl h19 rfl rfl (step_r rfl rfl trivial ?_)))
       refine step_gs rfl (fun h22 => ?_) (fun h22 => ?_)
       ·have g22 : ((((tick15 (known15 (⟨1, 1, 5, 2, 2, 3, true⟩ : GAura)) ((apply15 (known15 (⟨1, 1, 5, 2, 2, 3, true⟩ : GAura)) ((apply15 (known15 (⟨1, 1, 5, 2, 2, 3, true⟩ : GAura)) ([]) 1 7 10).1) 1 7 11).1) 12).1).getD 0 default).Next : Int) = 14 := beq_t h22
        refine step_g1 rfl h22 (step_r rfl rfl trivial (step_g1 rfl h22 (step_r rfl rfl trivial (step_g1 rfl h22 (step_bin rfl rfl rfl rfl rfl trivial (step_pickT rfl h22 rfl rfl (step_r rfl rfl trivial ?_)))))))
        refine step_gs rfl (fun h24 => ?_) (fun h24 => ?_)
        ·have g24 : ((expire15 ((tick15 (known15 (⟨1, 1, 5, 2, 2, 3, true⟩ : GAura)) ((apply15 (known15 (⟨1, 1, 5, 2, 2, 3, true⟩ : GAura)) ((apply15 (known15 (⟨1, 1, 5, 2, 2, 3, true⟩ : GAura)) ([]) 1 7 10).1) 1 7 11).1) 12).1) 16).1.length : Int) = 0 := beq_t h24
         refine step_g1 rfl h24 (step_r rfl rfl trivial (step_g1 rfl h24 (step_r rfl rfl trivial (step_g1 rfl h24 (step_bin rfl rfl rfl rfl rfl trivial (step_pickT rfl h24 rfl rfl (step_r rfl rfl trivial ?_)))))))
         refine step_gs rfl (fun h26 => ?_) (fun h26 => ?_)
         ·have g26 : ((expire15 ((tick15 (known15 (⟨1, 1, 5, 2, 2, 3, true⟩ : GAura)) ((apply15 (known15 (⟨1, 1, 5, 2, 2, 3, true⟩ : GAura)) ((apply15 (known15 (⟨1, 1, 5, 2, 2, 3, true⟩ : GAura)) ([]) 1 7 10).1) 1 7 11).1) 12).1) 16).2.length : Int) = 1 := beq_t h26
          refine step_g1 rfl h26 (step_r rfl rfl trivial (step_g1 rfl h26 (step_r rfl rfl trivial (step_g1 rfl h26 (step_bin rfl rfl rfl rfl rfl trivial (step_pickT rfl h26 rfl rfl (step_r rfl rfl trivial ?_)))))))
          refine step_gs rfl (fun h28 => ?_) (fun h28 => ?_)
          ·have g28 : ((dispel15 (known15 (⟨1, 1, 5, 2, 2, 3, true⟩ : GAura)) ((apply15 (known15 (⟨1, 1, 5, 2, 2, 3, true⟩ : GAura)) ((apply15 (known15 (⟨1, 1, 5, 2, 2, 3, true⟩ : GAura)) ([]) 1 7 10).1) 1 7 11).1) 1).1.length : Int) = 0 := beq_t h28
           refine step_g1 rfl h28 (step_r rfl rfl trivial (step_g1 rfl h28 (step_r rfl rfl trivial (step_g1 rfl h28 (step_bin rfl rfl rfl rfl rfl trivial (step_pickT rfl h28 rfl rfl (step_r rfl rfl trivial ?_)))))))
           refine step_gs rfl (fun h30 => ?_) (fun h30 => ?_)
           ·have g30 : ((dispel15 (known15 (⟨1, 1, 5, 2, 2, 3, true⟩ : GAura)) ((apply15 (known15 (⟨1, 1, 5, 2, 2, 3, true⟩ : GAura)) ((apply15 (known15 (⟨1, 1, 5, 2, 2, 3, true⟩ : GAura)) ([]) 1 7 10).1) 1 7 11).1) 1).2.length : Int) = 1 := beq_t h30
            refine step_g1 rfl h30 (step_r (v := (.agg [_, _, _, _, _, _, _, _, _, _])) rfl rfl (Nat.le_of_ble_eq_true rfl) (step_g1 rfl h30 (step_r rfl rfl trivial (step_g1 rfl h30 ?_))))
            refine step_callJ (Hin := [.row _ _ _]) (H' := [(10, .row _ _ _), (9, .row _ _ _), (7, .row _ _ _), (8, .row _ _ _), (5, .row _ _ _), (6, .row _ _ _), (3, .row _ _ _), (4, .row _ _ _), (2, .row _ _ _), (1, .row _ _ _), (0, .box [_, _, _, _, _, _, _, _, _, _])]) (nx' := 11) [2] rfl rfl rfl rfl rfl rfl rfl rfl rfl (by (repeat' apply And.intro) <;> first | trivial | rfl | exact flat_len (s := 6) (enc := encGActive) (fun _ => rfl) _ | exact flat_len (fun _ => rfl) _ | exact encI_len _ | exact Nat.le_of_ble_eq_true rfl | assumption) (right15_ok (known15 (⟨1, 1, 5, 2, 2, 3, true⟩ : GAura)) ((apply15 (known15 (⟨1, 1, 5, 2, 2, 3, true⟩ : GAura)) ((apply15 (known15 (⟨1, 1, 5, 2, 2, 3, true⟩ : GAura)) ([]) 1 7 10).1) 1 7 11).1) false (by first | assumption | exact few_small (by decide +kernel))) rfl (by decide) rfl rfl trivial rfl rfl rfl rfl ?_
            refine step_pickT rfl h30 rfl rfl (step_r rfl rfl trivial ?_)
            refine step_gs rfl (fun h32 => ?_) (fun h32 => ?_)
            ·have g32 : right15 (known15 (⟨1, 1, 5, 2, 2, 3, true⟩ : GAura)) ((apply15 (known15 (⟨1, 1, 5, 2, 2, 3, true⟩ : GAura)) ((apply15 (known15 (⟨1, 1, 5, 2, 2, 3, true⟩ : GAura)) ([]) 1 7 10).1) 1 7 11).1) = true := h32
             refine step_g1 rfl h32 (step_r (v := (.agg [_, _, _, _, _, _, _, _, _, _])) rfl rfl (Nat.le_of_ble_eq_true rfl) (step_g1 rfl h32 (step_r rfl rfl trivial (step_g1 rfl h32 ?_))))
             refine step_callJ (Hin := [.row _ _ _]) (H' := [(10, .row _ _ _), (9, .row _ _ _), (7, .row _ _ _), (8, .row _ _ _), (5, .row _ _ _), (6, .row _ _ _), (3, .row _ _ _), (4, .row _ _ _), (2, .row _ _ _), (1, .row _ _ _), (0, .box [_, _, _, _, _, _, _, _, _, _])]) (nx' := 11) [2] rfl rfl rfl rfl rfl rfl rfl rfl rfl (by (repeat' apply And.intro) <;> first | trivial | rfl | exact flat_len (s := 6) (enc := encGActive) (fun _ => rfl) _ | exact flat_len (fun _ => rfl) _ | exact encI_len _ | exact Nat.le_of_ble_eq_true rfl | assumption) (sum15_ok (known15 (⟨1, 1, 5, 2, 2, 3, true⟩ : GAura)) ((apply15 (known15 (⟨1, 1, 5, 2, 2, 3, true⟩ : GAura)) ((apply15 (known15 (⟨1, 1, 5, 2, 2, 3, true⟩ : GAura)) ([]) 1 7 10).1) 1 7 11).1) false 1) rfl (by decide) rfl rfl trivial rfl rfl rfl rfl ?_
             refine step_g1 rfl h32 (step_bin rfl rfl rfl rfl rfl trivial (step_pickT rfl h32 rfl rfl (step_r rfl rfl trivial (step_nil (seqK_n (sem_ret ?_))))))
             have e34 : small15 = ((sum15 (known15 (⟨1, 1, 5, 2, 2, 3, true⟩ : GAura)) ((apply15 (known15 (⟨1, 1, 5, 2, 2, 3, true⟩ : GAura)) ((apply15 (known15 (⟨1, 1, 5, 2, 2, 3, true⟩ : GAura)) ([]) 1 7 10).1) 1 7 11).1) 1 : Int) == 6) := by
              unfold small15
              try dsimp only
              rewrite [if_pos g9, if_pos g11, if_pos g13, if_pos g15, if_pos g17, if_pos g19, if_pos g22, if_pos g24, if_pos g26, if_pos g28, if_pos g30, if_pos g32]
              all_goals rfl
             rw [e34]
             exact answersR rfl ⟨trivial, trivial⟩ (rfl) rfl
            ·have g32 : ¬ (right15 (known15 (⟨1, 1, 5, 2, 2, 3, true⟩ : GAura)) ((apply15 (known15 (⟨1, 1, 5, 2, 2, 3, true⟩ : GAura)) ((apply15 (known15 (⟨1, 1, 5, 2, 2, 3, true⟩ : GAura)) ([]) 1 7 10).1) 1 7 11).1) = true) := boo_f h32
             refine step_g0 rfl h32 rfl (step_g0 rfl h32 rfl (step_g0 rfl h32 rfl (step_g0 rfl h32 rfl (step_pickF rfl h32 rfl rfl (step_r rfl rfl trivial (step_nil (seqK_n (sem_ret ?_))))))))
             have e35 : small15 = false := by
              unfold small15
              try dsimp only
              rewrite [if_pos g9, if_pos g11, if_pos g13, if_pos g15, if_pos g17, if_pos g19, if_pos g22, if_pos g24, if_pos g26, if_pos g28, if_pos g30, if_neg g32]
              all_goals rfl
             rw [e35]
             exact answersR rfl ⟨trivial, trivial⟩ (rfl) rfl
           ·have g30 : ¬ (((dispel15 (known15 (⟨1, 1, 5, 2, 2, 3, true⟩ : GAura)) ((apply15 (known15 (⟨1, 1, 5, 2, 2, 3, true⟩ : GAura)) ((apply15 (known15 (⟨1, 1, 5, 2, 2, 3, true⟩ : GAura)) ([]) 1 7 10).1) 1 7 11).1) 1).2.length : Int) = 1) := beq_f h30
            refine step_g0 rfl h30 rfl (step_g0 rfl h30 rfl (step_g0 rfl h30 rfl (step_pickF rfl h30 rfl rfl (step_r rfl rfl trivial (step_gf rfl rfl (step_gf rfl rfl (step_gf rfl rfl (step_gf rfl rfl (step_r rfl rfl trivial (step_r rfl rfl trivial (step_nil ?_)))))))))))
            refine seqK_n (sem_ret ?_)
            have e36 : small15 = false := by
             unfold small15
             try dsimp only
             rewrite [if_pos g9, if_pos g11, if_pos g13, if_pos g15, if_pos g17, if_pos g19, if_pos g22, if_pos g24, if_pos g26, if_pos g28, if_neg g30]
             all_goals rfl
            rw [e36]
            exact answersR rfl ⟨trivial, trivial⟩ (rfl) rfl
          ·have g28 : ¬ (((dispel15 (known15 (⟨1, 1, 5, 2, 2, 3, true⟩ : GAura)) ((apply15 (known15 (⟨1, 1, 5, 2, 2, 3, true⟩ : GAura)) ((apply15 (known15 (⟨1, 1, 5, 2, 2, 3, true⟩ : GAura)) ([]) 1 7 10).1) 1 7 11).1) 1).1.length : Int) = 0) := beq_f h28
           refine step_g0 rfl h28 rfl (step_g0 rfl h28 rfl (step_g0 rfl h28 rfl (step_pickF rfl h28 rfl rfl (step_r rfl rfl trivial (step_gf rfl rfl (step_gf rfl rfl (step_gf rfl rfl (step_r rfl rfl trivial (step_r rfl rfl trivial (step_gf rfl rfl (step_gf rfl rfl ?_)))))))))))
           refine step_gf rfl rfl (step_gf rfl rfl (step_r rfl rfl trivial (step_r rfl rfl trivial (step_nil (seqK_n (sem_ret ?_))))))
           have e37 : small15 = false := by
            unfold small15
            try dsimp only
            rewrite [if_pos g9, if_pos g11, if_pos g13, if_pos g15, if_pos g17, if_pos g19, if_pos g22, if_pos g24, if_pos g26, if_neg g28]
            all_goals rfl
           rw [e37]
           exact answersR rfl ⟨trivial, trivial⟩ (rfl) rfl
         ·have g26 : ¬ (((expire15 ((tick15 (known15 (⟨1, 1, 5, 2, 2, 3, true⟩ : GAura)) ((apply15 (known15 (⟨1, 1, 5, 2, 2, 3, true⟩ : GAura)) ((apply15 (known15 (⟨1, 1, 5, 2, 2, 3, true⟩ : GAura)) ([]) 1 7 10).1) 1 7 11).1) 12).1) 16).2.length : Int) = 1) := beq_f h26
          refine step_g0 rfl h26 rfl (step_g0 rfl h26 rfl (step_g0 rfl h26 rfl (step_pickF rfl h26 rfl rfl (step_r rfl rfl trivial (step_gf rfl rfl (step_gf rfl rfl (step_gf rfl rfl (step_r rfl rfl trivial (step_r rfl rfl trivial (step_gf rfl rfl (step_gf rfl rfl ?_)))))))))))
          refine step_gf rfl rfl (step_r rfl rfl trivial (step_r rfl rfl trivial (step_gf rfl rfl (step_gf rfl rfl (step_gf rfl rfl (step_gf rfl rfl (step_r rfl rfl trivial (step_r rfl rfl trivial (step_nil (seqK_n (sem_ret ?_)))))))))))
          have e38 : small15 = false := by
           unfold small15
           try dsimp only
           rewrite [if_pos g9, if_pos g11, if_pos g13, if_pos g15, if_pos g17, if_pos g19, if_pos g22, if_pos g24, if_neg g26]
           all_goals rfl
          rw [e38]
          exact answersR rfl ⟨trivial, trivial⟩ (rfl) rfl
        ·have g24 : ¬ (((expire15 ((tick15 (known15 (⟨1, 1, 5, 2, 2, 3, true⟩ : GAura)) ((apply15 (known15 (⟨1, 1, 5, 2, 2, 3, true⟩ : GAura)) ((apply15 (known15 (⟨1, 1, 5, 2, 2, 3, true⟩ : GAura)) ([]) 1 7 10).1) 1 7 11).1) 12).1) 16).1.length : Int) = 0) := beq_f h24
         refine step_g0 rfl h24 rfl (step_g0 rfl h24 rfl (step_g0 rfl h24 rfl (step_pickF rfl h24 rfl rfl (step_r rfl rfl trivial (step_gf rfl rfl (step_gf rfl rfl (step_gf rfl rfl (step_r rfl rfl trivial (step_r rfl rfl trivial (step_gf rfl rfl (step_gf rfl rfl ?_)))))))))))
         refine step_gf rfl rfl (step_r rfl rfl trivial (step_r rfl rfl trivial (step_gf rfl rfl (step_gf rfl rfl (step_gf rfl rfl (step_r rfl rfl trivial (step_r rfl rfl trivial (step_gf rfl rfl (step_gf rfl rfl (step_gf rfl rfl (step_gf rfl rfl ?_)))))))))))
         refine step_r rfl rfl trivial (step_r rfl rfl trivial (step_nil (seqK_n (sem_ret ?_))))
         have e39 : small15 = false := by
          unfold small15
          try dsimp only
          rewrite [if_pos g9, if_pos g11, if_pos g13, if_pos g15, if_pos g17, if_pos g19, if_pos g22, if_neg g24]
          all_goals rfl
         rw [e39]
         exact answersR rfl ⟨trivial, trivial⟩ (rfl) rfl
       ·have g22 : ¬ (((((tick15 (known15 (⟨1, 1, 5, 2, 2, 3, true⟩ : GAura)) ((apply15 (known15 (⟨1, 1, 5, 2, 2, 3, true⟩ : GAura)) ((apply15 (known15 (⟨1, 1, 5, 2, 2, 3, true⟩ : GAura)) ([]) 1 7 10).1) 1 7 11).1) 12).1).getD 0 default).Next : Int) = 14) := beq_f h22
        refine step_g0 rfl h22 rfl (step_g0 rfl h22 rfl (step_g0 rfl h22 rfl (step_pickF rfl h22 rfl rfl (step_r rfl rfl trivial (step_gf rfl rfl (step_gf rfl rfl (step_gf rfl rfl (step_r rfl rfl trivial (step_r rfl rfl trivial (step_gf rfl rfl (step_gf rfl rfl ?_)))))))))))
        refine step_gf rfl rfl (step_r rfl rfl trivial (step_r rfl rfl trivial (step_gf rfl rfl (step_gf rfl rfl (step_gf rfl rfl (step_r rfl rfl trivial (step_r rfl rfl trivial (step_gf rfl rfl (step_gf rfl rfl (step_gf rfl rfl (step_r rfl rfl trivial ?_)))))))))))
        refine step_r rfl rfl trivial (step_gf rfl rfl (step_gf rfl rfl (step_gf rfl rfl (step_gf rfl rfl (step_r rfl rfl trivial (step_r rfl rfl trivial (step_nil (seqK_n (sem_ret ?_)))))))))
        have e40 : small15 = false := by
         unfold small15
         try dsimp only
         rewrite [if_pos g9, if_pos g11, if_pos g13, if_pos g15, if_pos g17, if_pos g19, if_neg g22]
         all_goals rfl
        rw [e40]
        exact answersR rfl ⟨trivial, trivial⟩ (rfl) rfl
      ·have g19 : ¬ (((tick15 (known15 (⟨1, 1, 5, 2, 2, 3, true⟩ : GAura)) ((apply15 (known15 (⟨1, 1, 5, 2, 2, 3, true⟩ : GAura)) ((apply15 (known15 (⟨1, 1, 5, 2, 2, 3, true⟩ : GAura)) ([]) 1 7 10).1) 1 7 11).1) 12).1.length : Int) = 1) := beq_f h19
       refine step_g0 rfl h19 rfl (step_g0 rfl h19 rfl (step_g0 rfl h19 rfl (step_g0 rfl h19 rfl (step_g0 rfl h19 rfl (step_pickF rfl h19 rfl rfl (step_r rfl rfl trivial (step_gf rfl rfl (step_gf rfl rfl (step_gf rfl rfl (step_r rfl rfl trivial (step_r rfl rfl trivial ?_)))))))))))
       refine step_gf rfl rfl (step_gf rfl rfl (step_gf rfl rfl (step_r rfl rfl trivial (step_r rfl rfl trivial (step_gf rfl rfl (step_gf rfl rfl (step_gf rfl rfl (step_r rfl rfl trivial (step_r rfl rfl trivial (step_gf rfl rfl (step_gf rfl rfl ?_)))))))))))
       refine step_gf rfl rfl (step_r rfl rfl trivial (step_r rfl rfl trivial (step_gf rfl rfl (step_gf rfl rfl (step_gf rfl rfl (step_r rfl rfl trivial (step_r rfl rfl trivial (step_gf rfl rfl (step_gf rfl rfl (step_gf rfl rfl (step_gf rfl rfl ?_)))))))))))
       refine step_r rfl rfl trivial (step_r rfl rfl trivial (step_nil (seqK_n (sem_ret ?_))))
       have e41 : small15 = false := by
        unfold small15
        try dsimp only
        rewrite [if_pos g9, if_pos g11, if_pos g13, if_pos g15, if_pos g17, if_neg g19]
        all_goals rfl
       rw [e41]
       exact answersR rfl ⟨trivial, trivial⟩ (rfl) rfl
     ·have g17 : ¬ (((tick15 (known15 (⟨1, 1, 5, 2, 2, 3, true⟩ : GAura)) ((apply15 (known15 (⟨1, 1, 5, 2, 2, 3, true⟩ : GAura)) ((apply15 (known15 (⟨1, 1, 5, 2, 2, 3, true⟩ : GAura)) ([]) 1 7 10).1) 1 7 11).1) 12).2) = ((apply15 (known15 (⟨1, 1, 5, 2, 2, 3, true⟩ : GAura)) ((apply15 (known15 (⟨1, 1, 5, 2, 2, 3, true⟩ : GAura)) ([]) 1 7 10).1) 1 7 11).1)) := of_decide_eq_false h17
      refine step_g0 rfl h17 rfl (step_g0 rfl h17 rfl (step_g0 rfl h17 rfl (step_pickF rfl h17 rfl rfl (step_r rfl rfl trivial (step_gf rfl rfl (step_gf rfl rfl (step_gf rfl rfl (step_gf rfl rfl (step_gf rfl rfl (step_r rfl rfl trivial (step_r rfl rfl trivial ?_)))))))))))
      refine step_gf rfl rfl (step_gf rfl rfl (step_gf rfl rfl (step_r rfl rfl trivial (step_r rfl rfl trivial (step_gf rfl rfl (step_gf rfl rfl (step_gf rfl rfl (step_r rfl rfl trivial (step_r rfl rfl trivial (step_gf rfl rfl (step_gf rfl rfl ?_)))))))))))
      refine step_gf rfl rfl (step_r rfl rfl trivial (step_r rfl rfl trivial (step_gf rfl rfl (step_gf rfl rfl (step_gf rfl rfl (step_r rfl rfl trivial (step_r rfl rfl trivial (step_gf rfl rfl (step_gf rfl rfl (step_gf rfl rfl (step_r rfl rfl trivial ?_)))))))))))
      refine step_r rfl rfl trivial (step_gf rfl rfl (step_gf rfl rfl (step_gf rfl rfl (step_gf rfl rfl (step_r rfl rfl trivial (step_r rfl rfl trivial (step_nil (seqK_n (sem_ret ?_)))))))))
      have e42 : small15 = false := by
       unfold small15
       try dsimp only
       rewrite [if_pos g9, if_pos g11, if_pos g13, if_pos g15, if_neg g17]
       all_goals rfl
      rw [e42]
      exact answersR rfl ⟨trivial, trivial⟩ (rfl) rfl
    ·have g15 : ¬ (((apply15 (known15 (⟨1, 1, 5, 2, 2, 3, true⟩ : GAura)) ((apply15 (known15 (⟨1, 1, 5, 2, 2, 3, true⟩ : GAura)) ([]) 1 7 10).1) 1 7 11).1) = ([(⟨1, 7, 2, 16, 12, 0⟩ : GActive)])) := of_decide_eq_false h15
     refine step_g0 rfl h15 rfl (step_g0 rfl h15 rfl (step_g0 rfl h15 rfl (step_pickF rfl h15 rfl rfl (step_r rfl rfl trivial (step_gf rfl rfl (step_gf rfl rfl (step_gf rfl rfl (step_r rfl rfl trivial (step_r rfl rfl trivial (step_gf rfl rfl (step_gf rfl rfl ?_)))))))))))
     refine step_gf rfl rfl (step_gf rfl rfl (step_gf rfl rfl (step_r rfl rfl trivial (step_r rfl rfl trivial (step_gf rfl rfl (step_gf rfl rfl (step_gf rfl rfl (step_r rfl rfl trivial (step_r rfl rfl trivial (step_gf rfl rfl (step_gf rfl rfl ?_)))))))))))
     refine step_gf rfl rfl (step_r rfl rfl trivial (step_r rfl rfl trivial (step_gf rfl rfl (step_gf rfl rfl (step_gf rfl rfl (step_r rfl rfl trivial (step_r rfl rfl trivial (step_gf rfl rfl (step_gf rfl rfl (step_gf rfl rfl (step_r rfl rfl trivial ?_)))))))))))
     refine step_r rfl rfl trivial (step_gf rfl rfl (step_gf rfl rfl (step_gf rfl rfl (step_r rfl rfl trivial (step_r rfl rfl trivial (step_gf rfl rfl (step_gf rfl rfl (step_gf rfl rfl (step_gf rfl rfl (step_r rfl rfl trivial (step_r rfl rfl trivial ?_)))))))))))
     refine step_nil (seqK_n (sem_ret ?_))
     have e43 : small15 = false := by
      unfold small15
      try dsimp only
      rewrite [if_pos g9, if_pos g11, if_pos g13, if_neg g15]
      all_goals rfl
     rw [e43]
     exact answersR rfl ⟨trivial, trivial⟩ (rfl) rfl
   ·have g13 : ¬ (((apply15 (known15 (⟨1, 1, 5, 2, 2, 3, true⟩ : GAura)) ((apply15 (known15 (⟨1, 1, 5, 2, 2, 3, true⟩ : GAura)) ([]) 1 7 10).1) 1 7 11).2 : Int) = 0) := beq_f h13
    refine step_g0 rfl h13 rfl (step_g0 rfl h13 rfl (step_g0 rfl h13 rfl (step_g0 rfl h13 rfl (step_pickF rfl h13 rfl rfl (step_r rfl rfl trivial (step_gf rfl rfl (step_gf rfl rfl (step_gf rfl rfl (step_r rfl rfl trivial (step_r rfl rfl trivial (step_gf rfl rfl ?_)))))))))))
    refine step_gf rfl rfl (step_gf rfl rfl (step_r rfl rfl trivial (step_r rfl rfl trivial (step_gf rfl rfl (step_gf rfl rfl (step_gf rfl rfl (step_gf rfl rfl (step_gf rfl rfl (step_r rfl rfl trivial (step_r rfl rfl trivial (step_gf rfl rfl ?_)))))))))))
    refine step_gf rfl rfl (step_gf rfl rfl (step_r rfl rfl trivial (step_r rfl rfl trivial (step_gf rfl rfl (step_gf rfl rfl (step_gf rfl rfl (step_r rfl rfl trivial (step_r rfl rfl trivial (step_gf rfl rfl (step_gf rfl rfl (step_gf rfl rfl ?_)))))))))))
    refine step_r rfl rfl trivial (step_r rfl rfl trivial (step_gf rfl rfl (step_gf rfl rfl (step_gf rfl rfl (step_r rfl rfl trivial (step_r rfl rfl trivial (step_gf rfl rfl (step_gf rfl rfl (step_gf rfl rfl (step_r rfl rfl trivial (step_r rfl rfl trivial ?_)))))))))))
    refine step_gf rfl rfl (step_gf rfl rfl (step_gf rfl rfl (step_gf rfl rfl (step_r rfl rfl trivial (step_r rfl rfl trivial (step_nil (seqK_n (sem_ret ?_))))))))
    have e44 : small15 = false := by
     unfold small15
     try dsimp only
     rewrite [if_pos g9, if_pos g11, if_neg g13]
     all_goals rfl
    rw [e44]
    exact answersR rfl ⟨trivial, trivial⟩ (rfl) rfl
  ·have g11 : ¬ (((apply15 (known15 (⟨1, 1, 5, 2, 2, 3, true⟩ : GAura)) ([]) 1 7 10).1) = ([(⟨1, 7, 1, 15, 12, 0⟩ : GActive)])) := of_decide_eq_false h11
   refine step_g0 rfl h11 rfl (step_g0 rfl h11 rfl (step_pickF rfl h11 rfl rfl (step_r rfl rfl trivial (step_gf rfl rfl (step_gf rfl rfl (step_gf rfl rfl (step_gf rfl rfl (step_r rfl rfl trivial (step_r rfl rfl trivial (step_gf rfl rfl (step_gf rfl rfl ?_)))))))))))
   refine step_gf rfl rfl (step_r rfl rfl trivial (step_r rfl rfl trivial (step_gf rfl rfl (step_gf rfl rfl (step_gf rfl rfl (step_r rfl rfl trivial (step_r rfl rfl trivial (step_gf rfl rfl (step_gf rfl rfl (step_gf rfl rfl (step_gf rfl rfl ?_)))))))))))
   refine step_gf rfl rfl (step_r rfl rfl trivial (step_r rfl rfl trivial (step_gf rfl rfl (step_gf rfl rfl (step_gf rfl rfl (step_r rfl rfl trivial (step_r rfl rfl trivial (step_gf rfl rfl (step_gf rfl rfl (step_gf rfl rfl (step_r rfl rfl trivial ?_)))))))))))
   refine step_r rfl rfl trivial (step_gf rfl rfl (step_gf rfl rfl (step_gf rfl rfl (step_r rfl rfl trivial (step_r rfl rfl trivial (step_gf rfl rfl (step_gf rfl rfl (step_gf rfl rfl (step_r rfl rfl trivial (step_r rfl rfl trivial (step_gf rfl rfl ?_)))))))))))
   refine step_gf rfl rfl (step_gf rfl rfl (step_r rfl rfl trivial (step_r rfl rfl trivial (step_gf rfl rfl (step_gf rfl rfl (step_gf rfl rfl (step_gf rfl rfl (step_r rfl rfl trivial (step_r rfl rfl trivial (step_nil (seqK_n ?_)))))))))))
   refine sem_ret ?_
   have e45 : small15 = false := by
    unfold small15
    try dsimp only
    rewrite [if_pos g9, if_neg g11]
    all_goals rfl
   rw [e45]
   exact answersR rfl ⟨trivial, trivial⟩ (rfl) rfl
 ·have g9 : ¬ (((apply15 (known15 (⟨1, 1, 5, 2, 2, 3, true⟩ : GAura)) ([]) 1 7 10).2 : Int) = 0) := beq_f h9
  refine step_g0 rfl h9 rfl (step_g0 rfl h9 rfl (step_g0 rfl h9 rfl (step_g0 rfl h9 rfl (step_pickF rfl h9 rfl rfl (step_r rfl rfl trivial (step_gf rfl rfl (step_gf rfl rfl (step_r rfl rfl trivial (step_r rfl rfl trivial (step_gf rfl rfl (step_gf rfl rfl ?_)))))))))))
  refine step_gf rfl rfl (step_gf rfl rfl (step_r rfl rfl trivial (step_r rfl rfl trivial (step_gf rfl rfl (step_gf rfl rfl (step_gf rfl rfl (step_r rfl rfl trivial (step_r rfl rfl trivial (step_gf rfl rfl (step_gf rfl rfl (step_gf rfl rfl ?_)))))))))))
  refine step_r rfl rfl trivial (step_r rfl rfl trivial (step_gf rfl rfl (step_gf rfl rfl (step_gf rfl rfl (step_gf rfl rfl (step_gf rfl rfl (step_r rfl rfl trivial (step_r rfl rfl trivial (step_gf rfl rfl (step_gf rfl rfl (step_gf rfl rfl ?_)))))))))))
  refine step_r rfl rfl trivial (step_r rfl rfl trivial (step_gf rfl rfl (step_gf rfl rfl (step_gf rfl rfl (step_r rfl rfl trivial (step_r rfl rfl trivial (step_gf rfl rfl (step_gf rfl rfl (step_gf rfl rfl (step_r rfl rfl trivial (step_r rfl rfl trivial ?_)))))))))))
  refine step_gf rfl rfl (step_gf rfl rfl (step_gf rfl rfl (step_r rfl rfl trivial (step_r rfl rfl trivial (step_gf rfl rfl (step_gf rfl rfl (step_gf rfl rfl (step_r rfl rfl trivial (step_r rfl rfl trivial (step_gf rfl rfl (step_gf rfl rfl ?_)))))))))))
  refine step_gf rfl rfl (step_gf rfl rfl (step_r rfl rfl trivial (step_r rfl rfl trivial (step_nil (seqK_n (sem_ret ?_))))))
  have e46 : small15 = false := by
   unfold small15
   try dsimp only
   rewrite [if_neg g9]
   all_goals rfl
  rw [e46]
  exact answersR rfl ⟨trivial, trivial⟩ (rfl) rfl
end Go.Proofs.Ytcbdecknbfabaaa

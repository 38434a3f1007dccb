import Derived.Test.YtcahldiaeamgaaaThref
namespace Go.Proofs.Ytcahldiaeamgaaa
open Go Go.RowKit Go.Proofs.YtcahldiaeamgaaaVm
attribute [local irreducible] opsWp AnswersE OpsS
set_option maxHeartbeats 400000
set_option maxRecDepth 100000
set_option linter.all false
theorem sameT (a : List GThreat) (a_f : Bool) (b : List GThreat) (b_f : Bool) : Ok Try.prog 21 [.pv (.slc a.length a_f (a.flatMap encGThreat)), .pv (.slc b.length b_f (b.flatMap encGThreat))] [] (B (decide (a = b))) [] [] := by
 refine Ok.len fun hlen => ?_
 have hl_a : a.length ≤ maxLen := hlen _ (by simp [lensL, lens, lensP])
 have hl_b : b.length ≤ maxLen := hlen _ (by simp [lensL, lens, lensP])
 unfold maxLen at hl_a hl_b
 refine ok_of_sem Try.func21 rfl ?_
 show Walks Try.prog _ _ ⟨[(0, .pv (.slc a.length a_f (a.flatMap encGThreat))), (1, .pv (.slc b.length b_f (b.flatMap encGThreat)))], [], 0, [], 26, 0⟩
 refine sem_seq ?_
 refine sem_region rfl ?_
 refine step_r rfl rfl trivial ?_
 refine step_nil ?_
 refine seqK_n ?_
 refine sem_seq ?_
 refine sem_seq ?_
 refine sem_region rfl ?_
 refine step_r rfl rfl trivial ?_
 refine step_r rfl rfl trivial ?_
 refine step_r rfl rfl trivial ?_
 refine step_r rfl rfl trivial ?_
 refine step_bin rfl rfl rfl rfl rfl trivial ?_
 refine step_nil ?_
 refine seqK_n ?_
 refine sem_cond rfl (fun h1 => ?_) (fun h1 => ?_)
 ·skip
  refine sem_seq ?_
  refine sem_region rfl ?_
  refine step_r rfl rfl trivial ?_
  refine step_nil ?_
  refine seqK_n ?_
  refine sem_ret ?_
  refine seqK_r ?_
  have hne : ¬ a.length = b.length := by
   have h := h1; simp at h; omega
  exact answersR rfl (by simp) (congrArg B (decide_eq_false (fun e => hne (by rw [e]))).symm) rfl
 ·have hlen : a.length = b.length := by
   have h := h1; simp at h; omega
  refine sem_skip ?_
  refine seqK_n ?_
  refine sem_seq ?_
  refine sem_seq ?_
  refine sem_region rfl ?_
  refine step_r rfl rfl trivial ?_
  refine step_nil ?_
  refine seqK_n ?_
  refine sem_block ?_
  refine sem_loop_of (fun k : Nat => (⟨[(0, .pv (.slc a.length a_f (a.flatMap encGThreat))), (1, .pv (.slc b.length b_f (b.flatMap encGThreat))), (5, I k)], [], 0, [], 26, 0⟩ : St)) (fun k : Nat => k ≤ a.length ∧ a.take k = b.take k) (fun k : Nat => a.length - k) 0 (⟨Nat.zero_le _, rfl⟩) (less_of rfl ⟨⟨rfl, rfl⟩, ⟨rfl, rfl⟩, ⟨rfl, rfl⟩, trivial⟩ trivial (fun _ _ => .inr (Nat.zero_le _))) (fun k hI => ?_)
  show Walks Try.prog _ _ (⟨[(0, .pv (.slc a.length a_f (a.flatMap encGThreat))), (1, .pv (.slc b.length b_f (b.flatMap encGThreat))), (5, I k)], [], 0, [], 26, 0⟩ : St)
  refine sem_seq ?_
  refine sem_seq ?_
  refine sem_region rfl ?_
  refine step_r rfl rfl trivial ?_
  refine step_r rfl rfl trivial ?_
  refine step_r rfl rfl trivial ?_
  refine step_bin rfl rfl rfl rfl rfl trivial ?_
  refine step_nil ?_
  refine seqK_n ?_
  refine sem_cond rfl (fun h3 => ?_) (fun h3 => ?_)
  ·have hk : k < a.length := by simpa using h3
   have hk2 : k < b.length := by omega
   obtain ⟨x, hx⟩ : ∃ x, a[k]? = some x := ⟨_, List.getElem?_eq_getElem hk⟩
   obtain ⟨y, hy⟩ : ∃ y, b[k]? = some y := ⟨_, List.getElem?_eq_getElem hk2⟩
   refine sem_skip ?_
   refine seqK_n ?_
   refine sem_seq ?_
   refine sem_block ?_
   refine sem_seq ?_
   refine sem_drawn rfl (by decide +kernel) rfl ?_
   refine step_r rfl rfl trivial ?_
   refine step_r rfl rfl trivial ?_
   refine step_idxS (k := k) rfl rfl rfl rfl hk (flat_ne (s := 3) (enc := encGThreat) (fun _ => rfl) (by decide) hk) rfl ?_
   refine step_load_row rfl rfl rfl (flat_lt (s := 3) (enc := encGThreat) (fun _ => rfl) hk) (flat_take (s := 3) (enc := encGThreat) (fun _ => rfl) hx) rfl ?_
   refine step_r rfl rfl trivial ?_
   refine step_r rfl rfl trivial ?_
   refine step_idxS (k := k) rfl rfl rfl rfl hk2 (flat_ne (s := 3) (enc := encGThreat) (fun _ => rfl) (by decide) hk2) rfl ?_
   refine step_load_row rfl rfl rfl (flat_lt (s := 3) (enc := encGThreat) (fun _ => rfl) hk2) (flat_take (s := 3) (enc := encGThreat) (fun _ => rfl) hy) rfl ?_
   refine step_neqA rfl rfl rfl (by kernel_rfl) rfl rfl rfl rfl rfl ?_
   refine step_nil ?_
   refine seqK_n ?_
   refine sem_cond rfl (fun h4 => ?_) (fun h4 => ?_)
   ·have hne : x ≠ y := by
     intro e; subst e; simp at h4
    refine sem_seq ?_
    refine sem_region rfl ?_
    refine step_r rfl rfl trivial ?_
    refine step_nil ?_
    refine seqK_n ?_
    refine sem_ret ?_
    refine blkK_r ?_
    refine seqK_r ?_
    refine lupK_r ?_
    refine blkK_r ?_
    refine seqK_r ?_
    exact answersR rfl (by simp) (congrArg B (decide_eq_false (same_no hx hy hne)).symm) rfl
   ·have hxy : x = y := by
     have h := h4
     simp at h
     rcases x with ⟨⟩; rcases y with ⟨⟩; simp_all
    refine sem_skip ?_
    refine blkK_n ?_
    refine seqK_n ?_
    refine sem_region rfl ?_
    refine step_r rfl rfl trivial ?_
    refine step_bin rfl rfl rfl rfl rfl trivial ?_
    refine step_r rfl rfl trivial ?_
    refine step_nil ?_
    exact lup_again (k+1) (⟨hk, by rw [take_snoc hx, take_snoc hy, hI.2, hxy]⟩) (by omega) (less_of rfl ⟨⟨rfl, rfl⟩, ⟨rfl, rfl⟩, ⟨congrArg (fun n => some (I n)) (wrapK hk hl_a), rfl⟩, trivial⟩ trivial (fun _ _ => .inr (Nat.zero_le _)))
  ·have hk : k = a.length := by have := of_decide_eq_false h3; have := hI.1; omega
   refine sem_exit ?_
   refine seqK_e ?_
   refine lupK_e ?_
   refine blkK_t rfl ?_
   refine seqK_n ?_
   refine sem_seq ?_
   refine sem_region rfl ?_
   refine step_r rfl rfl trivial ?_
   refine step_nil ?_
   refine seqK_n ?_
   refine sem_ret ?_
   exact answersR rfl (by simp) (congrArg B (decide_eq_true (same_all hI.2 hk hlen)).symm) rfl

def one19 (is : Bool) : Int :=
  if is = true then 1 else 0
theorem one19_ok (is : Bool) : Ok Try.prog 11 [B is] [] (I (one19 is)) [] [] := by
 refine ok_of_sem Try.func11 rfl ?_
 show Walks Try.prog _ _ ⟨[(0, B is)], [], 0, [], 4, 0⟩
 refine sem_seq ?_
 refine sem_region rfl ?_
 refine step_r rfl rfl trivial ?_
 refine step_nil ?_
 refine seqK_n ?_
 refine sem_seq ?_
 refine sem_seq ?_
 refine sem_region rfl ?_
 refine step_r rfl rfl trivial ?_
 refine step_nil ?_
 refine seqK_n ?_
 refine sem_cond rfl (fun h2 => ?_) (fun h2 => ?_)
 ·have g2 : is = true := h2
  refine sem_seq ?_
  refine sem_region rfl ?_
  refine step_r rfl rfl trivial ?_
  refine step_nil ?_
  refine seqK_n ?_
  refine sem_ret ?_
  refine seqK_r ?_
  have e3 : one19 is = 1 := by
   unfold one19
   try dsimp only
   rewrite [if_pos g2]
   all_goals rfl
  rw [e3]
  exact answersR rfl ⟨trivial, trivial⟩ (rfl) rfl
 ·have g2 : ¬ (is = true) := boo_f h2
  refine sem_skip ?_
  refine seqK_n ?_
  refine sem_seq ?_
  refine sem_region rfl ?_
  refine step_r rfl rfl trivial ?_
  refine step_nil ?_
  refine seqK_n ?_
  refine sem_ret ?_
  have e4 : one19 is = 0 := by
   unfold one19
   try dsimp only
   rewrite [if_neg g2]
   all_goals rfl
  rw [e4]
  exact answersR rfl ⟨trivial, trivial⟩ (rfl) rfl

def row19 (a : Int) (b : Int) : List GThreat :=
  [(⟨1, a, (-9223372036854775808)⟩ : GThreat), (⟨2, b, (-9223372036854775808)⟩ : GThreat)]
theorem row19_ok (a : Int) (b : Int) : Ok Try.prog 10 [I a, I b] [] (.ref 0 3 0 (row19 a b).length) [.row 40 3 ((row19 a b).flatMap encGThreat)] [] := by
 refine ok_of_sem Try.func10 rfl ?_
 show Walks Try.prog _ _ ⟨[(0, I a), (1, I b)], [], 0, [], 10, 0⟩
 refine sem_seq ?_
 refine sem_region rfl ?_
 refine step_n (nx' := 1) rfl rfl rfl trivial ?_
 refine step_nil ?_
 refine seqK_n ?_
 refine sem_seq ?_
 refine sem_region rfl ?_
 refine step_r rfl rfl trivial ?_
 refine step_r (v := (.agg [_, _, _])) rfl rfl trivial ?_
 refine step_r rfl rfl trivial ?_
 refine step_r (v := (.agg [_, _, _])) rfl rfl trivial ?_
 refine step_n (o := .row _ _ [_, _, _, _, _, _]) (nx' := 2) rfl rfl rfl (by decide) ?_
 refine step_r rfl rfl trivial ?_
 refine step_nil ?_
 refine seqK_n ?_
 refine sem_ret ?_
 have e3 : row19 a b = [(⟨1, a, (-9223372036854775808)⟩ : GThreat), (⟨2, b, (-9223372036854775808)⟩ : GThreat)] := by
  unfold row19
  try dsimp only
  all_goals rfl
 rw [e3]
 exact answersGR [] [1] rfl ⟨trivial, trivial⟩ rfl (by (repeat' apply And.intro) <;> first | trivial | rfl | exact flat_len (fun _ => rfl) _ | exact encI_len _ | exact encB_len _ | exact encY_len _ | assumption) (rfl) rfl rfl rfl (by decide) rfl rfl ⟨⟨rfl, rfl⟩, trivial⟩

theorem row19_len (a b : Int) : (row19 a b).length = 2 := rfl

def small19 : Bool :=
  if (targetT (row19 100 109) 0 1 ([2]) : Int) = 1 then (if ((addT (row19 100 109) 2 1).2 : Int) = 0 then (if (targetT ((addT (row19 100 109) 2 1).1) 0 1 ([2]) : Int) = 2 then (if (targetT ((addT (row19 100 109) 2 1).1) 0 1 ([]) : Int) = 1 then (if ((tauntT (row19 5 50) 1 10 5).2 : Int) = 0 then (if (muchT ((tauntT (row19 5 50) 1 10 5).1) 1 : Int) = 50 then (if (targetT ((tauntT (row19 5 50) 1 10 5).1) 14 2 ([]) : Int) = 1 then (if (targetT ((tauntT (row19 5 50) 1 10 5).1) 15 2 ([]) : Int) = 2 then (if rightT ((tauntT (row19 5 50) 1 10 5).1) = true then ((targetT ([]) 0 1 ([]) : Int) == 0) else false) else false) else false) else false) else false) else false) else false) else false) else false
theorem small19_ok  : Ok Try.prog 7 [] [] (B (small19)) [] [] := by
 refine ok_of_sem Try.func7 rfl ?_
 show Walks Try.prog _ _ ⟨[], [], 0, [], 61, 0⟩
 refine sem_seq ?_
 refine sem_region rfl ?_
 refine step_r rfl rfl trivial ?_
 refine step_nil ?_
 refine seqK_n ?_
 refine sem_seq ?_
 refine sem_region rfl ?_
 refine step_callJ (Hin := []) (out' := .ref 0 _ _ _) (H' := [(0, .row _ _ _)]) (nx' := 1) [] rfl rfl rfl rfl rfl rfl rfl rfl rfl (by (repeat' apply And.intro) <;> first | trivial | rfl | exact flat_len (fun _ => rfl) _ | exact encI_len _ | exact encB_len _ | exact encY_len _ | exact Nat.le_of_ble_eq_true rfl | assumption) (row19_ok 100 109) rfl (by decide) rfl rfl ⟨encGThreat_solid, trivial⟩ rfl rfl rfl rfl ?_
 have p1 := row19_len 100 109
 refine step_callJ (Hin := [.row _ _ _]) (out' := .tup [.ref 1 _ _ _, _]) (H' := [(1, .row _ _ _), (0, .row _ _ _)]) (nx' := 2) [0] rfl rfl rfl rfl rfl rfl rfl rfl rfl (by (repeat' apply And.intro) <;> first | trivial | rfl | exact flat_len (s := 3) (enc := encGThreat) (fun _ => rfl) _ | exact flat_len (fun _ => rfl) _ | exact encI_len _ | exact encB_len _ | exact encY_len _ | exact Nat.le_of_ble_eq_true rfl | assumption) (addT_ok (row19 100 109) false 2 1 (by first | omega | (simp; omega))) rfl (by decide) rfl rfl ⟨encGThreat_solid, trivial⟩ rfl rfl rfl rfl ?_
 have p2 := addT_len (row19 100 109) 2 1
 refine step_r rfl rfl trivial ?_
 refine step_r rfl rfl trivial ?_
 refine step_r rfl rfl trivial ?_
 refine step_r rfl rfl trivial ?_
 refine step_r rfl rfl trivial ?_
 refine step_nil ?_
 refine seqK_n ?_
 refine sem_seq ?_
 refine sem_region rfl ?_
 refine step_callJ (Hin := []) (out' := .ref 2 _ _ _) (H' := [(2, .row _ _ _), (1, .row _ _ _), (0, .row _ _ _)]) (nx' := 3) [] rfl rfl rfl rfl rfl rfl rfl rfl rfl (by (repeat' apply And.intro) <;> first | trivial | rfl | exact flat_len (fun _ => rfl) _ | exact encI_len _ | exact encB_len _ | exact encY_len _ | exact Nat.le_of_ble_eq_true rfl | assumption) (row19_ok 5 50) rfl (by decide) rfl rfl ⟨encGThreat_solid, trivial⟩ rfl rfl rfl rfl ?_
 have p4 := row19_len 5 50
 refine step_callJ (Hin := [.row _ _ _]) (out' := .tup [.ref 3 _ _ _, _]) (H' := [(3, .row _ _ _), (2, .row _ _ _), (1, .row _ _ _), (0, .row _ _ _)]) (nx' := 4) [2] rfl rfl rfl rfl rfl rfl rfl rfl rfl (by (repeat' apply And.intro) <;> first | trivial | rfl | exact flat_len (s := 3) (enc := encGThreat) (fun _ => rfl) _ | exact flat_len (fun _ => rfl) _ | exact encI_len _ | exact encB_len _ | exact encY_len _ | exact Nat.le_of_ble_eq_true rfl | assumption) (tauntT_ok (row19 5 50) false 1 10 5 (by first | omega | (simp; omega))) rfl (by decide) rfl rfl ⟨encGThreat_solid, trivial⟩ rfl rfl rfl rfl ?_
 have p5 := tauntT_len (row19 5 50) 1 10 5
 refine step_r rfl rfl trivial ?_
 refine step_r rfl rfl trivial ?_
 refine step_r rfl rfl trivial ?_
 refine step_r rfl rfl trivial ?_
 refine step_r rfl rfl trivial ?_
 refine step_nil ?_
 refine seqK_n ?_
 refine sem_seq ?_
 refine sem_region rfl ?_
 refine step_callJ (Hin := []) (out' := .ref 4 _ _ _) (H' := [(4, .row _ _ _), (3, .row _ _ _), (2, .row _ _ _), (1, .row _ _ _), (0, .row _ _ _)]) (nx' := 5) [] rfl rfl rfl rfl rfl rfl rfl rfl rfl (by (repeat' apply And.intro) <;> first | trivial | rfl | exact flat_len (fun _ => rfl) _ | exact encI_len _ | exact encB_len _ | exact encY_len _ | exact Nat.le_of_ble_eq_true rfl | assumption) (row19_ok 100 109) rfl (by decide) rfl rfl ⟨encGThreat_solid, trivial⟩ rfl rfl rfl rfl ?_
 have p7 := row19_len 100 109
 refine step_n (o := .row _ _ [_]) (nx' := 6) rfl rfl rfl (by decide) ?_
 refine step_callJ (Hin := [.row _ _ _, .row _ _ _]) (H' := [(5, .row _ _ _), (4, .row _ _ _), (3, .row _ _ _), (2, .row _ _ _), (1, .row _ _ _), (0, .row _ _ _)]) (nx' := 6) [4, 5] rfl rfl rfl rfl rfl rfl rfl rfl rfl (by (repeat' apply And.intro) <;> first | trivial | rfl | exact flat_len (s := 3) (enc := encGThreat) (fun _ => rfl) _ | exact flat_len (fun _ => rfl) _ | exact encI_len _ | exact encB_len _ | exact encY_len _ | exact Nat.le_of_ble_eq_true rfl | assumption) (targetT_ok (row19 100 109) false 0 1 ([2]) false) rfl (by decide) rfl rfl trivial rfl rfl rfl rfl ?_
 refine step_bin rfl rfl rfl rfl rfl trivial ?_
 refine step_r rfl rfl trivial ?_
 refine step_gs rfl (fun h9 => ?_) (fun h9 => ?_)
 ·have g9 : (targetT (row19 100 109) 0 1 ([2]) : Int) = 1 := beq_t h9
  refine step_g1 rfl h9 ?_
  refine step_r rfl rfl trivial ?_
  refine step_g1 rfl h9 ?_
  refine step_bin rfl rfl rfl rfl rfl trivial ?_
  refine step_pickT rfl h9 rfl rfl ?_
  refine step_r rfl rfl trivial ?_
  refine step_gs rfl (fun h11 => ?_) (fun h11 => ?_)
  ·have g11 : ((addT (row19 100 109) 2 1).2 : Int) = 0 := beq_t h11
   refine step_g1 rfl h11 ?_
   refine step_r rfl rfl trivial ?_
   refine step_g1 rfl h11 ?_
   refine step_n (o := .row _ _ [_]) (nx' := 7) rfl rfl rfl (by decide) ?_
   refine step_g1 rfl h11 ?_
   refine step_callJ (Hin := [.row _ _ _, .row _ _ _]) (H' := [(6, .row _ _ _), (5, .row _ _ _), (4, .row _ _ _), (3, .row _ _ _), (2, .row _ _ _), (1, .row _ _ _), (0, .row _ _ _)]) (nx' := 7) [1, 6] rfl rfl rfl rfl rfl rfl rfl rfl rfl (by (repeat' apply And.intro) <;> first | trivial | rfl | exact flat_len (s := 3) (enc := encGThreat) (fun _ => rfl) _ | exact flat_len (fun _ => rfl) _ | exact encI_len _ | exact encB_len _ | exact encY_len _ | exact Nat.le_of_ble_eq_true rfl | assumption) (targetT_ok ((addT (row19 100 109) 2 1).1) false 0 1 ([2]) false) rfl (by decide) rfl rfl trivial rfl rfl rfl rfl ?_
   refine step_g1 rfl h11 ?_
   refine step_bin rfl rfl rfl rfl rfl trivial ?_
   refine step_pickT rfl h11 rfl rfl ?_
   refine step_r rfl rfl trivial ?_
   refine step_gs rfl (fun h13 => ?_) (fun h13 => ?_)
   ·have g13 : (targetT ((addT (row19 100 109) 2 1).1) 0 1 ([2]) : Int) = 2 := beq_t h13
    refine step_g1 rfl h13 ?_
    refine step_r rfl rfl trivial ?_
    refine step_g1 rfl h13 ?_
    refine step_callJ (Hin := [.row _ _ _]) (H' := [(6, .row _ _ _), (5, .row _ _ _), (4, .row _ _ _), (3, .row _ _ _), (2, .row _ _ _), (1, .row _ _ _), (0, .row _ _ _)]) (nx' := 7) [1] rfl rfl rfl rfl rfl rfl rfl rfl rfl (by (repeat' apply And.intro) <;> first | trivial | rfl | exact flat_len (s := 3) (enc := encGThreat) (fun _ => rfl) _ | exact flat_len (fun _ => rfl) _ | exact encI_len _ | exact encB_len _ | exact encY_len _ | exact Nat.le_of_ble_eq_true rfl | assumption) (targetT_ok ((addT (row19 100 109) 2 1).1) false 0 1 ([]) false) rfl (by decide) rfl rfl trivial rfl rfl rfl rfl ?_
    refine step_g1 rfl h13 ?_
    refine step_bin rfl rfl rfl rfl rfl trivial ?_
    refine step_pickT rfl h13 rfl rfl ?_
    refine step_r rfl rfl trivial ?_
    refine step_gs rfl (fun h15 => ?_) (fun h15 => ?_)
    ·have g15 : (targetT ((addT (row19 100 109) 2 1).1) 0 1 ([]) : Int) = 1 := beq_t h15
     refine step_g1 rfl h15 ?_
     refine step_r rfl rfl trivial ?_
     refine step_g1 rfl h15 ?_
     refine step_bin rfl rfl rfl rfl rfl trivial ?_
     refine step_pickT rfl h15 rfl rfl ?_
     refine step_r rfl rfl trivial ?_
     refine step_gs rfl (fun h17 => ?_) (fun h17 => ?_)
     ·have g17 : ((tauntT (row19 5 50) 1 10 5).2 : Int) = 0 := beq_t h17
      refine step_g1 rfl h17 ?_
      refine step_r rfl rfl trivial ?_
      refine step_g1 rfl h17 ?_
      refine step_callJ (Hin := [.row _ _ _]) (H' := [(6, .row _ _ _), (5, .row _ _ _), (4, .row _ _ _), (3, .row _ _ _), (2, .row _ _ _), (1, .row _ _ _), (0, .row _ _ _)]) (nx' := 7) [3] rfl rfl rfl rfl rfl rfl rfl rfl rfl (by (repeat' apply And.intro) <;> first | trivial | rfl | exact flat_len (s := 3) (enc := encGThreat) (fun _ => rfl) _ | exact flat_len (fun _ => rfl) _ | exact encI_len _ | exact encB_len _ | exact encY_len _ | exact Nat.le_of_ble_eq_true rfl | assumption) (muchT_ok ((tauntT (row19 5 50) 1 10 5).1) false 1) rfl (by decide) rfl rfl trivial rfl rfl rfl rfl ?_
      refine step_g1 rfl h17 ?_
      refine step_bin rfl rfl rfl rfl rfl trivial ?_
      refine step_pickT rfl h17 rfl rfl ?_
      refine step_r rfl rfl trivial ?_
      refine step_gs rfl (fun h19 => ?_) (fun h19 => ?_)
      ·have g19 : (muchT ((tauntT (row19 5 50) 1 10 5).1) 1 : Int) = 50 := beq_t h19
       refine step_g1 rfl h19 ?_
       refine step_r rfl rfl trivial ?_
       refine step_g1 rfl h19 ?_
       refine step_callJ (Hin := [.row _ _ _]) (H' := [(6, .row _ _ _), (5, .row _ _ _), (4, .row _ _ _), (3, .row _ _ _), (2, .row _ _ _), (1, .row _ _ _), (0, .row _ _ _)]) (nx' := 7) [3] rfl rfl rfl rfl rfl rfl rfl rfl rfl (by (repeat' apply And.intro) <;> first | trivial | rfl | exact flat_len (s := 3) (enc := encGThreat) (fun _ => rfl) _ | exact flat_len (fun _ => rfl) _ | exact encI_len _ | exact encB_len _ | exact encY_len _ | exact Nat.le_of_ble_eq_true rfl | assumption) (targetT_ok ((tauntT (row19 5 50) 1 10 5).1) false 14 2 ([]) false) rfl (by decide) rfl rfl trivial rfl rfl rfl rfl ?_
       refine step_g1 rfl h19 ?_
       refine step_bin rfl rfl rfl rfl rfl trivial ?_
       refine step_pickT rfl h19 rfl rfl ?_
       refine step_r rfl rfl trivial ?_
       refine step_gs rfl (fun h21 => ?_) (fun h21 => ?_)
       ·have g21 : (targetT ((tauntT (row19 5 50) 1 10 5).1) 14 2 ([]) : Int) = 1 := beq_t h21
        refine step_g1 rfl h21 ?_
        refine step_r rfl rfl trivial ?_
        refine step_g1 rfl h21 ?_
        refine step_callJ (Hin := [.row _ _ _]) (H' := [(6, .row _ _ _), (5, .row _ _ _), (4, .row _ _ _), (3, .row _ _ _), (2, .row _ _ _), (1, .row _ _ _), (0, .row _ _ _)]) (nx' := 7) [3] rfl rfl rfl rfl rfl rfl rfl rfl rfl (by (repeat' apply And.intro) <;> first | trivial | rfl | exact flat_len (s := 3) (enc := encGThreat) (fun _ => rfl) _ | exact flat_len (fun _ => rfl) _ | exact encI_len _ | exact encB_len _ | exact encY_len _ | exact Nat.le_of_ble_eq_true rfl | assumption) (targetT_ok ((tauntT (row19 5 50) 1 10 5).1) false 15 2 ([]) false) rfl (by decide) rfl rfl trivial rfl rfl rfl rfl ?_
        refine step_g1 rfl h21 ?_
        refine step_bin rfl rfl rfl rfl rfl trivial ?_
        refine step_pickT rfl h21 rfl rfl ?_
        refine step_r rfl rfl trivial ?_
        refine step_gs rfl (fun h23 => ?_) (fun h23 => ?_)
        ·have g23 : (targetT ((tauntT (row19 5 50) 1 10 5).1) 15 2 ([]) : Int) = 2 := beq_t h23
         refine step_g1 rfl h23 ?_
         refine step_r rfl rfl trivial ?_
         refine step_g1 rfl h23 ?_
         refine step_callJ (Hin := [.row _ _ _]) (H' := [(6, .row _ _ _), (5, .row _ _ _), (4, .row _ _ _), (3, .row _ _ _), (2, .row _ _ _), (1, .row _ _ _), (0, .row _ _ _)]) (nx' := 7) [3] rfl rfl rfl rfl rfl rfl rfl rfl rfl (by (repeat' apply And.intro) <;> first | trivial | rfl | exact flat_len (s := 3) (enc := encGThreat) (fun _ => rfl) _ | exact flat_len (fun _ => rfl) _ | exact encI_len _ | exact encB_len _ | exact encY_len _ | exact Nat.le_of_ble_eq_true rfl | assumption) (rightT_ok ((tauntT (row19 5 50) 1 10 5).1) false) rfl (by decide) rfl rfl trivial rfl rfl rfl rfl ?_
         refine step_pickT rfl h23 rfl rfl ?_
         refine step_r rfl rfl trivial ?_
         refine step_gs rfl (fun h25 => ?_) (fun h25 => ?_)
         ·have g25 : rightT ((tauntT (row19 5 50) 1 10 5).1) = true := h25
          have qg25 := rightT_len g25
          refine step_g1 rfl h25 ?_
          refine step_callJ (Hin := []) (H' := [(6, .row _ _ _), (5, .row _ _ _), (4, .row _ _ _), (3, .row _ _ _), (2, .row _ _ _), (1, .row _ _ _), (0, .row _ _ _)]) (nx' := 7) [] rfl rfl rfl rfl rfl rfl rfl rfl rfl (by (repeat' apply And.intro) <;> first | trivial | rfl | exact flat_len (fun _ => rfl) _ | exact encI_len _ | exact encB_len _ | exact encY_len _ | exact Nat.le_of_ble_eq_true rfl | assumption) (targetT_ok ([]) false 0 1 ([]) false) rfl (by decide) rfl rfl trivial rfl rfl rfl rfl ?_
          refine step_g1 rfl h25 ?_
          refine step_bin rfl rfl rfl rfl rfl trivial ?_
          refine step_pickT rfl h25 rfl rfl ?_
          refine step_r rfl rfl trivial ?_
          refine step_nil ?_
          refine seqK_n ?_
          refine sem_ret ?_
          have e27 : small19 = ((targetT ([]) 0 1 ([]) : Int) == 0) := by
           unfold small19
           try dsimp only
           rewrite [if_pos g9, if_pos g11, if_pos g13, if_pos g15, if_pos g17, if_pos g19, if_pos g21, if_pos g23, if_pos g25]
           all_goals rfl
          rw [e27]
          exact answersR rfl ⟨trivial, trivial⟩ (rfl) rfl
         ·have g25 : ¬ (rightT ((tauntT (row19 5 50) 1 10 5).1) = true) := boo_f h25
          refine step_g0 rfl h25 rfl ?_
          refine step_g0 rfl h25 rfl ?_
          refine step_pickF rfl h25 rfl rfl ?_
          refine step_r rfl rfl trivial ?_
          refine step_nil ?_
          refine seqK_n ?_
          refine sem_ret ?_
          have e28 : small19 = false := by
           unfold small19
           try dsimp only
           rewrite [if_pos g9, if_pos g11, if_pos g13, if_pos g15, if_pos g17, if_pos g19, if_pos g21, if_pos g23, if_neg g25]
           all_goals rfl
          rw [e28]
          exact answersR rfl ⟨trivial, trivial⟩ (rfl) rfl
        ·have g23 : ¬ ((targetT ((tauntT (row19 5 50) 1 10 5).1) 15 2 ([]) : Int) = 2) := beq_f h23
         refine step_g0 rfl h23 rfl ?_
         refine step_g0 rfl h23 rfl ?_
         refine step_pickF rfl h23 rfl rfl ?_
         refine step_r rfl rfl trivial ?_
         refine step_gf rfl rfl ?_
         refine step_gf rfl rfl ?_
         refine step_r rfl rfl trivial ?_
         refine step_r rfl rfl trivial ?_
         refine step_nil ?_
         refine seqK_n ?_
         refine sem_ret ?_
         have e29 : small19 = false := by
          unfold small19
          try dsimp only
          rewrite [if_pos g9, if_pos g11, if_pos g13, if_pos g15, if_pos g17, if_pos g19, if_pos g21, if_neg g23]
          all_goals rfl
         rw [e29]
         exact answersR rfl ⟨trivial, trivial⟩ (rfl) rfl
       ·have g21 : ¬ ((targetT ((tauntT (row19 5 50) 1 10 5).1) 14 2 ([]) : Int) = 1) := beq_f h21
        refine step_g0 rfl h21 rfl ?_
        refine step_g0 rfl h21 rfl ?_
        refine step_g0 rfl h21 rfl ?_
        refine step_pickF rfl h21 rfl rfl ?_
        refine step_r rfl rfl trivial ?_
        refine step_gf rfl rfl ?_
        refine step_gf rfl rfl ?_
        refine step_r rfl rfl trivial ?_
        refine step_r rfl rfl trivial ?_
        refine step_gf rfl rfl ?_
        refine step_gf rfl rfl ?_
        refine step_r rfl rfl trivial ?_
        refine step_r rfl rfl trivial ?_
        refine step_nil ?_
        refine seqK_n ?_
        refine sem_ret ?_
        have e30 : small19 = false := by
         unfold small19
         try dsimp only
         rewrite [if_pos g9, if_pos g11, if_pos g13, if_pos g15, if_pos g17, if_pos g19, if_neg g21]
         all_goals rfl
        rw [e30]
        exact answersR rfl ⟨trivial, trivial⟩ (rfl) rfl
      ·have g19 : ¬ ((muchT ((tauntT (row19 5 50) 1 10 5).1) 1 : Int) = 50) := beq_f h19
       refine step_g0 rfl h19 rfl ?_
       refine step_g0 rfl h19 rfl ?_
       refine step_g0 rfl h19 rfl ?_
       refine step_pickF rfl h19 rfl rfl ?_
       refine step_r rfl rfl trivial ?_
       refine step_gf rfl rfl ?_
       refine step_gf rfl rfl ?_
       refine step_gf rfl rfl ?_
       refine step_r rfl rfl trivial ?_
       refine step_r rfl rfl trivial ?_
       refine step_gf rfl rfl ?_
       refine step_gf rfl rfl ?_
       refine step_r rfl rfl trivial ?_
       refine step_r rfl rfl trivial ?_
       refine step_gf rfl rfl ?_
       refine step_gf rfl rfl ?_
       refine step_r rfl rfl trivial ?_
       refine step_r rfl rfl trivial ?_
       refine step_nil ?_
       refine seqK_n ?_
       refine sem_ret ?_
       have e31 : small19 = false := by
        unfold small19
        try dsimp only
        rewrite [if_pos g9, if_pos g11, if_pos g13, if_pos g15, if_pos g17, if_neg g19]
        all_goals rfl
       rw [e31]
       exact answersR rfl ⟨trivial, trivial⟩ (rfl) rfl
     ·have g17 : ¬ (((tauntT (row19 5 50) 1 10 5).2 : Int) = 0) := beq_f h17
      refine step_g0 rfl h17 rfl ?_
      refine step_g0 rfl h17 rfl ?_
      refine step_g0 rfl h17 rfl ?_
      refine step_pickF rfl h17 rfl rfl ?_
      refine step_r rfl rfl trivial ?_
      refine step_gf rfl rfl ?_
      refine step_gf rfl rfl ?_
      refine step_gf rfl rfl ?_
      refine step_r rfl rfl trivial ?_
      refine step_r rfl rfl trivial ?_
      refine step_gf rfl rfl ?_
      refine step_gf rfl rfl ?_
      refine step_gf rfl rfl ?_
      refine step_r rfl rfl trivial ?_
      refine step_r rfl rfl trivial ?_
      refine step_gf rfl rfl ?_
      refine step_gf rfl rfl ?_
      refine step_r rfl rfl trivial ?_
      refine step_r rfl rfl trivial ?_
      refine step_gf rfl rfl ?_
      refine step_gf rfl rfl ?_
      refine step_r rfl rfl trivial ?_
      refine step_r rfl rfl trivial ?_
      refine step_nil ?_
      refine seqK_n ?_
      refine sem_ret ?_
      have e32 : small19 = false := by
       unfold small19
       try dsimp only
       rewrite [if_pos g9, if_pos g11, if_pos g13, if_pos g15, if_neg g17]
       all_goals rfl
      rw [e32]
      exact answersR rfl ⟨trivial, trivial⟩ (rfl) rfl
    ·have g15 : ¬ ((targetT ((addT (row19 100 109) 2 1).1) 0 1 ([]) : Int) = 1) := beq_f h15
     refine step_g0 rfl h15 rfl ?_
     refine step_g0 rfl h15 rfl ?_
     refine step_pickF rfl h15 rfl rfl ?_
     refine step_r rfl rfl trivial ?_
     refine step_gf rfl rfl ?_
     refine step_gf rfl rfl ?_
     refine step_gf rfl rfl ?_
     refine step_r rfl rfl trivial ?_
     refine step_r rfl rfl trivial ?_
     refine step_gf rfl rfl ?_
     refine step_gf rfl rfl ?_
     refine step_gf rfl rfl ?_
     refine step_r rfl rfl trivial ?_
     refine step_r rfl rfl trivial ?_
     refine step_gf rfl rfl ?_
     refine step_gf rfl rfl ?_
     refine step_gf rfl rfl ?_
     refine step_r rfl rfl trivial ?_
     refine step_r rfl rfl trivial ?_
     refine step_gf rfl rfl ?_
     refine step_gf rfl rfl ?_
     refine step_r rfl rfl trivial ?_
     refine step_r rfl rfl trivial ?_
     refine step_gf rfl rfl ?_
     refine step_gf rfl rfl ?_
     refine step_r rfl rfl trivial ?_
     refine step_r rfl rfl trivial ?_
     refine step_nil ?_
     refine seqK_n ?_
     refine sem_ret ?_
     have e33 : small19 = false := by
      unfold small19
      try dsimp only
      rewrite [if_pos g9, if_pos g11, if_pos g13, if_neg g15]
      all_goals rfl
     rw [e33]
     exact answersR rfl ⟨trivial, trivial⟩ (rfl) rfl
   ·have g13 : ¬ ((targetT ((addT (row19 100 109) 2 1).1) 0 1 ([2]) : Int) = 2) := beq_f h13
    refine step_g0 rfl h13 rfl ?_
    refine step_g0 rfl h13 rfl ?_
    refine step_g0 rfl h13 rfl ?_
    refine step_pickF rfl h13 rfl rfl ?_
    refine step_r rfl rfl trivial ?_
    refine step_gf rfl rfl ?_
    refine step_gf rfl rfl ?_
    refine step_r rfl rfl trivial ?_
    refine step_r rfl rfl trivial ?_
    refine step_gf rfl rfl ?_
    refine step_gf rfl rfl ?_
    refine step_gf rfl rfl ?_
    refine step_r rfl rfl trivial ?_
    refine step_r rfl rfl trivial ?_
    refine step_gf rfl rfl ?_
    refine step_gf rfl rfl ?_
    refine step_gf rfl rfl ?_
    refine step_r rfl rfl trivial ?_
    refine step_r rfl rfl trivial ?_
    refine step_gf rfl rfl ?_
    refine step_gf rfl rfl ?_
    refine step_gf rfl rfl ?_
    refine step_r rfl rfl trivial ?_
    refine step_r rfl rfl trivial ?_
    refine step_gf rfl rfl ?_
    refine step_gf rfl rfl ?_
    refine step_r rfl rfl trivial ?_
    refine step_r rfl rfl trivial ?_
    refine step_gf rfl rfl ?_
    refine step_gf rfl rfl ?_
    refine step_r rfl rfl trivial ?_
    refine step_r rfl rfl trivial ?_
    refine step_nil ?_
    refine seqK_n ?_
    refine sem_ret ?_
    have e34 : small19 = false := by
     unfold small19
     try dsimp only
     rewrite [if_pos g9, if_pos g11, if_neg g13]
     all_goals rfl
    rw [e34]
    exact answersR rfl ⟨trivial, trivial⟩ (rfl) rfl
  ·have g11 : ¬ (((addT (row19 100 109) 2 1).2 : Int) = 0) := beq_f h11
   refine step_g0 rfl h11 rfl ?_
   refine step_g0 rfl h11 rfl ?_
   refine step_g0 rfl h11 rfl ?_
   refine step_g0 rfl h11 rfl ?_
   refine step_pickF rfl h11 rfl rfl ?_
   refine step_r rfl rfl trivial ?_
   refine step_gf rfl rfl ?_
   refine step_gf rfl rfl ?_
   refine step_gf rfl rfl ?_
   refine step_r rfl rfl trivial ?_
   refine step_r rfl rfl trivial ?_
   refine step_gf rfl rfl ?_
   refine step_gf rfl rfl ?_
   refine step_r rfl rfl trivial ?_
   refine step_r rfl rfl trivial ?_
   refine step_gf rfl rfl ?_
   refine step_gf rfl rfl ?_
   refine step_gf rfl rfl ?_
   refine step_r rfl rfl trivial ?_
   refine step_r rfl rfl trivial ?_
   refine step_gf rfl rfl ?_
   refine step_gf rfl rfl ?_
   refine step_gf rfl rfl ?_
   refine step_r rfl rfl trivial ?_
   refine step_r rfl rfl trivial ?_
   refine step_gf rfl rfl ?_
   refine step_gf rfl rfl ?_
   refine step_gf rfl rfl ?_
   refine step_r rfl rfl trivial ?_
   refine step_r rfl rfl trivial ?_
   refine step_gf rfl rfl ?_
   refine step_gf rfl rfl ?_
   refine step_r rfl rfl trivial ?_
   refine step_r rfl rfl trivial ?_
   refine step_gf rfl rfl ?_
   refine step_gf rfl rfl ?_
   refine step_r rfl rfl trivial ?_
   refine step_r rfl rfl trivial ?_
   refine step_nil ?_
   refine seqK_n ?_
   refine sem_ret ?_
   have e35 : small19 = false := by
    unfold small19
    try dsimp only
    rewrite [if_pos g9, if_neg g11]
    all_goals rfl
   rw [e35]
   exact answersR rfl ⟨trivial, trivial⟩ (rfl) rfl
 ·have g9 : ¬ ((targetT (row19 100 109) 0 1 ([2]) : Int) = 1) := beq_f h9
  refine step_g0 rfl h9 rfl ?_
  refine step_g0 rfl h9 rfl ?_
  refine step_pickF rfl h9 rfl rfl ?_
  refine step_r rfl rfl trivial ?_
  refine step_gf rfl rfl ?_
  refine step_gf rfl rfl ?_
  refine step_gf rfl rfl ?_
  refine step_gf rfl rfl ?_
  refine step_r rfl rfl trivial ?_
  refine step_r rfl rfl trivial ?_
  refine step_gf rfl rfl ?_
  refine step_gf rfl rfl ?_
  refine step_gf rfl rfl ?_
  refine step_r rfl rfl trivial ?_
  refine step_r rfl rfl trivial ?_
  refine step_gf rfl rfl ?_
  refine step_gf rfl rfl ?_
  refine step_r rfl rfl trivial ?_
  refine step_r rfl rfl trivial ?_
  refine step_gf rfl rfl ?_
  refine step_gf rfl rfl ?_
  refine step_gf rfl rfl ?_
  refine step_r rfl rfl trivial ?_
  refine step_r rfl rfl trivial ?_
  refine step_gf rfl rfl ?_
  refine step_gf rfl rfl ?_
  refine step_gf rfl rfl ?_
  refine step_r rfl rfl trivial ?_
  refine step_r rfl rfl trivial ?_
  refine step_gf rfl rfl ?_
  refine step_gf rfl rfl ?_
  refine step_gf rfl rfl ?_
  refine step_r rfl rfl trivial ?_
  refine step_r rfl rfl trivial ?_
  refine step_gf rfl rfl ?_
  refine step_gf rfl rfl ?_
  refine step_r rfl rfl trivial ?_
  refine step_r rfl rfl trivial ?_
  refine step_gf rfl rfl ?_
  refine step_gf rfl rfl ?_
  refine step_r rfl rfl trivial ?_
  refine step_r rfl rfl trivial ?_
  refine step_nil ?_
  refine seqK_n ?_
  refine sem_ret ?_
  have e36 : small19 = false := by
   unfold small19
   try dsimp only
   rewrite [if_neg g9]
   all_goals rfl
  rw [e36]
  exact answersR rfl ⟨trivial, trivial⟩ (rfl) rfl

def targets19 (l : List GThreat) (now : Int) (target : Int) (near : List Int) : Bool :=
  if (l.length : Int) > 60 then (small19) else if (near.length : Int) > 60 then (small19) else if small19 = true then ((targetT l now target near : Int) == (targetTR l now target near)) else false
theorem targets19_ok (l : List GThreat) (l_f : Bool) (now : Int) (target : Int) (near : List Int) (near_f : Bool) : Ok Try.prog 3 [.pv (.slc l.length l_f (l.flatMap encGThreat)), I now, I target, .pv (.slc near.length near_f (encI near))] [] (B (targets19 l now target near)) [] [] := by
 refine Ok.len fun hlen => ?_
 have hl_l : l.length ≤ maxLen := hlen _ (by simp [lensL, lens, lensP])
 have hl_near : near.length ≤ maxLen := hlen _ (by simp [lensL, lens, lensP])
 unfold maxLen at hl_l hl_near
 refine ok_of_sem Try.func3 rfl ?_
 show Walks Try.prog _ _ ⟨[(0, .pv (.slc l.length l_f (l.flatMap encGThreat))), (1, I now), (2, I target), (3, .pv (.slc near.length near_f (encI near)))], [], 0, [], 34, 0⟩
 refine sem_seq ?_
 refine sem_region rfl ?_
 refine step_r rfl rfl trivial ?_
 refine step_nil ?_
 refine seqK_n ?_
 refine sem_seq ?_
 refine sem_region rfl ?_
 refine step_call rfl rfl rfl rfl (small19_ok ) rfl rfl rfl ?_
 refine step_r rfl rfl trivial ?_
 refine step_nil ?_
 refine seqK_n ?_
 refine sem_seq ?_
 refine sem_seq ?_
 refine sem_region rfl ?_
 refine step_r rfl rfl trivial ?_
 refine step_r rfl rfl trivial ?_
 refine step_bin rfl rfl rfl rfl rfl trivial ?_
 refine step_r rfl rfl trivial ?_
 refine step_gs rfl (fun h3 => ?_) (fun h3 => ?_)
 ·have g3 : (l.length : Int) > 60 := of_decide_eq_true h3
  refine step_g0 rfl h3 rfl ?_
  refine step_g0 rfl h3 rfl ?_
  refine step_g0 rfl h3 rfl ?_
  refine step_pickT rfl h3 rfl rfl ?_
  refine step_nil ?_
  refine seqK_n ?_
  refine sem_condT rfl ?_
  refine sem_seq ?_
  refine sem_region rfl ?_
  refine step_r rfl rfl trivial ?_
  refine step_r rfl rfl trivial ?_
  refine step_nil ?_
  refine seqK_n ?_
  refine sem_ret ?_
  refine seqK_r ?_
  have e4 : targets19 l now target near = (small19) := by
   unfold targets19
   try dsimp only
   rewrite [if_pos g3]
   all_goals rfl
  rw [e4]
  exact answersR rfl ⟨trivial, trivial⟩ (rfl) rfl
 ·have g3 : ¬ ((l.length : Int) > 60) := of_decide_eq_false h3
  refine step_g1 rfl h3 ?_
  refine step_r rfl rfl trivial ?_
  refine step_g1 rfl h3 ?_
  refine step_r rfl rfl trivial ?_
  refine step_g1 rfl h3 ?_
  refine step_bin rfl rfl rfl rfl rfl trivial ?_
  refine step_pickF rfl h3 rfl rfl ?_
  refine step_nil ?_
  refine seqK_n ?_
  refine sem_cond rfl (fun h6 => ?_) (fun h6 => ?_)
  ·have g6 : (near.length : Int) > 60 := of_decide_eq_true h6
   refine sem_seq ?_
   refine sem_region rfl ?_
   refine step_r rfl rfl trivial ?_
   refine step_r rfl rfl trivial ?_
   refine step_nil ?_
   refine seqK_n ?_
   refine sem_ret ?_
   refine seqK_r ?_
   have e7 : targets19 l now target near = (small19) := by
    unfold targets19
    try dsimp only
    rewrite [if_neg g3, if_pos g6]
    all_goals rfl
   rw [e7]
   exact answersR rfl ⟨trivial, trivial⟩ (rfl) rfl
  ·have g6 : ¬ ((near.length : Int) > 60) := of_decide_eq_false h6
   refine sem_skip ?_
   refine seqK_n ?_
   refine sem_seq ?_
   refine sem_region rfl ?_
   refine step_r rfl rfl trivial ?_
   refine step_r rfl rfl trivial ?_
   refine step_gs rfl (fun h8 => ?_) (fun h8 => ?_)
   ·have g8 : small19 = true := h8
    refine step_g1 rfl h8 ?_
    refine step_r rfl rfl trivial ?_
    refine step_g1 rfl h8 ?_
    refine step_r rfl rfl trivial ?_
    refine step_g1 rfl h8 ?_
    refine step_r rfl rfl trivial ?_
    refine step_g1 rfl h8 ?_
    refine step_r rfl rfl trivial ?_
    refine step_g1 rfl h8 ?_
    refine step_call rfl rfl rfl rfl (targetT_ok l l_f now target near near_f) rfl rfl rfl ?_
    refine step_g1 rfl h8 ?_
    refine step_r rfl rfl trivial ?_
    refine step_g1 rfl h8 ?_
    refine step_r rfl rfl trivial ?_
    refine step_g1 rfl h8 ?_
    refine step_r rfl rfl trivial ?_
    refine step_g1 rfl h8 ?_
    refine step_r rfl rfl trivial ?_
    refine step_g1 rfl h8 ?_
    refine step_call rfl rfl rfl rfl (targetTR_ok l l_f now target near near_f) rfl rfl rfl ?_
    refine step_g1 rfl h8 ?_
    refine step_bin rfl rfl rfl rfl rfl trivial ?_
    refine step_pickT rfl h8 rfl rfl ?_
    refine step_r rfl rfl trivial ?_
    refine step_nil ?_
    refine seqK_n ?_
    refine sem_ret ?_
    have e12 : targets19 l now target near = ((targetT l now target near : Int) == (targetTR l now target near)) := by
     unfold targets19
     try dsimp only
     rewrite [if_neg g3, if_neg g6, if_pos g8]
     all_goals rfl
    rw [e12]
    exact answersR rfl ⟨trivial, trivial⟩ (rfl) rfl
   ·have g8 : ¬ (small19 = true) := boo_f h8
    refine step_g0 rfl h8 rfl ?_
    refine step_g0 rfl h8 rfl ?_
    refine step_g0 rfl h8 rfl ?_
    refine step_g0 rfl h8 rfl ?_
    refine step_g0 rfl h8 rfl ?_
    refine step_g0 rfl h8 rfl ?_
    refine step_g0 rfl h8 rfl ?_
    refine step_g0 rfl h8 rfl ?_
    refine step_g0 rfl h8 rfl ?_
    refine step_g0 rfl h8 rfl ?_
    refine step_g0 rfl h8 rfl ?_
    refine step_pickF rfl h8 rfl rfl ?_
    refine step_r rfl rfl trivial ?_
    refine step_nil ?_
    refine seqK_n ?_
    refine sem_ret ?_
    have e13 : targets19 l now target near = false := by
     unfold targets19
     try dsimp only
     rewrite [if_neg g3, if_neg g6, if_neg g8]
     all_goals rfl
    rw [e13]
    exact answersR rfl ⟨trivial, trivial⟩ (rfl) rfl

def keeps19_J28 (near : Bool) : (List Int) × Int :=
  if near = true then ([2], 110) else ([], 130)
def keeps19_J35 (a : Int) (b : Int) (more_28 : Int) : Bool :=
  if (b : Int) > a then (decide ((b : Int) ≥ (IntKind.i64.wrap ((IntKind.i64.wrap (more_28 * a) : Int).tdiv 100)))) else false
def keeps19 (a : Int) (b : Int) (near : Bool) : Bool :=
  if (a : Int) < 0 then (small19) else if (b : Int) < 0 then (small19) else if (a : Int) > 1000000 then (small19) else if (b : Int) > 2000000 then (small19) else (match keeps19_J28 near with
    | (l_28, more_28) => (let turns_35 := keeps19_J35 a b more_28; if small19 = true then (if (targetT (row19 a b) 0 1 l_28 : Int) = (IntKind.i64.wrap (1 + (one19 turns_35))) then (if (a : Int) > b then ((targetT (row19 a b) 0 2 ([1, 2]) : Int) == (IntKind.i64.wrap (2 - (one19 (decide ((a : Int) ≥ (IntKind.i64.wrap ((IntKind.i64.wrap (110 * b) : Int).tdiv 100)))))))) else ((targetT (row19 a b) 0 2 ([1, 2]) : Int) == (IntKind.i64.wrap (2 - (one19 false))))) else false) else false))
theorem keeps19_ok (a : Int) (b : Int) (near : Bool) : Ok Try.prog 4 [I a, I b, B near] [] (B (keeps19 a b near)) [] [] := by
 refine ok_of_sem Try.func4 rfl ?_
 show Walks Try.prog _ _ ⟨[(0, I a), (1, I b), (2, B near)], [], 0, [], 74, 0⟩
 refine sem_seq ?_
 refine sem_region rfl ?_
 refine step_r rfl rfl trivial ?_
 refine step_nil ?_
 refine seqK_n ?_
 refine sem_seq ?_
 refine sem_region rfl ?_
 refine step_call rfl rfl rfl rfl (small19_ok ) rfl rfl rfl ?_
 refine step_r rfl rfl trivial ?_
 refine step_nil ?_
 refine seqK_n ?_
 refine sem_seq ?_
 refine sem_seq ?_
 refine sem_region rfl ?_
 refine step_r rfl rfl trivial ?_
 refine step_bin rfl rfl rfl rfl rfl trivial ?_
 refine step_r rfl rfl trivial ?_
 refine step_gs rfl (fun h4 => ?_) (fun h4 => ?_)
 ·have g4 : (a : Int) < 0 := of_decide_eq_true h4
  refine step_g0 rfl h4 rfl ?_
  refine step_g0 rfl h4 rfl ?_
  refine step_pickT rfl h4 rfl rfl ?_
  refine step_r rfl rfl trivial ?_
  refine step_gf rfl rfl ?_
  refine step_gf rfl rfl ?_
  refine step_r rfl rfl trivial ?_
  refine step_r rfl rfl trivial ?_
  refine step_gf rfl rfl ?_
  refine step_gf rfl rfl ?_
  refine step_r rfl rfl trivial ?_
  refine step_nil ?_
  refine seqK_n ?_
  refine sem_condT rfl ?_
  refine sem_seq ?_
  refine sem_region rfl ?_
  refine step_r rfl rfl trivial ?_
  refine step_r rfl rfl trivial ?_
  refine step_nil ?_
  refine seqK_n ?_
  refine sem_ret ?_
  refine seqK_r ?_
  have e5 : keeps19 a b near = (small19) := by
   unfold keeps19
   try dsimp only
   rewrite [if_pos g4]
   all_goals rfl
  rw [e5]
  exact answersR rfl ⟨trivial, trivial⟩ (rfl) rfl
 ·have g4 : ¬ ((a : Int) < 0) := of_decide_eq_false h4
  refine step_g1 rfl h4 ?_
  refine step_r rfl rfl trivial ?_
  refine step_g1 rfl h4 ?_
  refine step_bin rfl rfl rfl rfl rfl trivial ?_
  refine step_pickF rfl h4 rfl rfl ?_
  refine step_r rfl rfl trivial ?_
  refine step_gs rfl (fun h8 => ?_) (fun h8 => ?_)
  ·have g8 : (b : Int) < 0 := of_decide_eq_true h8
   refine step_g0 rfl h8 rfl ?_
   refine step_g0 rfl h8 rfl ?_
   refine step_pickT rfl h8 rfl rfl ?_
   refine step_r rfl rfl trivial ?_
   refine step_gf rfl rfl ?_
   refine step_gf rfl rfl ?_
   refine step_r rfl rfl trivial ?_
   refine step_nil ?_
   refine seqK_n ?_
   refine sem_condT rfl ?_
   refine sem_seq ?_
   refine sem_region rfl ?_
   refine step_r rfl rfl trivial ?_
   refine step_r rfl rfl trivial ?_
   refine step_nil ?_
   refine seqK_n ?_
   refine sem_ret ?_
   refine seqK_r ?_
   have e9 : keeps19 a b near = (small19) := by
    unfold keeps19
    try dsimp only
    rewrite [if_neg g4, if_pos g8]
    all_goals rfl
   rw [e9]
   exact answersR rfl ⟨trivial, trivial⟩ (rfl) rfl
  ·have g8 : ¬ ((b : Int) < 0) := of_decide_eq_false h8
   refine step_g1 rfl h8 ?_
   refine step_r rfl rfl trivial ?_
   refine step_g1 rfl h8 ?_
   refine step_bin rfl rfl rfl rfl rfl trivial ?_
   refine step_pickF rfl h8 rfl rfl ?_
   refine step_r rfl rfl trivial ?_
   refine step_gs rfl (fun h11 => ?_) (fun h11 => ?_)
   ·have g11 : (a : Int) > 1000000 := of_decide_eq_true h11
    refine step_g0 rfl h11 rfl ?_
    refine step_g0 rfl h11 rfl ?_
    refine step_pickT rfl h11 rfl rfl ?_
    refine step_nil ?_
    refine seqK_n ?_
    refine sem_condT rfl ?_
    refine sem_seq ?_
    refine sem_region rfl ?_
    refine step_r rfl rfl trivial ?_
    refine step_r rfl rfl trivial ?_
    refine step_nil ?_
    refine seqK_n ?_
    refine sem_ret ?_
    refine seqK_r ?_
    have e12 : keeps19 a b near = (small19) := by
     unfold keeps19
     try dsimp only
     rewrite [if_neg g4, if_neg g8, if_pos g11]
     all_goals rfl
    rw [e12]
    exact answersR rfl ⟨trivial, trivial⟩ (rfl) rfl
   ·have g11 : ¬ ((a : Int) > 1000000) := of_decide_eq_false h11
    refine step_g1 rfl h11 ?_
    refine step_r rfl rfl trivial ?_
    refine step_g1 rfl h11 ?_
    refine step_bin rfl rfl rfl rfl rfl trivial ?_
    refine step_pickF rfl h11 rfl rfl ?_
    refine step_nil ?_
    refine seqK_n ?_
    refine sem_cond rfl (fun h14 => ?_) (fun h14 => ?_)
    ·have g14 : (b : Int) > 2000000 := of_decide_eq_true h14
     refine sem_seq ?_
     refine sem_region rfl ?_
     refine step_r rfl rfl trivial ?_
     refine step_r rfl rfl trivial ?_
     refine step_nil ?_
     refine seqK_n ?_
     refine sem_ret ?_
     refine seqK_r ?_
     have e15 : keeps19 a b near = (small19) := by
      unfold keeps19
      try dsimp only
      rewrite [if_neg g4, if_neg g8, if_neg g11, if_pos g14]
      all_goals rfl
     rw [e15]
     exact answersR rfl ⟨trivial, trivial⟩ (rfl) rfl
    ·have g14 : ¬ ((b : Int) > 2000000) := of_decide_eq_false h14
     refine sem_skip ?_
     refine seqK_n ?_
     refine sem_seq ?_
     refine sem_region rfl ?_
     refine step_n (nx' := 1) rfl rfl rfl trivial ?_
     refine step_nil ?_
     refine seqK_n ?_
     refine sem_seq ?_
     refine sem_region rfl ?_
     refine step_r rfl rfl trivial ?_
     refine step_nil ?_
     refine seqK_n ?_
     refine sem_seq ?_
     refine sem_cutW (fun w_ : (List Int) × Int => match w_ with | (l_28, more_28) => (⟨[(0, I a), (1, I b), (7, B (small19)), (8, .ref 0 1 0 l_28.length), (9, I more_28)], [(0, .row 3 1 (encI l_28))], 1, [], 74, 0⟩ : St)) (fun w_ => keeps19_J28 near = w_) ?_ ?_
     ·refine sem_seq ?_
      refine sem_region rfl ?_
      refine step_r rfl rfl trivial ?_
      refine step_nil ?_
      refine seqK_n ?_
      refine sem_cond rfl (fun h18 => ?_) (fun h18 => ?_)
      ·have g18 : near = true := h18
       refine sem_seq ?_
       refine sem_region rfl ?_
       refine step_n (o := .row _ _ [_]) (nx' := 2) rfl rfl rfl (by decide) ?_
       refine step_r rfl rfl trivial ?_
       refine step_nil ?_
       refine seqK_n ?_
       refine sem_region rfl ?_
       refine step_r rfl rfl trivial ?_
       refine step_nil ?_
       have e19 : keeps19_J28 near = ([2], 110) := by
        unfold keeps19_J28
        try dsimp only
        rewrite [if_pos g18]
        all_goals rfl
       exact cutW_n ([2], 110) e19 (Trans.ren [(0, 1), (1, 0)] (by decide +kernel) (by decide +kernel) rfl ⟨⟨rfl, rfl⟩, ⟨rfl, rfl⟩, ⟨rfl, rfl⟩, ⟨congrArg (fun n => some (AV.ref 1 1 0 n)) (by first | rfl | simp only [List.length_set] | simp | omega | (simp; omega)), rfl⟩, ⟨rfl, rfl⟩, trivial⟩ ⟨⟨rfl, rfl, rfl⟩, trivial⟩ (by decide))
      ·have g18 : ¬ (near = true) := boo_f h18
       refine sem_skip ?_
       have e20 : keeps19_J28 near = ([], 130) := by
        unfold keeps19_J28
        try dsimp only
        rewrite [if_neg g18]
        all_goals rfl
       exact cutW_n ([], 130) e20 (Trans.ren [] (by decide +kernel) (by decide +kernel) rfl ⟨⟨rfl, rfl⟩, ⟨rfl, rfl⟩, ⟨rfl, rfl⟩, ⟨congrArg (fun n => some (AV.ref 0 1 0 n)) (by first | rfl | simp only [List.length_set] | simp | omega | (simp; omega)), rfl⟩, ⟨rfl, rfl⟩, trivial⟩ ⟨⟨rfl, rfl, rfl⟩, trivial⟩ (by decide))
     ·rintro ⟨l_28, more_28⟩ (hJ16 : keeps19_J28 near = (l_28, more_28))
      show seqK _ _ _ .normal (⟨[(0, I a), (1, I b), (7, B (small19)), (8, .ref 0 1 0 l_28.length), (9, I more_28)], [(0, .row 3 1 (encI l_28))], 1, [], 74, 0⟩ : St)
      refine seqK_n ?_
      refine sem_seq ?_
      refine sem_region rfl ?_
      refine step_r rfl rfl trivial ?_
      refine step_r rfl rfl trivial ?_
      refine step_callJ (Hin := []) (out' := .ref 1 _ _ _) (H' := [(1, .row _ _ _), (0, .row _ _ _)]) (nx' := 2) [] rfl rfl rfl rfl rfl rfl rfl rfl rfl (by (repeat' apply And.intro) <;> first | trivial | rfl | exact flat_len (fun _ => rfl) _ | exact encI_len _ | exact encB_len _ | exact encY_len _ | exact Nat.le_of_ble_eq_true rfl | assumption) (row19_ok a b) rfl (by decide) rfl rfl ⟨encGThreat_solid, trivial⟩ rfl rfl rfl rfl ?_
      have p23 := row19_len a b
      refine step_r rfl rfl trivial ?_
      refine step_callJ (Hin := [.row _ _ _, .row _ _ _]) (H' := [(1, .row _ _ _), (0, .row _ _ _)]) (nx' := 2) [1, 0] rfl rfl rfl rfl rfl rfl rfl rfl rfl (by (repeat' apply And.intro) <;> first | trivial | rfl | exact flat_len (s := 3) (enc := encGThreat) (fun _ => rfl) _ | exact flat_len (fun _ => rfl) _ | exact encI_len _ | exact encB_len _ | exact encY_len _ | exact Nat.le_of_ble_eq_true rfl | assumption) (targetT_ok (row19 a b) false 0 1 l_28 false) rfl (by decide) rfl rfl trivial rfl rfl rfl rfl ?_
      refine step_r rfl rfl trivial ?_
      refine step_nil ?_
      refine seqK_n ?_
      refine sem_seq ?_
      refine sem_cutW (fun turns_35 : Bool => (⟨[(0, I a), (1, I b), (7, B (small19)), (10, I (targetT (row19 a b) 0 1 l_28)), (11, B turns_35)], [], 0, [], 74, 0⟩ : St)) (fun w_ => keeps19_J35 a b more_28 = w_) ?_ ?_
      ·refine sem_region rfl ?_
       refine step_r rfl rfl trivial ?_
       refine step_r rfl rfl trivial ?_
       refine step_bin rfl rfl rfl rfl rfl trivial ?_
       refine step_r rfl rfl trivial ?_
       refine step_gs rfl (fun h27 => ?_) (fun h27 => ?_)
       ·have g27 : (b : Int) > a := of_decide_eq_true h27
        refine step_g1 rfl h27 ?_
        refine step_r rfl rfl trivial ?_
        refine step_g1 rfl h27 ?_
        refine step_r rfl rfl trivial ?_
        refine step_g1 rfl h27 ?_
        refine step_r rfl rfl trivial ?_
        refine step_g1 rfl h27 ?_
        refine step_bin rfl rfl rfl rfl rfl trivial ?_
        refine step_g1 rfl h27 ?_
        refine step_bin rfl rfl rfl rfl rfl (by first | decide | omega | simp_all) ?_
        refine step_g1 rfl h27 ?_
        refine step_bin rfl rfl rfl rfl rfl trivial ?_
        refine step_pickT rfl h27 rfl rfl ?_
        refine step_r rfl rfl trivial ?_
        refine step_nil ?_
        have e30 : keeps19_J35 a b more_28 = (decide ((b : Int) ≥ (IntKind.i64.wrap ((IntKind.i64.wrap (more_28 * a) : Int).tdiv 100)))) := by
         unfold keeps19_J35
         try dsimp only
         rewrite [if_pos g27]
         all_goals rfl
        exact cutW_n (decide ((b : Int) ≥ (IntKind.i64.wrap ((IntKind.i64.wrap (more_28 * a) : Int).tdiv 100)))) e30 (Trans.ren [] (by decide +kernel) (by decide +kernel) rfl ⟨⟨rfl, rfl⟩, ⟨rfl, rfl⟩, ⟨rfl, rfl⟩, ⟨rfl, rfl⟩, ⟨rfl, rfl⟩, trivial⟩ trivial (by decide))
       ·have g27 : ¬ ((b : Int) > a) := of_decide_eq_false h27
        refine step_g0 rfl h27 rfl ?_
        refine step_g0 rfl h27 rfl ?_
        refine step_g0 rfl h27 rfl ?_
        refine step_g0 rfl h27 rfl ?_
        refine step_g0 rfl h27 rfl ?_
        refine step_g0 rfl h27 rfl ?_
        refine step_pickF rfl h27 rfl rfl ?_
        refine step_r rfl rfl trivial ?_
        refine step_nil ?_
        have e31 : keeps19_J35 a b more_28 = false := by
         unfold keeps19_J35
         try dsimp only
         rewrite [if_neg g27]
         all_goals rfl
        exact cutW_n false e31 (Trans.ren [] (by decide +kernel) (by decide +kernel) rfl ⟨⟨rfl, rfl⟩, ⟨rfl, rfl⟩, ⟨rfl, rfl⟩, ⟨rfl, rfl⟩, ⟨rfl, rfl⟩, trivial⟩ trivial (by decide))
      ·rintro turns_35 (hJ25 : keeps19_J35 a b more_28 = turns_35)
       show seqK _ _ _ .normal (⟨[(0, I a), (1, I b), (7, B (small19)), (10, I (targetT (row19 a b) 0 1 l_28)), (11, B turns_35)], [], 0, [], 74, 0⟩ : St)
       refine seqK_n ?_
       refine sem_seq ?_
       refine sem_region rfl ?_
       refine step_r rfl rfl trivial ?_
       refine step_r rfl rfl trivial ?_
       refine step_gs rfl (fun h33 => ?_) (fun h33 => ?_)
       ·have g33 : small19 = true := h33
        refine step_g1 rfl h33 ?_
        refine step_r rfl rfl trivial ?_
        refine step_g1 rfl h33 ?_
        refine step_r rfl rfl trivial ?_
        refine step_g1 rfl h33 ?_
        refine step_call rfl rfl rfl rfl (one19_ok turns_35) rfl rfl rfl ?_
        refine step_g1 rfl h33 ?_
        refine step_bin rfl rfl rfl rfl rfl trivial ?_
        refine step_g1 rfl h33 ?_
        refine step_bin rfl rfl rfl rfl rfl trivial ?_
        refine step_pickT rfl h33 rfl rfl ?_
        refine step_r rfl rfl trivial ?_
        refine step_gs rfl (fun h37 => ?_) (fun h37 => ?_)
        ·have g37 : (targetT (row19 a b) 0 1 l_28 : Int) = (IntKind.i64.wrap (1 + (one19 turns_35))) := beq_t h37
         refine step_g1 rfl h37 ?_
         refine step_r rfl rfl trivial ?_
         refine step_g1 rfl h37 ?_
         refine step_r rfl rfl trivial ?_
         refine step_g1 rfl h37 ?_
         refine step_callJ (Hin := []) (out' := .ref 0 _ _ _) (H' := [(0, .row _ _ _)]) (nx' := 1) [] rfl rfl rfl rfl rfl rfl rfl rfl rfl (by (repeat' apply And.intro) <;> first | trivial | rfl | exact flat_len (fun _ => rfl) _ | exact encI_len _ | exact encB_len _ | exact encY_len _ | exact Nat.le_of_ble_eq_true rfl | assumption) (row19_ok a b) rfl (by decide) rfl rfl ⟨encGThreat_solid, trivial⟩ rfl rfl rfl rfl ?_
         have p40 := row19_len a b
         refine step_g1 rfl h37 ?_
         refine step_n (o := .row _ _ [_, _]) (nx' := 2) rfl rfl rfl (by decide) ?_
         refine step_g1 rfl h37 ?_
         refine step_callJ (Hin := [.row _ _ _, .row _ _ _]) (H' := [(1, .row _ _ _), (0, .row _ _ _)]) (nx' := 2) [0, 1] rfl rfl rfl rfl rfl rfl rfl rfl rfl (by (repeat' apply And.intro) <;> first | trivial | rfl | exact flat_len (s := 3) (enc := encGThreat) (fun _ => rfl) _ | exact flat_len (fun _ => rfl) _ | exact encI_len _ | exact encB_len _ | exact encY_len _ | exact Nat.le_of_ble_eq_true rfl | assumption) (targetT_ok (row19 a b) false 0 2 ([1, 2]) false) rfl (by decide) rfl rfl trivial rfl rfl rfl rfl ?_
         refine step_g1 rfl h37 ?_
         refine step_r rfl rfl trivial ?_
         refine step_g1 rfl h37 ?_
         refine step_r rfl rfl trivial ?_
         refine step_g1 rfl h37 ?_
         refine step_bin rfl rfl rfl rfl rfl trivial ?_
         refine step_g1 rfl h37 ?_
         refine step_r rfl rfl trivial ?_
         refine step_gs rfl (fun h42 => ?_) (fun h42 => ?_)
         ·have g42 : (a : Int) > b := of_decide_eq_true h42
          refine step_g1 rfl h42 ?_
          refine step_r rfl rfl trivial ?_
          refine step_g1 rfl h42 ?_
          refine step_r rfl rfl trivial ?_
          refine step_g1 rfl h42 ?_
          refine step_bin rfl rfl rfl rfl rfl trivial ?_
          refine step_g1 rfl h42 ?_
          refine step_bin rfl rfl rfl rfl rfl (by first | decide | omega | simp_all) ?_
          refine step_g1 rfl h42 ?_
          refine step_bin rfl rfl rfl rfl rfl trivial ?_
          refine step_g1 rfl h37 ?_
          refine step_pickT rfl h42 rfl rfl ?_
          refine step_g1 rfl h37 ?_
          refine step_call rfl rfl rfl rfl (one19_ok (decide ((a : Int) ≥ (IntKind.i64.wrap ((IntKind.i64.wrap (110 * b) : Int).tdiv 100))))) rfl rfl rfl ?_
          refine step_g1 rfl h37 ?_
          refine step_bin rfl rfl rfl rfl rfl trivial ?_
          refine step_g1 rfl h37 ?_
          refine step_bin rfl rfl rfl rfl rfl trivial ?_
          refine step_pickT rfl h37 rfl rfl ?_
          refine step_r rfl rfl trivial ?_
          refine step_nil ?_
          refine seqK_n ?_
          refine sem_ret ?_
          have e45 : keeps19 a b near = ((targetT (row19 a b) 0 2 ([1, 2]) : Int) == (IntKind.i64.wrap (2 - (one19 (decide ((a : Int) ≥ (IntKind.i64.wrap ((IntKind.i64.wrap (110 * b) : Int).tdiv 100)))))))) := by
           unfold keeps19
           try dsimp only
           rewrite [if_neg g4, if_neg g8, if_neg g11, if_neg g14, hJ16]
           try dsimp only
           rewrite [hJ25]
           try dsimp only
           rewrite [if_pos g33, if_pos g37, if_pos g42]
           all_goals rfl
          rw [e45]
          exact answersR rfl ⟨trivial, trivial⟩ (rfl) rfl
         ·have g42 : ¬ ((a : Int) > b) := of_decide_eq_false h42
          refine step_g0 rfl h42 rfl ?_
          refine step_g0 rfl h42 rfl ?_
          refine step_g0 rfl h42 rfl ?_
          refine step_g0 rfl h42 rfl ?_
          refine step_g0 rfl h42 rfl ?_
          refine step_g1 rfl h37 ?_
          refine step_pickF rfl h42 rfl rfl ?_
          refine step_g1 rfl h37 ?_
          refine step_call rfl rfl rfl rfl (one19_ok false) rfl rfl rfl ?_
          refine step_g1 rfl h37 ?_
          refine step_bin rfl rfl rfl rfl rfl trivial ?_
          refine step_g1 rfl h37 ?_
          refine step_bin rfl rfl rfl rfl rfl trivial ?_
          refine step_pickT rfl h37 rfl rfl ?_
          refine step_r rfl rfl trivial ?_
          refine step_nil ?_
          refine seqK_n ?_
          refine sem_ret ?_
          have e47 : keeps19 a b near = ((targetT (row19 a b) 0 2 ([1, 2]) : Int) == (IntKind.i64.wrap (2 - (one19 false)))) := by
           unfold keeps19
           try dsimp only
           rewrite [if_neg g4, if_neg g8, if_neg g11, if_neg g14, hJ16]
           try dsimp only
           rewrite [hJ25]
           try dsimp only
           rewrite [if_pos g33, if_pos g37, if_neg g42]
           all_goals rfl
          rw [e47]
          exact answersR rfl ⟨trivial, trivial⟩ (rfl) rfl
        ·have g37 : ¬ ((targetT (row19 a b) 0 1 l_28 : Int) = (IntKind.i64.wrap (1 + (one19 turns_35)))) := beq_f h37
         refine step_g0 rfl h37 rfl ?_
         refine step_g0 rfl h37 rfl ?_
         refine step_g0 rfl h37 rfl ?_
         refine step_g0 rfl h37 rfl ?_
         refine step_g0 rfl h37 rfl ?_
         refine step_g0 rfl h37 rfl ?_
         refine step_g0 rfl h37 rfl ?_
         refine step_g0 rfl h37 rfl ?_
         refine step_g0 rfl h37 rfl ?_
         refine step_gf rfl rfl ?_
         refine step_gf rfl rfl ?_
         refine step_gf rfl rfl ?_
         refine step_gf rfl rfl ?_
         refine step_gf rfl rfl ?_
         refine step_g0 rfl h37 rfl ?_
         refine step_g0 rfl h37 rfl ?_
         refine step_g0 rfl h37 rfl ?_
         refine step_g0 rfl h37 rfl ?_
         refine step_pickF rfl h37 rfl rfl ?_
         refine step_r rfl rfl trivial ?_
         refine step_nil ?_
         refine seqK_n ?_
         refine sem_ret ?_
         have e48 : keeps19 a b near = false := by
          unfold keeps19
          try dsimp only
          rewrite [if_neg g4, if_neg g8, if_neg g11, if_neg g14, hJ16]
          try dsimp only
          rewrite [hJ25]
          try dsimp only
          rewrite [if_pos g33, if_neg g37]
          all_goals rfl
         rw [e48]
         exact answersR rfl ⟨trivial, trivial⟩ (rfl) rfl
       ·have g33 : ¬ (small19 = true) := boo_f h33
        refine step_g0 rfl h33 rfl ?_
        refine step_g0 rfl h33 rfl ?_
        refine step_g0 rfl h33 rfl ?_
        refine step_g0 rfl h33 rfl ?_
        refine step_g0 rfl h33 rfl ?_
        refine step_pickF rfl h33 rfl rfl ?_
        refine step_r rfl rfl trivial ?_
        refine step_gf rfl rfl ?_
        refine step_gf rfl rfl ?_
        refine step_gf rfl rfl ?_
        refine step_gf rfl rfl ?_
        refine step_gf rfl rfl ?_
        refine step_gf rfl rfl ?_
        refine step_gf rfl rfl ?_
        refine step_gf rfl rfl ?_
        refine step_gf rfl rfl ?_
        refine step_gf rfl rfl ?_
        refine step_gf rfl rfl ?_
        refine step_gf rfl rfl ?_
        refine step_gf rfl rfl ?_
        refine step_gf rfl rfl ?_
        refine step_gf rfl rfl ?_
        refine step_gf rfl rfl ?_
        refine step_gf rfl rfl ?_
        refine step_gf rfl rfl ?_
        refine step_r rfl rfl trivial ?_
        refine step_r rfl rfl trivial ?_
        refine step_nil ?_
        refine seqK_n ?_
        refine sem_ret ?_
        have e49 : keeps19 a b near = false := by
         unfold keeps19
         try dsimp only
         rewrite [if_neg g4, if_neg g8, if_neg g11, if_neg g14, hJ16]
         try dsimp only
         rewrite [hJ25]
         try dsimp only
         rewrite [if_neg g33]
         all_goals rfl
        rw [e49]
        exact answersR rfl ⟨trivial, trivial⟩ (rfl) rfl

def turns19_J80 (l : List GThreat) (unit : Int) (much : Int) (now : Int) : Bool :=
  if ((addT l unit much).1) = ((addTR l unit much).1) then (if ((addT l unit much).2 : Int) = ((addTR l unit much).2) then (if ((tauntT l unit now much).1) = ((tauntTR l unit now much).1) then (if ((tauntT l unit now much).2 : Int) = ((tauntTR l unit now much).2) then (if ((dropT l unit).1) = ((dropTR l unit).1) then (if ((dropT l unit).2) = ((dropTR l unit).2) then (decide ((fadeT l much) = (fadeTR l much))) else false) else false) else false) else false) else false) else false
def turns19_L0 : Nat → Nat → (List GThreat) → Unit
  | 0, k0, p0 => ()
  | n_ + 1, k0, p0 => turns19_L0 n_ (k0 + 1) (p0.set k0 { (p0.getD k0 default) with Unit := (-7) })
def turns19_L1 : Nat → Nat → (List GThreat) → Unit
  | 0, k1, x1' => ()
  | n_ + 1, k1, x1' => turns19_L1 n_ (k1 + 1) (x1'.set k1 { ((x1').getD k1 default) with Unit := (-7) })
def turns19 (l : List GThreat) (unit : Int) (much : Int) (now : Int) : Bool :=
  if (l.length : Int) > 60 then (small19) else (let same_80 := turns19_J80 l unit much now; if small19 = true then (if same_80 = true then (if (rightT l) = (rightTR l) then (if (muchT l unit : Int) = (muchTR l unit) then (decide (l = l)) else false) else false) else false) else false)
theorem turns19_ok (l : List GThreat) (l_f : Bool) (unit : Int) (much : Int) (now : Int) : Ok Try.prog 6 [.pv (.slc l.length l_f (l.flatMap encGThreat)), I unit, I much, I now] [] (B (turns19 l unit much now)) [] [] := by
 refine Ok.len fun hlen => ?_
 have hl_l : l.length ≤ maxLen := hlen _ (by simp [lensL, lens, lensP])
 unfold maxLen at hl_l
 refine ok_of_sem Try.func6 rfl ?_
 show Walks Try.prog _ _ ⟨[(0, .pv (.slc l.length l_f (l.flatMap encGThreat))), (1, I unit), (2, I much), (3, I now)], [], 0, [], 160, 0⟩
 refine sem_seq ?_
 refine sem_region rfl ?_
 refine step_r rfl rfl trivial ?_
 refine step_nil ?_
 refine seqK_n ?_
 refine sem_seq ?_
 refine sem_region rfl ?_
 refine step_call rfl rfl rfl rfl (small19_ok ) rfl rfl rfl ?_
 refine step_r rfl rfl trivial ?_
 refine step_nil ?_
 refine seqK_n ?_
 refine sem_seq ?_
 refine sem_seq ?_
 refine sem_region rfl ?_
 refine step_r rfl rfl trivial ?_
 refine step_r rfl rfl trivial ?_
 refine step_bin rfl rfl rfl rfl rfl trivial ?_
 refine step_nil ?_
 refine seqK_n ?_
 refine sem_cond rfl (fun h2 => ?_) (fun h2 => ?_)
 ·have g2 : (l.length : Int) > 60 := of_decide_eq_true h2
  refine sem_seq ?_
  refine sem_region rfl ?_
  refine step_r rfl rfl trivial ?_
  refine step_r rfl rfl trivial ?_
  refine step_nil ?_
  refine seqK_n ?_
  refine sem_ret ?_
  refine seqK_r ?_
  have e3 : turns19 l unit much now = (small19) := by
   unfold turns19
   try dsimp only
   rewrite [if_pos g2]
   all_goals rfl
  rw [e3]
  exact answersR rfl ⟨trivial, trivial⟩ (rfl) rfl
 ·have g2 : ¬ ((l.length : Int) > 60) := of_decide_eq_false h2
  refine sem_skip ?_
  refine seqK_n ?_
  refine sem_seq ?_
  refine sem_region rfl ?_
  refine step_r rfl rfl ⟨by decide, rfl⟩ ?_
  refine step_r rfl rfl trivial ?_
  refine step_appendN (m := l.length) (new := l.flatMap encGThreat) (cs' := l.flatMap encGThreat) (n' := l.length) rfl rfl (rfl) rfl rfl rfl rfl rfl rfl (flat_len (s := 3) (enc := encGThreat) (fun _ => rfl) l) (by first | decide | (unfold maxGrow; omega) | (unfold maxGrow; simp; omega) | (unfold maxGrow; simp only [List.length_append, List.length_take, List.length_drop, List.length_cons, List.length_nil, IntKind.wrap_i64] at *; omega)) rfl rfl rfl rfl ?_
  refine step_r rfl rfl trivial ?_
  refine step_nil ?_
  refine seqK_n ?_
  refine sem_seq ?_
  refine sem_region rfl ?_
  refine step_r rfl rfl trivial ?_
  refine step_r rfl rfl trivial ?_
  refine step_r rfl rfl trivial ?_
  refine step_callJ (Hin := [.row _ _ _]) (out' := .tup [.ref 1 _ _ _, _]) (H' := [(1, .row _ _ _), (0, .row _ _ _)]) (nx' := 2) [0] rfl rfl rfl rfl rfl rfl rfl rfl rfl (by (repeat' apply And.intro) <;> first | trivial | rfl | exact flat_len (s := 3) (enc := encGThreat) (fun _ => rfl) _ | exact flat_len (fun _ => rfl) _ | exact encI_len _ | exact encB_len _ | exact encY_len _ | exact Nat.le_of_ble_eq_true rfl | assumption) (addT_ok l false unit much (by first | omega | (simp; omega))) rfl (by decide) rfl rfl ⟨encGThreat_solid, trivial⟩ rfl rfl rfl rfl ?_
  have p6 := addT_len l unit much
  refine step_r rfl rfl trivial ?_
  refine step_r rfl rfl trivial ?_
  refine step_r rfl rfl trivial ?_
  refine step_r rfl rfl trivial ?_
  refine step_r rfl rfl trivial ?_
  refine step_nil ?_
  refine seqK_n ?_
  refine sem_seq ?_
  refine sem_region rfl ?_
  refine step_r rfl rfl trivial ?_
  refine step_r rfl rfl trivial ?_
  refine step_r rfl rfl trivial ?_
  refine step_callJ (Hin := []) (out' := .tup [.ref 2 _ _ _, _]) (H' := [(2, .row _ _ _), (1, .row _ _ _), (0, .row _ _ _)]) (nx' := 3) [] rfl rfl rfl rfl rfl rfl rfl rfl rfl (by (repeat' apply And.intro) <;> first | trivial | rfl | exact flat_len (fun _ => rfl) _ | exact encI_len _ | exact encB_len _ | exact encY_len _ | exact Nat.le_of_ble_eq_true rfl | assumption) (addTR_ok l false unit much (by first | omega | (simp; omega))) rfl (by decide) rfl rfl ⟨encGThreat_solid, trivial⟩ rfl rfl rfl rfl ?_
  have p8 := addTR_len l unit much
  refine step_r rfl rfl trivial ?_
  refine step_r rfl rfl trivial ?_
  refine step_r rfl rfl trivial ?_
  refine step_r rfl rfl trivial ?_
  refine step_r rfl rfl trivial ?_
  refine step_nil ?_
  refine seqK_n ?_
  refine sem_seq ?_
  refine sem_region rfl ?_
  refine step_r rfl rfl trivial ?_
  refine step_r rfl rfl trivial ?_
  refine step_r rfl rfl trivial ?_
  refine step_r rfl rfl trivial ?_
  refine step_callJ (Hin := [.row _ _ _]) (out' := .tup [.ref 3 _ _ _, _]) (H' := [(3, .row _ _ _), (2, .row _ _ _), (1, .row _ _ _), (0, .row _ _ _)]) (nx' := 4) [0] rfl rfl rfl rfl rfl rfl rfl rfl rfl (by (repeat' apply And.intro) <;> first | trivial | rfl | exact flat_len (s := 3) (enc := encGThreat) (fun _ => rfl) _ | exact flat_len (fun _ => rfl) _ | exact encI_len _ | exact encB_len _ | exact encY_len _ | exact Nat.le_of_ble_eq_true rfl | assumption) (tauntT_ok l false unit now much (by first | omega | (simp; omega))) rfl (by decide) rfl rfl ⟨encGThreat_solid, trivial⟩ rfl rfl rfl rfl ?_
  have p11 := tauntT_len l unit now much
  refine step_r rfl rfl trivial ?_
  refine step_r rfl rfl trivial ?_
  refine step_r rfl rfl trivial ?_
  refine step_r rfl rfl trivial ?_
  refine step_r rfl rfl trivial ?_
  refine step_nil ?_
  refine seqK_n ?_
  refine sem_seq ?_
  refine sem_region rfl ?_
  refine step_r rfl rfl trivial ?_
  refine step_r rfl rfl trivial ?_
  refine step_r rfl rfl trivial ?_
  refine step_r rfl rfl trivial ?_
  refine step_callJ (Hin := []) (out' := .tup [.ref 4 _ _ _, _]) (H' := [(4, .row _ _ _), (3, .row _ _ _), (2, .row _ _ _), (1, .row _ _ _), (0, .row _ _ _)]) (nx' := 5) [] rfl rfl rfl rfl rfl rfl rfl rfl rfl (by (repeat' apply And.intro) <;> first | trivial | rfl | exact flat_len (fun _ => rfl) _ | exact encI_len _ | exact encB_len _ | exact encY_len _ | exact Nat.le_of_ble_eq_true rfl | assumption) (tauntTR_ok l false unit now much (by first | omega | (simp; omega))) rfl (by decide) rfl rfl ⟨encGThreat_solid, trivial⟩ rfl rfl rfl rfl ?_
  refine step_r rfl rfl trivial ?_
  refine step_r rfl rfl trivial ?_
  refine step_r rfl rfl trivial ?_
  refine step_r rfl rfl trivial ?_
  refine step_r rfl rfl trivial ?_
  refine step_nil ?_
  refine seqK_n ?_
  refine sem_seq ?_
  refine sem_region rfl ?_
  refine step_r rfl rfl trivial ?_
  refine step_r rfl rfl trivial ?_
  refine step_callJ (Hin := [.row _ _ _]) (out' := .tup [.ref 5 _ _ _, _]) (H' := [(5, .row _ _ _), (4, .row _ _ _), (3, .row _ _ _), (2, .row _ _ _), (1, .row _ _ _), (0, .row _ _ _)]) (nx' := 6) [0] rfl rfl rfl rfl rfl rfl rfl rfl rfl (by (repeat' apply And.intro) <;> first | trivial | rfl | exact flat_len (s := 3) (enc := encGThreat) (fun _ => rfl) _ | exact flat_len (fun _ => rfl) _ | exact encI_len _ | exact encB_len _ | exact encY_len _ | exact Nat.le_of_ble_eq_true rfl | assumption) (dropT_ok l false unit (by first | omega | (simp; omega))) rfl (by decide) rfl rfl ⟨encGThreat_solid, trivial⟩ rfl rfl rfl rfl ?_
  have p14 := dropT_len l unit (by first | omega | (simp; omega))
  refine step_r rfl rfl trivial ?_
  refine step_r rfl rfl trivial ?_
  refine step_r rfl rfl trivial ?_
  refine step_r rfl rfl trivial ?_
  refine step_r rfl rfl trivial ?_
  refine step_nil ?_
  refine seqK_n ?_
  refine sem_seq ?_
  refine sem_region rfl ?_
  refine step_r rfl rfl trivial ?_
  refine step_r rfl rfl trivial ?_
  refine step_callJ (Hin := []) (out' := .tup [.ref 6 _ _ _, _]) (H' := [(6, .row _ _ _), (5, .row _ _ _), (4, .row _ _ _), (3, .row _ _ _), (2, .row _ _ _), (1, .row _ _ _), (0, .row _ _ _)]) (nx' := 7) [] rfl rfl rfl rfl rfl rfl rfl rfl rfl (by (repeat' apply And.intro) <;> first | trivial | rfl | exact flat_len (fun _ => rfl) _ | exact encI_len _ | exact encB_len _ | exact encY_len _ | exact Nat.le_of_ble_eq_true rfl | assumption) (dropTR_ok l false unit (by first | omega | (simp; omega))) rfl (by decide) rfl rfl ⟨encGThreat_solid, trivial⟩ rfl rfl rfl rfl ?_
  refine step_r rfl rfl trivial ?_
  refine step_r rfl rfl trivial ?_
  refine step_r rfl rfl trivial ?_
  refine step_r rfl rfl trivial ?_
  refine step_r rfl rfl trivial ?_
  refine step_nil ?_
  refine seqK_n ?_
  refine sem_seq ?_
  refine sem_region rfl ?_
  refine step_r rfl rfl trivial ?_
  refine step_r rfl rfl trivial ?_
  refine step_callJ (Hin := [.row _ _ _]) (out' := .ref 7 _ _ _) (H' := [(7, .row _ _ _), (6, .row _ _ _), (5, .row _ _ _), (4, .row _ _ _), (3, .row _ _ _), (2, .row _ _ _), (1, .row _ _ _), (0, .row _ _ _)]) (nx' := 8) [0] rfl rfl rfl rfl rfl rfl rfl rfl rfl (by (repeat' apply And.intro) <;> first | trivial | rfl | exact flat_len (s := 3) (enc := encGThreat) (fun _ => rfl) _ | exact flat_len (fun _ => rfl) _ | exact encI_len _ | exact encB_len _ | exact encY_len _ | exact Nat.le_of_ble_eq_true rfl | assumption) (fadeT_ok l false much (by first | omega | (simp; omega))) rfl (by decide) rfl rfl ⟨encGThreat_solid, trivial⟩ rfl rfl rfl rfl ?_
  have p17 := fadeT_len l much
  refine step_r rfl rfl trivial ?_
  refine step_nil ?_
  refine seqK_n ?_
  refine sem_seq ?_
  refine sem_cutW (fun same_80 : Bool => (⟨[(0, .pv (.slc l.length l_f (l.flatMap encGThreat))), (1, I unit), (9, B (small19)), (10, .ref 0 3 0 l.length), (19, .ref 1 3 0 (dropT l unit).1.length), (23, .ref 2 3 0 (fadeT l much).length), (24, B same_80)], [(0, .row 40 3 (l.flatMap encGThreat)), (1, .row 40 3 ((dropT l unit).1.flatMap encGThreat)), (2, .row 40 3 ((fadeT l much).flatMap encGThreat))], 3, [], 160, 0⟩ : St)) (fun w_ => turns19_J80 l unit much now = w_) ?_ ?_
  ·refine sem_region rfl ?_
   refine step_r rfl rfl trivial ?_
   refine step_r rfl rfl trivial ?_
   refine step_callJ (Hin := [.row _ _ _, .row _ _ _]) (H' := [(7, .row _ _ _), (6, .row _ _ _), (5, .row _ _ _), (4, .row _ _ _), (3, .row _ _ _), (2, .row _ _ _), (1, .row _ _ _), (0, .row _ _ _)]) (nx' := 8) [1, 2] rfl rfl rfl rfl rfl rfl rfl rfl rfl (by (repeat' apply And.intro) <;> first | trivial | rfl | exact flat_len (s := 3) (enc := encGThreat) (fun _ => rfl) _ | exact flat_len (fun _ => rfl) _ | exact encI_len _ | exact encB_len _ | exact encY_len _ | exact Nat.le_of_ble_eq_true rfl | assumption) (sameT ((addT l unit much).1) false ((addTR l unit much).1) false) rfl (by decide) rfl rfl trivial rfl rfl rfl rfl ?_
   refine step_r rfl rfl trivial ?_
   refine step_gs rfl (fun h20 => ?_) (fun h20 => ?_)
   ·have g20 : ((addT l unit much).1) = ((addTR l unit much).1) := of_decide_eq_true h20
    refine step_g1 rfl h20 ?_
    refine step_r rfl rfl trivial ?_
    refine step_g1 rfl h20 ?_
    refine step_r rfl rfl trivial ?_
    refine step_g1 rfl h20 ?_
    refine step_bin rfl rfl rfl rfl rfl trivial ?_
    refine step_pickT rfl h20 rfl rfl ?_
    refine step_r rfl rfl trivial ?_
    refine step_gs rfl (fun h22 => ?_) (fun h22 => ?_)
    ·have g22 : ((addT l unit much).2 : Int) = ((addTR l unit much).2) := beq_t h22
     refine step_g1 rfl h22 ?_
     refine step_r rfl rfl trivial ?_
     refine step_g1 rfl h22 ?_
     refine step_r rfl rfl trivial ?_
     refine step_g1 rfl h22 ?_
     refine step_callJ (Hin := [.row _ _ _, .row _ _ _]) (H' := [(7, .row _ _ _), (6, .row _ _ _), (5, .row _ _ _), (4, .row _ _ _), (3, .row _ _ _), (2, .row _ _ _), (1, .row _ _ _), (0, .row _ _ _)]) (nx' := 8) [3, 4] rfl rfl rfl rfl rfl rfl rfl rfl rfl (by (repeat' apply And.intro) <;> first | trivial | rfl | exact flat_len (s := 3) (enc := encGThreat) (fun _ => rfl) _ | exact flat_len (fun _ => rfl) _ | exact encI_len _ | exact encB_len _ | exact encY_len _ | exact Nat.le_of_ble_eq_true rfl | assumption) (sameT ((tauntT l unit now much).1) false ((tauntTR l unit now much).1) false) rfl (by decide) rfl rfl trivial rfl rfl rfl rfl ?_
     refine step_pickT rfl h22 rfl rfl ?_
     refine step_r rfl rfl trivial ?_
     refine step_gs rfl (fun h24 => ?_) (fun h24 => ?_)
     ·have g24 : ((tauntT l unit now much).1) = ((tauntTR l unit now much).1) := of_decide_eq_true h24
      refine step_g1 rfl h24 ?_
      refine step_r rfl rfl trivial ?_
      refine step_g1 rfl h24 ?_
      refine step_r rfl rfl trivial ?_
      refine step_g1 rfl h24 ?_
      refine step_bin rfl rfl rfl rfl rfl trivial ?_
      refine step_pickT rfl h24 rfl rfl ?_
      refine step_r rfl rfl trivial ?_
      refine step_gs rfl (fun h26 => ?_) (fun h26 => ?_)
      ·have g26 : ((tauntT l unit now much).2 : Int) = ((tauntTR l unit now much).2) := beq_t h26
       refine step_g1 rfl h26 ?_
       refine step_r rfl rfl trivial ?_
       refine step_g1 rfl h26 ?_
       refine step_r rfl rfl trivial ?_
       refine step_g1 rfl h26 ?_
       refine step_callJ (Hin := [.row _ _ _, .row _ _ _]) (H' := [(7, .row _ _ _), (6, .row _ _ _), (5, .row _ _ _), (4, .row _ _ _), (3, .row _ _ _), (2, .row _ _ _), (1, .row _ _ _), (0, .row _ _ _)]) (nx' := 8) [5, 6] rfl rfl rfl rfl rfl rfl rfl rfl rfl (by (repeat' apply And.intro) <;> first | trivial | rfl | exact flat_len (s := 3) (enc := encGThreat) (fun _ => rfl) _ | exact flat_len (fun _ => rfl) _ | exact encI_len _ | exact encB_len _ | exact encY_len _ | exact Nat.le_of_ble_eq_true rfl | assumption) (sameT ((dropT l unit).1) false ((dropTR l unit).1) false) rfl (by decide) rfl rfl trivial rfl rfl rfl rfl ?_
       refine step_pickT rfl h26 rfl rfl ?_
       refine step_r rfl rfl trivial ?_
       refine step_gs rfl (fun h28 => ?_) (fun h28 => ?_)
       ·have g28 : ((dropT l unit).1) = ((dropTR l unit).1) := of_decide_eq_true h28
        refine step_g1 rfl h28 ?_
        refine step_r rfl rfl trivial ?_
        refine step_g1 rfl h28 ?_
        refine step_r rfl rfl trivial ?_
        refine step_g1 rfl h28 ?_
        refine step_bin rfl rfl rfl rfl rfl trivial ?_
        refine step_pickT rfl h28 rfl rfl ?_
        refine step_r rfl rfl trivial ?_
        refine step_gs rfl (fun h30 => ?_) (fun h30 => ?_)
        ·have g30 : ((dropT l unit).2) = ((dropTR l unit).2) := beq_t h30
         refine step_g1 rfl h30 ?_
         refine step_r rfl rfl trivial ?_
         refine step_g1 rfl h30 ?_
         refine step_r rfl rfl trivial ?_
         refine step_g1 rfl h30 ?_
         refine step_r rfl rfl trivial ?_
         refine step_g1 rfl h30 ?_
         refine step_callJ (Hin := []) (out' := .ref 8 _ _ _) (H' := [(8, .row _ _ _), (7, .row _ _ _), (6, .row _ _ _), (5, .row _ _ _), (4, .row _ _ _), (3, .row _ _ _), (2, .row _ _ _), (1, .row _ _ _), (0, .row _ _ _)]) (nx' := 9) [] rfl rfl rfl rfl rfl rfl rfl rfl rfl (by (repeat' apply And.intro) <;> first | trivial | rfl | exact flat_len (fun _ => rfl) _ | exact encI_len _ | exact encB_len _ | exact encY_len _ | exact Nat.le_of_ble_eq_true rfl | assumption) (fadeTR_ok l false much (by first | omega | (simp; omega))) rfl (by decide) rfl rfl ⟨encGThreat_solid, trivial⟩ rfl rfl rfl rfl ?_
         refine step_g1 rfl h30 ?_
         refine step_callJ (Hin := [.row _ _ _, .row _ _ _]) (H' := [(8, .row _ _ _), (7, .row _ _ _), (6, .row _ _ _), (5, .row _ _ _), (4, .row _ _ _), (3, .row _ _ _), (2, .row _ _ _), (1, .row _ _ _), (0, .row _ _ _)]) (nx' := 9) [7, 8] rfl rfl rfl rfl rfl rfl rfl rfl rfl (by (repeat' apply And.intro) <;> first | trivial | rfl | exact flat_len (s := 3) (enc := encGThreat) (fun _ => rfl) _ | exact flat_len (fun _ => rfl) _ | exact encI_len _ | exact encB_len _ | exact encY_len _ | exact Nat.le_of_ble_eq_true rfl | assumption) (sameT (fadeT l much) false (fadeTR l much) false) rfl (by decide) rfl rfl trivial rfl rfl rfl rfl ?_
         refine step_pickT rfl h30 rfl rfl ?_
         refine step_r rfl rfl trivial ?_
         refine step_nil ?_
         have e32 : turns19_J80 l unit much now = (decide ((fadeT l much) = (fadeTR l much))) := by
          unfold turns19_J80
          try dsimp only
          rewrite [if_pos g20, if_pos g22, if_pos g24, if_pos g26, if_pos g28, if_pos g30]
          all_goals rfl
         exact cutW_n (decide ((fadeT l much) = (fadeTR l much))) e32 (Trans.ren [(1, 5), (2, 7), (5, 1), (7, 2)] (by decide +kernel) (by decide +kernel) rfl ⟨⟨rfl, rfl⟩, ⟨rfl, rfl⟩, ⟨rfl, rfl⟩, ⟨rfl, rfl⟩, ⟨rfl, rfl⟩, ⟨rfl, rfl⟩, ⟨rfl, rfl⟩, trivial⟩ ⟨⟨rfl, rfl, rfl⟩, ⟨rfl, rfl, rfl⟩, ⟨rfl, rfl, rfl⟩, trivial⟩ (by decide))
        ·have g30 : ¬ (((dropT l unit).2) = ((dropTR l unit).2)) := beq_f h30
         refine step_g0 rfl h30 rfl ?_
         refine step_g0 rfl h30 rfl ?_
         refine step_g0 rfl h30 rfl ?_
         refine step_g0 rfl h30 rfl ?_
         refine step_g0 rfl h30 rfl ?_
         refine step_pickF rfl h30 rfl rfl ?_
         refine step_r rfl rfl trivial ?_
         refine step_nil ?_
         have e33 : turns19_J80 l unit much now = false := by
          unfold turns19_J80
          try dsimp only
          rewrite [if_pos g20, if_pos g22, if_pos g24, if_pos g26, if_pos g28, if_neg g30]
          all_goals rfl
         exact cutW_n false e33 (Trans.ren [(1, 5), (2, 7), (5, 1), (7, 2)] (by decide +kernel) (by decide +kernel) rfl ⟨⟨rfl, rfl⟩, ⟨rfl, rfl⟩, ⟨rfl, rfl⟩, ⟨rfl, rfl⟩, ⟨rfl, rfl⟩, ⟨rfl, rfl⟩, ⟨rfl, rfl⟩, trivial⟩ ⟨⟨rfl, rfl, rfl⟩, ⟨rfl, rfl, rfl⟩, ⟨rfl, rfl, rfl⟩, trivial⟩ (by decide))
       ·have g28 : ¬ (((dropT l unit).1) = ((dropTR l unit).1)) := of_decide_eq_false h28
        refine step_g0 rfl h28 rfl ?_
        refine step_g0 rfl h28 rfl ?_
        refine step_g0 rfl h28 rfl ?_
        refine step_pickF rfl h28 rfl rfl ?_
        refine step_r rfl rfl trivial ?_
        refine step_gf rfl rfl ?_
        refine step_gf rfl rfl ?_
        refine step_gf rfl rfl ?_
        refine step_gf rfl rfl ?_
        refine step_gf rfl rfl ?_
        refine step_r rfl rfl trivial ?_
        refine step_r rfl rfl trivial ?_
        refine step_nil ?_
        have e34 : turns19_J80 l unit much now = false := by
         unfold turns19_J80
         try dsimp only
         rewrite [if_pos g20, if_pos g22, if_pos g24, if_pos g26, if_neg g28]
         all_goals rfl
        exact cutW_n false e34 (Trans.ren [(1, 5), (2, 7), (5, 1), (7, 2)] (by decide +kernel) (by decide +kernel) rfl ⟨⟨rfl, rfl⟩, ⟨rfl, rfl⟩, ⟨rfl, rfl⟩, ⟨rfl, rfl⟩, ⟨rfl, rfl⟩, ⟨rfl, rfl⟩, ⟨rfl, rfl⟩, trivial⟩ ⟨⟨rfl, rfl, rfl⟩, ⟨rfl, rfl, rfl⟩, ⟨rfl, rfl, rfl⟩, trivial⟩ (by decide))
      ·have g26 : ¬ (((tauntT l unit now much).2 : Int) = ((tauntTR l unit now much).2)) := beq_f h26
       refine step_g0 rfl h26 rfl ?_
       refine step_g0 rfl h26 rfl ?_
       refine step_g0 rfl h26 rfl ?_
       refine step_pickF rfl h26 rfl rfl ?_
       refine step_r rfl rfl trivial ?_
       refine step_gf rfl rfl ?_
       refine step_gf rfl rfl ?_
       refine step_gf rfl rfl ?_
       refine step_r rfl rfl trivial ?_
       refine step_r rfl rfl trivial ?_
       refine step_gf rfl rfl ?_
       refine step_gf rfl rfl ?_
       refine step_gf rfl rfl ?_
       refine step_gf rfl rfl ?_
       refine step_gf rfl rfl ?_
       refine step_r rfl rfl trivial ?_
       refine step_r rfl rfl trivial ?_
       refine step_nil ?_
       have e35 : turns19_J80 l unit much now = false := by
        unfold turns19_J80
        try dsimp only
        rewrite [if_pos g20, if_pos g22, if_pos g24, if_neg g26]
        all_goals rfl
       exact cutW_n false e35 (Trans.ren [(1, 5), (2, 7), (5, 1), (7, 2)] (by decide +kernel) (by decide +kernel) rfl ⟨⟨rfl, rfl⟩, ⟨rfl, rfl⟩, ⟨rfl, rfl⟩, ⟨rfl, rfl⟩, ⟨rfl, rfl⟩, ⟨rfl, rfl⟩, ⟨rfl, rfl⟩, trivial⟩ ⟨⟨rfl, rfl, rfl⟩, ⟨rfl, rfl, rfl⟩, ⟨rfl, rfl, rfl⟩, trivial⟩ (by decide))
     ·have g24 : ¬ (((tauntT l unit now much).1) = ((tauntTR l unit now much).1)) := of_decide_eq_false h24
      refine step_g0 rfl h24 rfl ?_
      refine step_g0 rfl h24 rfl ?_
      refine step_g0 rfl h24 rfl ?_
      refine step_pickF rfl h24 rfl rfl ?_
      refine step_r rfl rfl trivial ?_
      refine step_gf rfl rfl ?_
      refine step_gf rfl rfl ?_
      refine step_gf rfl rfl ?_
      refine step_r rfl rfl trivial ?_
      refine step_r rfl rfl trivial ?_
      refine step_gf rfl rfl ?_
      refine step_gf rfl rfl ?_
      refine step_gf rfl rfl ?_
      refine step_r rfl rfl trivial ?_
      refine step_r rfl rfl trivial ?_
      refine step_gf rfl rfl ?_
      refine step_gf rfl rfl ?_
      refine step_gf rfl rfl ?_
      refine step_gf rfl rfl ?_
      refine step_gf rfl rfl ?_
      refine step_r rfl rfl trivial ?_
      refine step_r rfl rfl trivial ?_
      refine step_nil ?_
      have e36 : turns19_J80 l unit much now = false := by
       unfold turns19_J80
       try dsimp only
       rewrite [if_pos g20, if_pos g22, if_neg g24]
       all_goals rfl
      exact cutW_n false e36 (Trans.ren [(1, 5), (2, 7), (5, 1), (7, 2)] (by decide +kernel) (by decide +kernel) rfl ⟨⟨rfl, rfl⟩, ⟨rfl, rfl⟩, ⟨rfl, rfl⟩, ⟨rfl, rfl⟩, ⟨rfl, rfl⟩, ⟨rfl, rfl⟩, ⟨rfl, rfl⟩, trivial⟩ ⟨⟨rfl, rfl, rfl⟩, ⟨rfl, rfl, rfl⟩, ⟨rfl, rfl, rfl⟩, trivial⟩ (by decide))
    ·have g22 : ¬ (((addT l unit much).2 : Int) = ((addTR l unit much).2)) := beq_f h22
     refine step_g0 rfl h22 rfl ?_
     refine step_g0 rfl h22 rfl ?_
     refine step_g0 rfl h22 rfl ?_
     refine step_pickF rfl h22 rfl rfl ?_
     refine step_r rfl rfl trivial ?_
     refine step_gf rfl rfl ?_
     refine step_gf rfl rfl ?_
     refine step_gf rfl rfl ?_
     refine step_r rfl rfl trivial ?_
     refine step_r rfl rfl trivial ?_
     refine step_gf rfl rfl ?_
     refine step_gf rfl rfl ?_
     refine step_gf rfl rfl ?_
     refine step_r rfl rfl trivial ?_
     refine step_r rfl rfl trivial ?_
     refine step_gf rfl rfl ?_
     refine step_gf rfl rfl ?_
     refine step_gf rfl rfl ?_
     refine step_r rfl rfl trivial ?_
     refine step_r rfl rfl trivial ?_
     refine step_gf rfl rfl ?_
     refine step_gf rfl rfl ?_
     refine step_gf rfl rfl ?_
     refine step_gf rfl rfl ?_
     refine step_gf rfl rfl ?_
     refine step_r rfl rfl trivial ?_
     refine step_r rfl rfl trivial ?_
     refine step_nil ?_
     have e37 : turns19_J80 l unit much now = false := by
      unfold turns19_J80
      try dsimp only
      rewrite [if_pos g20, if_neg g22]
      all_goals rfl
     exact cutW_n false e37 (Trans.ren [(1, 5), (2, 7), (5, 1), (7, 2)] (by decide +kernel) (by decide +kernel) rfl ⟨⟨rfl, rfl⟩, ⟨rfl, rfl⟩, ⟨rfl, rfl⟩, ⟨rfl, rfl⟩, ⟨rfl, rfl⟩, ⟨rfl, rfl⟩, ⟨rfl, rfl⟩, trivial⟩ ⟨⟨rfl, rfl, rfl⟩, ⟨rfl, rfl, rfl⟩, ⟨rfl, rfl, rfl⟩, trivial⟩ (by decide))
   ·have g20 : ¬ (((addT l unit much).1) = ((addTR l unit much).1)) := of_decide_eq_false h20
    refine step_g0 rfl h20 rfl ?_
    refine step_g0 rfl h20 rfl ?_
    refine step_g0 rfl h20 rfl ?_
    refine step_pickF rfl h20 rfl rfl ?_
    refine step_r rfl rfl trivial ?_
    refine step_gf rfl rfl ?_
    refine step_gf rfl rfl ?_
    refine step_gf rfl rfl ?_
    refine step_r rfl rfl trivial ?_
    refine step_r rfl rfl trivial ?_
    refine step_gf rfl rfl ?_
    refine step_gf rfl rfl ?_
    refine step_gf rfl rfl ?_
    refine step_r rfl rfl trivial ?_
    refine step_r rfl rfl trivial ?_
    refine step_gf rfl rfl ?_
    refine step_gf rfl rfl ?_
    refine step_gf rfl rfl ?_
    refine step_r rfl rfl trivial ?_
    refine step_r rfl rfl trivial ?_
    refine step_gf rfl rfl ?_
    refine step_gf rfl rfl ?_
    refine step_gf rfl rfl ?_
    refine step_r rfl rfl trivial ?_
    refine step_r rfl rfl trivial ?_
    refine step_gf rfl rfl ?_
    refine step_gf rfl rfl ?_
    refine step_gf rfl rfl ?_
    refine step_gf rfl rfl ?_
    refine step_gf rfl rfl ?_
    refine step_r rfl rfl trivial ?_
    refine step_r rfl rfl trivial ?_
    refine step_nil ?_
    have e38 : turns19_J80 l unit much now = false := by
     unfold turns19_J80
     try dsimp only
     rewrite [if_neg g20]
     all_goals rfl
    exact cutW_n false e38 (Trans.ren [(1, 5), (2, 7), (5, 1), (7, 2)] (by decide +kernel) (by decide +kernel) rfl ⟨⟨rfl, rfl⟩, ⟨rfl, rfl⟩, ⟨rfl, rfl⟩, ⟨rfl, rfl⟩, ⟨rfl, rfl⟩, ⟨rfl, rfl⟩, ⟨rfl, rfl⟩, trivial⟩ ⟨⟨rfl, rfl, rfl⟩, ⟨rfl, rfl, rfl⟩, ⟨rfl, rfl, rfl⟩, trivial⟩ (by decide))
  ·rintro same_80 (hJ18 : turns19_J80 l unit much now = same_80)
   show seqK _ _ _ .normal (⟨[(0, .pv (.slc l.length l_f (l.flatMap encGThreat))), (1, I unit), (9, B (small19)), (10, .ref 0 3 0 l.length), (19, .ref 1 3 0 (dropT l unit).1.length), (23, .ref 2 3 0 (fadeT l much).length), (24, B same_80)], [(0, .row 40 3 (l.flatMap encGThreat)), (1, .row 40 3 ((dropT l unit).1.flatMap encGThreat)), (2, .row 40 3 ((fadeT l much).flatMap encGThreat))], 3, [], 160, 0⟩ : St)
   refine seqK_n ?_
   refine sem_seq ?_
   refine sem_seq ?_
   refine sem_region rfl ?_
   refine step_r rfl rfl trivial ?_
   refine step_nil ?_
   refine seqK_n ?_
   refine sem_cutW (fun w_ : Unit => match w_ with | () => (⟨[(0, .pv (.slc l.length l_f (l.flatMap encGThreat))), (1, I unit), (9, B (small19)), (10, .ref 0 3 0 l.length), (19, .ref 1 3 0 (dropT l unit).1.length), (24, B same_80)], [(0, .row 40 3 (l.flatMap encGThreat)), (1, .row 40 3 ((dropT l unit).1.flatMap encGThreat))], 2, [], 160, 0⟩ : St)) (fun w_ => turns19_L0 (((fadeT l much).length) - 0) 0 (fadeT l much) = w_) ?_ ?_
   ·refine sem_block ?_
    refine sem_loopT (fun w_ : Nat × (List GThreat) => match w_ with | (k0, p0) => (⟨[(0, .pv (.slc l.length l_f (l.flatMap encGThreat))), (1, I unit), (9, B (small19)), (10, .ref 0 3 0 l.length), (19, .ref 1 3 0 (dropT l unit).1.length), (23, .ref 2 3 0 p0.length), (24, B same_80), (25, I k0)], [(0, .row 40 3 (l.flatMap encGThreat)), (1, .row 40 3 ((dropT l unit).1.flatMap encGThreat)), (2, .row 40 3 (p0.flatMap encGThreat))], 3, [], 160, 0⟩ : St)) (fun w_ : Nat × (List GThreat) => match w_ with | (k0, p0) => turns19_L0 (((fadeT l much).length) - k0) k0 p0 = turns19_L0 (((fadeT l much).length) - 0) 0 (fadeT l much) ∧ k0 ≤ (fadeT l much).length ∧ p0.length = (fadeT l much).length) (fun w_ : Nat × (List GThreat) => match w_ with | (k0, p0) => (fadeT l much).length - k0) (0, (fadeT l much)) (⟨rfl, (by first | omega | (simp; omega)), by first | omega | simp | (simp; omega)⟩) ?_ (fun w_ hh_ => ?_)
    ·exact (Trans.ren [] (by decide +kernel) (by decide +kernel) rfl ⟨⟨rfl, rfl⟩, ⟨rfl, rfl⟩, ⟨rfl, rfl⟩, ⟨rfl, rfl⟩, ⟨rfl, rfl⟩, ⟨rfl, rfl⟩, ⟨rfl, rfl⟩, ⟨rfl, rfl⟩, trivial⟩ ⟨⟨rfl, rfl, rfl⟩, ⟨rfl, rfl, rfl⟩, ⟨rfl, rfl, rfl⟩, trivial⟩ (by decide))
    obtain ⟨k0, p0⟩ := w_
    obtain ⟨hI0, hb0, hv0⟩ := hh_
    show Walks Try.prog _ _ (⟨[(0, .pv (.slc l.length l_f (l.flatMap encGThreat))), (1, I unit), (9, B (small19)), (10, .ref 0 3 0 l.length), (19, .ref 1 3 0 (dropT l unit).1.length), (23, .ref 2 3 0 p0.length), (24, B same_80), (25, I k0)], [(0, .row 40 3 (l.flatMap encGThreat)), (1, .row 40 3 ((dropT l unit).1.flatMap encGThreat)), (2, .row 40 3 (p0.flatMap encGThreat))], 3, [], 160, 0⟩ : St)
    refine sem_seq ?_
    refine sem_seq ?_
    refine sem_region rfl ?_
    refine step_r rfl rfl trivial ?_
    refine step_r rfl rfl trivial ?_
    refine step_r rfl rfl trivial ?_
    refine step_bin rfl rfl rfl rfl rfl trivial ?_
    refine step_nil ?_
    refine seqK_n ?_
    refine sem_cond rfl (fun h41 => ?_) (fun h41 => ?_)
    ·have g41 : (k0 : Int) < p0.length := of_decide_eq_true h41
     have hm0 : (fadeT l much).length - k0 = ((fadeT l much).length - (k0 + 1)) + 1 := by omega
     refine sem_skip ?_
     refine seqK_n ?_
     refine sem_seq ?_
     refine sem_block ?_
     refine sem_region rfl ?_
     refine step_r rfl rfl trivial ?_
     refine step_r rfl rfl trivial ?_
     have jk42 : k0 < p0.length := by first | assumption | omega | (simp only [List.length_set, List.length_append]; omega) | (simp only [IntKind.wrap_i64] at *; omega) | (simp; omega) | simp_all
     refine step_idxR (k := k0) rfl rfl rfl rfl jk42 rfl ?_
     refine step_r rfl rfl (by decide) ?_
     refine step_storeR rfl rfl rfl rfl (by have := flat_lt (s := 3) (enc := encGThreat) (fun _ => rfl) jk42; show k0 * 3 + 0 < _; omega) (flat_set (enc := encGThreat) (s := 3) (y := { (p0.getD k0 default) with Unit := (-7) }) (fun _ => rfl) (get_getD jk42) (by decide) rfl) (.inl rfl) rfl ?_
     refine step_nil ?_
     refine blkK_n ?_
     refine seqK_n ?_
     refine sem_region rfl ?_
     refine step_r rfl rfl trivial ?_
     refine step_bin rfl rfl rfl rfl rfl trivial ?_
     refine step_r rfl rfl trivial ?_
     refine step_nil ?_
     have e44 : turns19_L0 (((fadeT l much).length) - k0) k0 p0 = turns19_L0 (((fadeT l much).length) - (k0 + 1)) (k0 + 1) (p0.set k0 { (p0.getD k0 default) with Unit := (-7) }) := by
      rfl
     exact lup_againT (k0 + 1, (p0.set k0 { (p0.getD k0 default) with Unit := (-7) })) ⟨e44.symm.trans hI0, (by omega), by first | omega | assumption | (simp only [List.length_append, List.length_cons, List.length_nil, List.length_set]; omega) | (simp; omega) | grind⟩ (by show (fadeT l much).length - (k0 + 1) < (fadeT l much).length - k0; omega) (Trans.ren [] (by decide +kernel) (by decide +kernel) rfl ⟨⟨rfl, rfl⟩, ⟨rfl, rfl⟩, ⟨rfl, rfl⟩, ⟨rfl, rfl⟩, ⟨rfl, rfl⟩, ⟨congrArg (fun n => some (AV.ref 2 3 0 n)) (by first | rfl | simp only [List.length_set] | simp | omega | (simp; omega)), rfl⟩, ⟨rfl, rfl⟩, ⟨congrArg (fun n => some (I n)) (wrapI (k := k0) (by first | omega | (simp; omega))), rfl⟩, trivial⟩ ⟨⟨rfl, rfl, rfl⟩, ⟨rfl, rfl, rfl⟩, ⟨rfl, rfl, rfl⟩, trivial⟩ (by decide))
    ·have g41 : ¬ ((k0 : Int) < p0.length) := of_decide_eq_false h41
     have hm0 : (fadeT l much).length - k0 = 0 := by omega
     refine sem_exit ?_
     refine seqK_e ?_
     refine lupK_e ?_
     refine blkK_t rfl ?_
     have e45 : turns19_L0 (((fadeT l much).length) - 0) 0 (fadeT l much) = () := by
      rfl
     exact cutW_n () e45 (Trans.ren [] (by decide +kernel) (by decide +kernel) rfl ⟨⟨rfl, rfl⟩, ⟨rfl, rfl⟩, ⟨rfl, rfl⟩, ⟨rfl, rfl⟩, ⟨rfl, rfl⟩, ⟨rfl, rfl⟩, trivial⟩ ⟨⟨rfl, rfl, rfl⟩, ⟨rfl, rfl, rfl⟩, trivial⟩ (by decide))
   ·rintro ⟨⟩ (hJ39 : turns19_L0 (((fadeT l much).length) - 0) 0 (fadeT l much) = ())
    show seqK _ _ _ .normal (⟨[(0, .pv (.slc l.length l_f (l.flatMap encGThreat))), (1, I unit), (9, B (small19)), (10, .ref 0 3 0 l.length), (19, .ref 1 3 0 (dropT l unit).1.length), (24, B same_80)], [(0, .row 40 3 (l.flatMap encGThreat)), (1, .row 40 3 ((dropT l unit).1.flatMap encGThreat))], 2, [], 160, 0⟩ : St)
    refine seqK_n ?_
    refine sem_seq ?_
    refine sem_seq ?_
    refine sem_region rfl ?_
    refine step_r rfl rfl trivial ?_
    refine step_nil ?_
    refine seqK_n ?_
    refine sem_cutW (fun w_ : Unit => match w_ with | () => (⟨[(0, .pv (.slc l.length l_f (l.flatMap encGThreat))), (1, I unit), (9, B (small19)), (10, .ref 0 3 0 l.length), (24, B same_80)], [(0, .row 40 3 (l.flatMap encGThreat))], 1, [], 160, 0⟩ : St)) (fun w_ => turns19_L1 (((dropT l unit).1.length) - 0) 0 ((dropT l unit).1) = w_) ?_ ?_
    ·refine sem_block ?_
     refine sem_loopT (fun w_ : Nat × (List GThreat) => match w_ with | (k1, x1') => (⟨[(0, .pv (.slc l.length l_f (l.flatMap encGThreat))), (1, I unit), (9, B (small19)), (10, .ref 0 3 0 l.length), (19, .ref 1 3 0 x1'.length), (24, B same_80), (26, I k1)], [(0, .row 40 3 (l.flatMap encGThreat)), (1, .row 40 3 (x1'.flatMap encGThreat))], 2, [], 160, 0⟩ : St)) (fun w_ : Nat × (List GThreat) => match w_ with | (k1, x1') => turns19_L1 (((dropT l unit).1.length) - k1) k1 (x1') = turns19_L1 (((dropT l unit).1.length) - 0) 0 ((dropT l unit).1) ∧ k1 ≤ (dropT l unit).1.length ∧ x1'.length = (dropT l unit).1.length) (fun w_ : Nat × (List GThreat) => match w_ with | (k1, x1') => (dropT l unit).1.length - k1) (0, (dropT l unit).1) (⟨rfl, (by first | omega | (simp; omega)), by first | omega | simp | (simp; omega)⟩) ?_ (fun w_ hh_ => ?_)
     ·exact (Trans.ren [] (by decide +kernel) (by decide +kernel) rfl ⟨⟨rfl, rfl⟩, ⟨rfl, rfl⟩, ⟨rfl, rfl⟩, ⟨rfl, rfl⟩, ⟨rfl, rfl⟩, ⟨rfl, rfl⟩, ⟨rfl, rfl⟩, trivial⟩ ⟨⟨rfl, rfl, rfl⟩, ⟨rfl, rfl, rfl⟩, trivial⟩ (by decide))
     obtain ⟨k1, x1'⟩ := w_
     obtain ⟨hI1, hb1, hv1⟩ := hh_
     show Walks Try.prog _ _ (⟨[(0, .pv (.slc l.length l_f (l.flatMap encGThreat))), (1, I unit), (9, B (small19)), (10, .ref 0 3 0 l.length), (19, .ref 1 3 0 x1'.length), (24, B same_80), (26, I k1)], [(0, .row 40 3 (l.flatMap encGThreat)), (1, .row 40 3 (x1'.flatMap encGThreat))], 2, [], 160, 0⟩ : St)
     refine sem_seq ?_
     refine sem_seq ?_
     refine sem_region rfl ?_
     refine step_r rfl rfl trivial ?_
     refine step_r rfl rfl trivial ?_
     refine step_r rfl rfl trivial ?_
     refine step_bin rfl rfl rfl rfl rfl trivial ?_
     refine step_nil ?_
     refine seqK_n ?_
     refine sem_cond rfl (fun h48 => ?_) (fun h48 => ?_)
     ·have g48 : (k1 : Int) < (x1'.length) := of_decide_eq_true h48
      have hm1 : (dropT l unit).1.length - k1 = ((dropT l unit).1.length - (k1 + 1)) + 1 := by omega
      refine sem_skip ?_
      refine seqK_n ?_
      refine sem_seq ?_
      refine sem_block ?_
      refine sem_region rfl ?_
      refine step_r rfl rfl trivial ?_
      refine step_r rfl rfl trivial ?_
      have jk49 : k1 < (x1').length := by first | assumption | omega | (simp only [List.length_set, List.length_append]; omega) | (simp only [IntKind.wrap_i64] at *; omega) | (simp; omega) | simp_all
      refine step_idxR (k := k1) rfl rfl rfl rfl jk49 rfl ?_
      refine step_r rfl rfl (by decide) ?_
      refine step_storeR rfl rfl rfl rfl (by have := flat_lt (s := 3) (enc := encGThreat) (fun _ => rfl) jk49; show k1 * 3 + 0 < _; omega) (flat_set (enc := encGThreat) (s := 3) (y := { ((x1').getD k1 default) with Unit := (-7) }) (fun _ => rfl) (get_getD jk49) (by decide) rfl) (.inl rfl) rfl ?_
      refine step_nil ?_
      refine blkK_n ?_
      refine seqK_n ?_
      refine sem_region rfl ?_
      refine step_r rfl rfl trivial ?_
      refine step_bin rfl rfl rfl rfl rfl trivial ?_
      refine step_r rfl rfl trivial ?_
      refine step_nil ?_
      have e51 : turns19_L1 (((dropT l unit).1.length) - k1) k1 (x1') = turns19_L1 (((dropT l unit).1.length) - (k1 + 1)) (k1 + 1) (x1'.set k1 { ((x1').getD k1 default) with Unit := (-7) }) := by
       rfl
      exact lup_againT (k1 + 1, (x1'.set k1 { ((x1').getD k1 default) with Unit := (-7) })) ⟨e51.symm.trans hI1, (by omega), by first | omega | assumption | (simp only [List.length_append, List.length_cons, List.length_nil, List.length_set]; omega) | (simp; omega) | grind⟩ (by show (dropT l unit).1.length - (k1 + 1) < (dropT l unit).1.length - k1; omega) (Trans.ren [] (by decide +kernel) (by decide +kernel) rfl ⟨⟨rfl, rfl⟩, ⟨rfl, rfl⟩, ⟨rfl, rfl⟩, ⟨rfl, rfl⟩, ⟨congrArg (fun n => some (AV.ref 1 3 0 n)) (by first | rfl | simp only [List.length_set] | simp | omega | (simp; omega)), rfl⟩, ⟨rfl, rfl⟩, ⟨congrArg (fun n => some (I n)) (wrapI (k := k1) (by first | omega | (simp; omega))), rfl⟩, trivial⟩ ⟨⟨rfl, rfl, rfl⟩, ⟨rfl, rfl, rfl⟩, trivial⟩ (by decide))
     ·have g48 : ¬ ((k1 : Int) < (x1'.length)) := of_decide_eq_false h48
      have hm1 : (dropT l unit).1.length - k1 = 0 := by omega
      refine sem_exit ?_
      refine seqK_e ?_
      refine lupK_e ?_
      refine blkK_t rfl ?_
      have e52 : turns19_L1 (((dropT l unit).1.length) - 0) 0 ((dropT l unit).1) = () := by
       rfl
      exact cutW_n () e52 (Trans.ren [] (by decide +kernel) (by decide +kernel) rfl ⟨⟨rfl, rfl⟩, ⟨rfl, rfl⟩, ⟨rfl, rfl⟩, ⟨rfl, rfl⟩, ⟨rfl, rfl⟩, trivial⟩ ⟨⟨rfl, rfl, rfl⟩, trivial⟩ (by decide))
    ·rintro ⟨⟩ (hJ46 : turns19_L1 (((dropT l unit).1.length) - 0) 0 ((dropT l unit).1) = ())
     show seqK _ _ _ .normal (⟨[(0, .pv (.slc l.length l_f (l.flatMap encGThreat))), (1, I unit), (9, B (small19)), (10, .ref 0 3 0 l.length), (24, B same_80)], [(0, .row 40 3 (l.flatMap encGThreat))], 1, [], 160, 0⟩ : St)
     refine seqK_n ?_
     refine sem_seq ?_
     refine sem_region rfl ?_
     refine step_r rfl rfl trivial ?_
     refine step_r rfl rfl trivial ?_
     refine step_gs rfl (fun h54 => ?_) (fun h54 => ?_)
     ·have g54 : small19 = true := h54
      refine step_g1 rfl h54 ?_
      refine step_r rfl rfl trivial ?_
      refine step_pickT rfl h54 rfl rfl ?_
      refine step_r rfl rfl trivial ?_
      refine step_gs rfl (fun h56 => ?_) (fun h56 => ?_)
      ·have g56 : same_80 = true := h56
       refine step_g1 rfl h56 ?_
       refine step_r rfl rfl trivial ?_
       refine step_g1 rfl h56 ?_
       refine step_callJ (Hin := [.row _ _ _]) (H' := [(0, .row _ _ _)]) (nx' := 1) [0] rfl rfl rfl rfl rfl rfl rfl rfl rfl (by (repeat' apply And.intro) <;> first | trivial | rfl | exact flat_len (s := 3) (enc := encGThreat) (fun _ => rfl) _ | exact flat_len (fun _ => rfl) _ | exact encI_len _ | exact encB_len _ | exact encY_len _ | exact Nat.le_of_ble_eq_true rfl | assumption) (rightT_ok l false) rfl (by decide) rfl rfl trivial rfl rfl rfl rfl ?_
       refine step_g1 rfl h56 ?_
       refine step_r rfl rfl trivial ?_
       refine step_g1 rfl h56 ?_
       refine step_call rfl rfl rfl rfl (rightTR_ok l l_f) rfl rfl rfl ?_
       refine step_g1 rfl h56 ?_
       refine step_bin rfl rfl rfl rfl rfl trivial ?_
       refine step_pickT rfl h56 rfl rfl ?_
       refine step_r rfl rfl trivial ?_
       refine step_gs rfl (fun h58 => ?_) (fun h58 => ?_)
       ·have g58 : (rightT l) = (rightTR l) := beq_t h58
        refine step_g1 rfl h58 ?_
        refine step_r rfl rfl trivial ?_
        refine step_g1 rfl h58 ?_
        refine step_r rfl rfl trivial ?_
        refine step_g1 rfl h58 ?_
        refine step_callJ (Hin := [.row _ _ _]) (H' := [(0, .row _ _ _)]) (nx' := 1) [0] rfl rfl rfl rfl rfl rfl rfl rfl rfl (by (repeat' apply And.intro) <;> first | trivial | rfl | exact flat_len (s := 3) (enc := encGThreat) (fun _ => rfl) _ | exact flat_len (fun _ => rfl) _ | exact encI_len _ | exact encB_len _ | exact encY_len _ | exact Nat.le_of_ble_eq_true rfl | assumption) (muchT_ok l false unit) rfl (by decide) rfl rfl trivial rfl rfl rfl rfl ?_
        refine step_g1 rfl h58 ?_
        refine step_r rfl rfl trivial ?_
        refine step_g1 rfl h58 ?_
        refine step_r rfl rfl trivial ?_
        refine step_g1 rfl h58 ?_
        refine step_call rfl rfl rfl rfl (muchTR_ok l l_f unit) rfl rfl rfl ?_
        refine step_g1 rfl h58 ?_
        refine step_bin rfl rfl rfl rfl rfl trivial ?_
        refine step_pickT rfl h58 rfl rfl ?_
        refine step_r rfl rfl trivial ?_
        refine step_gs rfl (fun h61 => ?_) (fun h61 => ?_)
        ·have g61 : (muchT l unit : Int) = (muchTR l unit) := beq_t h61
         refine step_g1 rfl h61 ?_
         refine step_r rfl rfl trivial ?_
         refine step_g1 rfl h61 ?_
         refine step_r rfl rfl trivial ?_
         refine step_g1 rfl h61 ?_
         refine step_callJ (Hin := [.row _ _ _]) (H' := [(0, .row _ _ _)]) (nx' := 1) [0] rfl rfl rfl rfl rfl rfl rfl rfl rfl (by (repeat' apply And.intro) <;> first | trivial | rfl | exact flat_len (s := 3) (enc := encGThreat) (fun _ => rfl) _ | exact flat_len (fun _ => rfl) _ | exact encI_len _ | exact encB_len _ | exact encY_len _ | exact Nat.le_of_ble_eq_true rfl | assumption) (sameT l false l false) rfl (by decide) rfl rfl trivial rfl rfl rfl rfl ?_
         refine step_pickT rfl h61 rfl rfl ?_
         refine step_r rfl rfl trivial ?_
         refine step_nil ?_
         refine seqK_n ?_
         refine sem_ret ?_
         have e63 : turns19 l unit much now = (decide (l = l)) := by
          unfold turns19
          try dsimp only
          rewrite [if_neg g2, hJ18]
          try dsimp only
          rewrite [if_pos g54, if_pos g56, if_pos g58, if_pos g61]
          all_goals rfl
         rw [e63]
         exact answersR rfl ⟨trivial, trivial⟩ (rfl) rfl
        ·have g61 : ¬ ((muchT l unit : Int) = (muchTR l unit)) := beq_f h61
         refine step_g0 rfl h61 rfl ?_
         refine step_g0 rfl h61 rfl ?_
         refine step_g0 rfl h61 rfl ?_
         refine step_pickF rfl h61 rfl rfl ?_
         refine step_r rfl rfl trivial ?_
         refine step_nil ?_
         refine seqK_n ?_
         refine sem_ret ?_
         have e64 : turns19 l unit much now = false := by
          unfold turns19
          try dsimp only
          rewrite [if_neg g2, hJ18]
          try dsimp only
          rewrite [if_pos g54, if_pos g56, if_pos g58, if_neg g61]
          all_goals rfl
         rw [e64]
         exact answersR rfl ⟨trivial, trivial⟩ (rfl) rfl
       ·have g58 : ¬ ((rightT l) = (rightTR l)) := beq_f h58
        refine step_g0 rfl h58 rfl ?_
        refine step_g0 rfl h58 rfl ?_
        refine step_g0 rfl h58 rfl ?_
        refine step_g0 rfl h58 rfl ?_
        refine step_g0 rfl h58 rfl ?_
        refine step_g0 rfl h58 rfl ?_
        refine step_g0 rfl h58 rfl ?_
        refine step_pickF rfl h58 rfl rfl ?_
        refine step_r rfl rfl trivial ?_
        refine step_gf rfl rfl ?_
        refine step_gf rfl rfl ?_
        refine step_gf rfl rfl ?_
        refine step_r rfl rfl trivial ?_
        refine step_r rfl rfl trivial ?_
        refine step_nil ?_
        refine seqK_n ?_
        refine sem_ret ?_
        have e65 : turns19 l unit much now = false := by
         unfold turns19
         try dsimp only
         rewrite [if_neg g2, hJ18]
         try dsimp only
         rewrite [if_pos g54, if_pos g56, if_neg g58]
         all_goals rfl
        rw [e65]
        exact answersR rfl ⟨trivial, trivial⟩ (rfl) rfl
      ·have g56 : ¬ (same_80 = true) := boo_f h56
       refine step_g0 rfl h56 rfl ?_
       refine step_g0 rfl h56 rfl ?_
       refine step_g0 rfl h56 rfl ?_
       refine step_g0 rfl h56 rfl ?_
       refine step_g0 rfl h56 rfl ?_
       refine step_pickF rfl h56 rfl rfl ?_
       refine step_r rfl rfl trivial ?_
       refine step_gf rfl rfl ?_
       refine step_gf rfl rfl ?_
       refine step_gf rfl rfl ?_
       refine step_gf rfl rfl ?_
       refine step_gf rfl rfl ?_
       refine step_gf rfl rfl ?_
       refine step_gf rfl rfl ?_
       refine step_r rfl rfl trivial ?_
       refine step_r rfl rfl trivial ?_
       refine step_gf rfl rfl ?_
       refine step_gf rfl rfl ?_
       refine step_gf rfl rfl ?_
       refine step_r rfl rfl trivial ?_
       refine step_r rfl rfl trivial ?_
       refine step_nil ?_
       refine seqK_n ?_
       refine sem_ret ?_
       have e66 : turns19 l unit much now = false := by
        unfold turns19
        try dsimp only
        rewrite [if_neg g2, hJ18]
        try dsimp only
        rewrite [if_pos g54, if_neg g56]
        all_goals rfl
       rw [e66]
       exact answersR rfl ⟨trivial, trivial⟩ (rfl) rfl
     ·have g54 : ¬ (small19 = true) := boo_f h54
      refine step_g0 rfl h54 rfl ?_
      refine step_pickF rfl h54 rfl rfl ?_
      refine step_r rfl rfl trivial ?_
      refine step_gf rfl rfl ?_
      refine step_gf rfl rfl ?_
      refine step_gf rfl rfl ?_
      refine step_gf rfl rfl ?_
      refine step_gf rfl rfl ?_
      refine step_r rfl rfl trivial ?_
      refine step_r rfl rfl trivial ?_
      refine step_gf rfl rfl ?_
      refine step_gf rfl rfl ?_
      refine step_gf rfl rfl ?_
      refine step_gf rfl rfl ?_
      refine step_gf rfl rfl ?_
      refine step_gf rfl rfl ?_
      refine step_gf rfl rfl ?_
      refine step_r rfl rfl trivial ?_
      refine step_r rfl rfl trivial ?_
      refine step_gf rfl rfl ?_
      refine step_gf rfl rfl ?_
      refine step_gf rfl rfl ?_
      refine step_r rfl rfl trivial ?_
      refine step_r rfl rfl trivial ?_
      refine step_nil ?_
      refine seqK_n ?_
      refine sem_ret ?_
      have e67 : turns19 l unit much now = false := by
       unfold turns19
       try dsimp only
       rewrite [if_neg g2, hJ18]
       try dsimp only
       rewrite [if_neg g54]
       all_goals rfl
      rw [e67]
      exact answersR rfl ⟨trivial, trivial⟩ (rfl) rfl

structure A3int where
  (f0 : Int)
  (f1 : Int)
  (f2 : Int)
  deriving DecidableEq, Inhabited
def encA3int (x : A3int) : List PV := [i64 x.f0, i64 x.f1, i64 x.f2]
abbrev aA3int (x : A3int) : AV := .agg [I x.f0, I x.f1, I x.f2]
def wfA3int (x : A3int) : Prop := (InR x.f0) ∧ (InR x.f1) ∧ (InR x.f2)
theorem encA3int_solid {l : List A3int} : ∀ p ∈ l.flatMap encA3int, solidP p = true := flat_solid (fun x p h => by simp only [encA3int, List.mem_cons, List.mem_nil_iff, or_false] at h; rcases h with rfl | rfl | rfl <;> rfl)

def stays19_J54 (x0 : A3int) : Bool :=
  if (andK IntKind.i64 x0.f0 3 : Int) = 0 then ((andK IntKind.i64 x0.f0 3 : Int) == 0) else ((andK IntKind.i64 x0.f0 3 : Int) == 1)
def stays19_L1 (l0 : List GThreat) (k0 : Nat) (x0 : A3int) : List GThreat → Nat → Sum Bool Unit
  | [], k1 => .inr ()
  | x1 :: l_, k1 => if (x1.Much : Int) > (muchT ((tauntT l0 (IntKind.i64.wrap (1 + (andK IntKind.i64 x0.f1 63))) k0 (andK IntKind.i64 x0.f2 7)).1) (IntKind.i64.wrap (1 + (andK IntKind.i64 x0.f1 63)))) then .inl false else stays19_L1 l0 k0 x0 l_ (k1 + 1)
def stays19_J47 (l0 : List GThreat) (k0 : Nat) (x0 : A3int) : Sum Bool (List GThreat) :=
  (let t53_54 := stays19_J54 x0; if t53_54 = true then (if ((addT l0 (IntKind.i64.wrap (1 + (andK IntKind.i64 x0.f1 63))) x0.f2).2 : Int) = 4 then (if (l0.length : Int) < 40 then .inl false else if ((addT l0 (IntKind.i64.wrap (1 + (andK IntKind.i64 x0.f1 63))) x0.f2).2 : Int) = 0 then (if ((addT l0 (IntKind.i64.wrap (1 + (andK IntKind.i64 x0.f1 63))) x0.f2).2 : Int) = 0 then (if (x0.f2 : Int) ≥ 0 then (if (muchT ((addT l0 (IntKind.i64.wrap (1 + (andK IntKind.i64 x0.f1 63))) x0.f2).1) (IntKind.i64.wrap (1 + (andK IntKind.i64 x0.f1 63))) : Int) < (muchT l0 (IntKind.i64.wrap (1 + (andK IntKind.i64 x0.f1 63)))) then .inl false else if ((addT l0 (IntKind.i64.wrap (1 + (andK IntKind.i64 x0.f1 63))) x0.f2).2 : Int) = 0 then .inr ((addT l0 (IntKind.i64.wrap (1 + (andK IntKind.i64 x0.f1 63))) x0.f2).1) else .inr l0) else if ((addT l0 (IntKind.i64.wrap (1 + (andK IntKind.i64 x0.f1 63))) x0.f2).2 : Int) = 0 then .inr ((addT l0 (IntKind.i64.wrap (1 + (andK IntKind.i64 x0.f1 63))) x0.f2).1) else .inr l0) else if ((addT l0 (IntKind.i64.wrap (1 + (andK IntKind.i64 x0.f1 63))) x0.f2).2 : Int) = 0 then .inr ((addT l0 (IntKind.i64.wrap (1 + (andK IntKind.i64 x0.f1 63))) x0.f2).1) else .inr l0) else if ((addT l0 (IntKind.i64.wrap (1 + (andK IntKind.i64 x0.f1 63))) x0.f2).2 : Int) = 4 then (if ((addT l0 (IntKind.i64.wrap (1 + (andK IntKind.i64 x0.f1 63))) x0.f2).2 : Int) = 0 then (if (x0.f2 : Int) ≥ 0 then (if (muchT ((addT l0 (IntKind.i64.wrap (1 + (andK IntKind.i64 x0.f1 63))) x0.f2).1) (IntKind.i64.wrap (1 + (andK IntKind.i64 x0.f1 63))) : Int) < (muchT l0 (IntKind.i64.wrap (1 + (andK IntKind.i64 x0.f1 63)))) then .inl false else if ((addT l0 (IntKind.i64.wrap (1 + (andK IntKind.i64 x0.f1 63))) x0.f2).2 : Int) = 0 then .inr ((addT l0 (IntKind.i64.wrap (1 + (andK IntKind.i64 x0.f1 63))) x0.f2).1) else .inr l0) else if ((addT l0 (IntKind.i64.wrap (1 + (andK IntKind.i64 x0.f1 63))) x0.f2).2 : Int) = 0 then .inr ((addT l0 (IntKind.i64.wrap (1 + (andK IntKind.i64 x0.f1 63))) x0.f2).1) else .inr l0) else if ((addT l0 (IntKind.i64.wrap (1 + (andK IntKind.i64 x0.f1 63))) x0.f2).2 : Int) = 0 then .inr ((addT l0 (IntKind.i64.wrap (1 + (andK IntKind.i64 x0.f1 63))) x0.f2).1) else .inr l0) else .inl false) else if ((addT l0 (IntKind.i64.wrap (1 + (andK IntKind.i64 x0.f1 63))) x0.f2).2 : Int) = 0 then (if ((addT l0 (IntKind.i64.wrap (1 + (andK IntKind.i64 x0.f1 63))) x0.f2).2 : Int) = 0 then (if (x0.f2 : Int) ≥ 0 then (if (muchT ((addT l0 (IntKind.i64.wrap (1 + (andK IntKind.i64 x0.f1 63))) x0.f2).1) (IntKind.i64.wrap (1 + (andK IntKind.i64 x0.f1 63))) : Int) < (muchT l0 (IntKind.i64.wrap (1 + (andK IntKind.i64 x0.f1 63)))) then .inl false else if ((addT l0 (IntKind.i64.wrap (1 + (andK IntKind.i64 x0.f1 63))) x0.f2).2 : Int) = 0 then .inr ((addT l0 (IntKind.i64.wrap (1 + (andK IntKind.i64 x0.f1 63))) x0.f2).1) else .inr l0) else if ((addT l0 (IntKind.i64.wrap (1 + (andK IntKind.i64 x0.f1 63))) x0.f2).2 : Int) = 0 then .inr ((addT l0 (IntKind.i64.wrap (1 + (andK IntKind.i64 x0.f1 63))) x0.f2).1) else .inr l0) else if ((addT l0 (IntKind.i64.wrap (1 + (andK IntKind.i64 x0.f1 63))) x0.f2).2 : Int) = 0 then .inr ((addT l0 (IntKind.i64.wrap (1 + (andK IntKind.i64 x0.f1 63))) x0.f2).1) else .inr l0) else if ((addT l0 (IntKind.i64.wrap (1 + (andK IntKind.i64 x0.f1 63))) x0.f2).2 : Int) = 4 then (if ((addT l0 (IntKind.i64.wrap (1 + (andK IntKind.i64 x0.f1 63))) x0.f2).2 : Int) = 0 then (if (x0.f2 : Int) ≥ 0 then (if (muchT ((addT l0 (IntKind.i64.wrap (1 + (andK IntKind.i64 x0.f1 63))) x0.f2).1) (IntKind.i64.wrap (1 + (andK IntKind.i64 x0.f1 63))) : Int) < (muchT l0 (IntKind.i64.wrap (1 + (andK IntKind.i64 x0.f1 63)))) then .inl false else if ((addT l0 (IntKind.i64.wrap (1 + (andK IntKind.i64 x0.f1 63))) x0.f2).2 : Int) = 0 then .inr ((addT l0 (IntKind.i64.wrap (1 + (andK IntKind.i64 x0.f1 63))) x0.f2).1) else .inr l0) else if ((addT l0 (IntKind.i64.wrap (1 + (andK IntKind.i64 x0.f1 63))) x0.f2).2 : Int) = 0 then .inr ((addT l0 (IntKind.i64.wrap (1 + (andK IntKind.i64 x0.f1 63))) x0.f2).1) else .inr l0) else if ((addT l0 (IntKind.i64.wrap (1 + (andK IntKind.i64 x0.f1 63))) x0.f2).2 : Int) = 0 then .inr ((addT l0 (IntKind.i64.wrap (1 + (andK IntKind.i64 x0.f1 63))) x0.f2).1) else .inr l0) else .inl false) else if (andK IntKind.i64 x0.f0 3 : Int) = 2 then (if (dropT l0 (IntKind.i64.wrap (1 + (andK IntKind.i64 x0.f1 63)))).2 = true then (if ((dropT l0 (IntKind.i64.wrap (1 + (andK IntKind.i64 x0.f1 63)))).1.length : Int) = (IntKind.i64.wrap (l0.length - 1)) then (if (muchT ((dropT l0 (IntKind.i64.wrap (1 + (andK IntKind.i64 x0.f1 63)))).1) (IntKind.i64.wrap (1 + (andK IntKind.i64 x0.f1 63))) : Int) = 0 then .inr ((dropT l0 (IntKind.i64.wrap (1 + (andK IntKind.i64 x0.f1 63)))).1) else .inl false) else .inl false) else if (muchT ((dropT l0 (IntKind.i64.wrap (1 + (andK IntKind.i64 x0.f1 63)))).1) (IntKind.i64.wrap (1 + (andK IntKind.i64 x0.f1 63))) : Int) = 0 then .inr ((dropT l0 (IntKind.i64.wrap (1 + (andK IntKind.i64 x0.f1 63)))).1) else .inl false) else if (andK IntKind.i64 x0.f0 3 : Int) = 3 then (if ((tauntT l0 (IntKind.i64.wrap (1 + (andK IntKind.i64 x0.f1 63))) k0 (andK IntKind.i64 x0.f2 7)).2 : Int) = 0 then (match stays19_L1 l0 k0 x0 ((tauntT l0 (IntKind.i64.wrap (1 + (andK IntKind.i64 x0.f1 63))) k0 (andK IntKind.i64 x0.f2 7)).1) 0 with
    | .inl r_ => .inl r_
    | .inr () => .inr ((tauntT l0 (IntKind.i64.wrap (1 + (andK IntKind.i64 x0.f1 63))) k0 (andK IntKind.i64 x0.f2 7)).1)) else .inr l0) else .inr l0)
def stays19_J166 (near : List Int) (target0 : Int) (k0 : Nat) (l_47 : List GThreat) : Bool :=
  if (targetT l_47 k0 target0 near : Int) = 0 then ((l_47.length : Int) == 0) else false
def stays19_L2 (near : List Int) (target0 : Int) (k0 : Nat) (l_47 : List GThreat) : List GThreat → Nat → Bool → Bool
  | [], k2, in2 => in2
  | x2 :: l_, k2, in2 => if in2 = true then stays19_L2 near target0 k0 l_47 l_ (k2 + 1) true else stays19_L2 near target0 k0 l_47 l_ (k2 + 1) ((x2.Unit : Int) == (targetT l_47 k0 target0 near))
def stays19_L0 (near : List Int) : List A3int → Nat → (List GThreat) → Int → Sum Bool Unit
  | [], k0, l0, target0 => .inr ()
  | x0 :: l_, k0, l0, target0 => (match stays19_J47 l0 k0 x0 with
    | .inl r_ => .inl r_
    | .inr l_47 => (let in_166 := stays19_J166 near target0 k0 l_47; (let in_2 := stays19_L2 near target0 k0 l_47 l_47 0 in_166; if rightT l_47 = true then (if in_2 = true then (if (targetT l_47 k0 (targetT l_47 k0 target0 near) near : Int) = (targetT l_47 k0 target0 near) then stays19_L0 near l_ (k0 + 1) l_47 (targetT l_47 k0 target0 near) else .inl false) else .inl false) else .inl false)))
def stays19 (steps : List A3int) (near : List Int) : Bool :=
  if (steps.length : Int) > 200 then (small19) else if (near.length : Int) > 60 then (small19) else (match stays19_L0 near steps 0 ([]) 0 with
    | .inl r_ => r_
    | .inr () => (small19))
theorem stays19_ok (steps : List A3int) (steps_f : Bool) (near : List Int) (near_f : Bool) : Ok Try.prog 5 [.pv (.slc steps.length steps_f (steps.flatMap encA3int)), .pv (.slc near.length near_f (encI near))] [] (B (stays19 steps near)) [] [] := by
 refine Ok.len fun hlen => ?_
 have hl_steps : steps.length ≤ maxLen := hlen _ (by simp [lensL, lens, lensP])
 have hl_near : near.length ≤ maxLen := hlen _ (by simp [lensL, lens, lensP])
 unfold maxLen at hl_steps hl_near
 refine ok_of_sem Try.func5 rfl ?_
 show Walks Try.prog _ _ ⟨[(0, .pv (.slc steps.length steps_f (steps.flatMap encA3int))), (1, .pv (.slc near.length near_f (encI near)))], [], 0, [], 207, 0⟩
 refine sem_seq ?_
 refine sem_region rfl ?_
 refine step_r rfl rfl trivial ?_
 refine step_nil ?_
 refine seqK_n ?_
 refine sem_seq ?_
 refine sem_region rfl ?_
 refine step_call rfl rfl rfl rfl (small19_ok ) rfl rfl rfl ?_
 refine step_r rfl rfl trivial ?_
 refine step_nil ?_
 refine seqK_n ?_
 refine sem_seq ?_
 refine sem_seq ?_
 refine sem_region rfl ?_
 refine step_r rfl rfl trivial ?_
 refine step_r rfl rfl trivial ?_
 refine step_bin rfl rfl rfl rfl rfl trivial ?_
 refine step_r rfl rfl trivial ?_
 refine step_gs rfl (fun h3 => ?_) (fun h3 => ?_)
 ·have g3 : (steps.length : Int) > 200 := of_decide_eq_true h3
  refine step_g0 rfl h3 rfl ?_
  refine step_g0 rfl h3 rfl ?_
  refine step_g0 rfl h3 rfl ?_
  refine step_pickT rfl h3 rfl rfl ?_
  refine step_nil ?_
  refine seqK_n ?_
  refine sem_condT rfl ?_
  refine sem_seq ?_
  refine sem_region rfl ?_
  refine step_r rfl rfl trivial ?_
  refine step_r rfl rfl trivial ?_
  refine step_nil ?_
  refine seqK_n ?_
  refine sem_ret ?_
  refine seqK_r ?_
  have e4 : stays19 steps near = (small19) := by
   unfold stays19
   try dsimp only
   rewrite [if_pos g3]
   all_goals rfl
  rw [e4]
  exact answersR rfl ⟨trivial, trivial⟩ (rfl) rfl
 ·have g3 : ¬ ((steps.length : Int) > 200) := of_decide_eq_false h3
  refine step_g1 rfl h3 ?_
  refine step_r rfl rfl trivial ?_
  refine step_g1 rfl h3 ?_
  refine step_r rfl rfl trivial ?_
  refine step_g1 rfl h3 ?_
  refine step_bin rfl rfl rfl rfl rfl trivial ?_
  refine step_pickF rfl h3 rfl rfl ?_
  refine step_nil ?_
  refine seqK_n ?_
  refine sem_cond rfl (fun h6 => ?_) (fun h6 => ?_)
  ·have g6 : (near.length : Int) > 60 := of_decide_eq_true h6
   refine sem_seq ?_
   refine sem_region rfl ?_
   refine step_r rfl rfl trivial ?_
   refine step_r rfl rfl trivial ?_
   refine step_nil ?_
   refine seqK_n ?_
   refine sem_ret ?_
   refine seqK_r ?_
   have e7 : stays19 steps near = (small19) := by
    unfold stays19
    try dsimp only
    rewrite [if_neg g3, if_pos g6]
    all_goals rfl
   rw [e7]
   exact answersR rfl ⟨trivial, trivial⟩ (rfl) rfl
  ·have g6 : ¬ ((near.length : Int) > 60) := of_decide_eq_false h6
   refine sem_skip ?_
   refine seqK_n ?_
   refine sem_seq ?_
   refine sem_region rfl ?_
   refine step_n (nx' := 1) rfl rfl rfl trivial ?_
   refine step_nil ?_
   refine seqK_n ?_
   refine sem_seq ?_
   refine sem_region rfl ?_
   refine step_r rfl rfl trivial ?_
   refine step_nil ?_
   refine seqK_n ?_
   refine sem_seq ?_
   refine sem_seq ?_
   refine sem_region rfl ?_
   refine step_r rfl rfl trivial ?_
   refine step_nil ?_
   refine seqK_n ?_
   refine sem_cutW (fun w_ : Unit => match w_ with | () => (⟨[(5, B (small19))], [], 0, [], 207, 0⟩ : St)) (fun w_ => stays19_L0 near steps 0 ([]) 0 = .inr w_) ?_ ?_
   ·refine sem_block ?_
    refine sem_loopT (fun w_ : Nat × (List GThreat) × Int => match w_ with | (k0, l0, target0) => (⟨[(0, .pv (.slc steps.length steps_f (steps.flatMap encA3int))), (1, .pv (.slc near.length near_f (encI near))), (5, B (small19)), (6, .ref 0 3 0 l0.length), (7, I target0), (8, I k0)], [(0, .row 40 3 (l0.flatMap encGThreat))], 1, [], 207, 0⟩ : St)) (fun w_ : Nat × (List GThreat) × Int => match w_ with | (k0, l0, target0) => stays19_L0 near (steps.drop k0) k0 l0 target0 = stays19_L0 near steps 0 ([]) 0 ∧ k0 ≤ steps.length ∧ l0.length ≤ 40) (fun w_ : Nat × (List GThreat) × Int => match w_ with | (k0, l0, target0) => steps.length - k0) (0, [], 0) (⟨rfl, Nat.zero_le _, by first | omega | simp | (simp; omega)⟩) ?_ (fun w_ hh_ => ?_)
    ·exact (Trans.ren [] (by decide +kernel) (by decide +kernel) rfl ⟨⟨rfl, rfl⟩, ⟨rfl, rfl⟩, ⟨rfl, rfl⟩, ⟨congrArg (fun n => some (AV.ref 0 3 0 n)) (by first | rfl | simp only [List.length_set] | simp | omega | (simp; omega)), rfl⟩, ⟨rfl, rfl⟩, ⟨rfl, rfl⟩, trivial⟩ ⟨⟨rfl, rfl, rfl⟩, trivial⟩ (by decide))
    obtain ⟨k0, l0, target0⟩ := w_
    obtain ⟨hI0, hb0, hv0⟩ := hh_
    show Walks Try.prog _ _ (⟨[(0, .pv (.slc steps.length steps_f (steps.flatMap encA3int))), (1, .pv (.slc near.length near_f (encI near))), (5, B (small19)), (6, .ref 0 3 0 l0.length), (7, I target0), (8, I k0)], [(0, .row 40 3 (l0.flatMap encGThreat))], 1, [], 207, 0⟩ : St)
    refine sem_seq ?_
    refine sem_seq ?_
    refine sem_region rfl ?_
    refine step_r rfl rfl trivial ?_
    refine step_r rfl rfl trivial ?_
    refine step_r rfl rfl trivial ?_
    refine step_bin rfl rfl rfl rfl rfl trivial ?_
    refine step_nil ?_
    refine seqK_n ?_
    refine sem_cond rfl (fun h10 => ?_) (fun h10 => ?_)
    ·have g10 : (k0 : Int) < steps.length := of_decide_eq_true h10
     have hk0 : k0 < steps.length := by omega
     obtain ⟨x0, hx0⟩ : ∃ z_, steps[k0]? = some z_ := ⟨_, List.getElem?_eq_getElem hk0⟩
     refine sem_skip ?_
     refine seqK_n ?_
     refine sem_seq ?_
     refine sem_block ?_
     refine sem_seq ?_
     refine sem_region rfl ?_
     refine step_r rfl rfl trivial ?_
     refine step_r rfl rfl trivial ?_
     refine step_idxS (k := k0) rfl rfl rfl rfl hk0 (flat_ne (s := 3) (enc := encA3int) (fun _ => rfl) (by decide) hk0) rfl ?_
     refine step_r rfl rfl ⟨by decide, by decide⟩ ?_
     refine step_load_one rfl rfl rfl (flat_get (s := 3) (enc := encA3int) (fun _ => rfl) hx0 (o := 1) rfl (by decide)) rfl ?_
     refine step_bin rfl rfl rfl rfl rfl trivial ?_
     refine step_bin rfl rfl rfl rfl rfl trivial ?_
     refine step_r rfl rfl trivial ?_
     refine step_nil ?_
     refine seqK_n ?_
     refine sem_seq ?_
     refine sem_region rfl ?_
     refine step_r rfl rfl trivial ?_
     refine step_r rfl rfl trivial ?_
     refine step_callJ (Hin := [.row _ _ _]) (H' := [(0, .row _ _ _)]) (nx' := 1) [0] rfl rfl rfl rfl rfl rfl rfl rfl rfl (by (repeat' apply And.intro) <;> first | trivial | rfl | exact flat_len (s := 3) (enc := encGThreat) (fun _ => rfl) _ | exact flat_len (fun _ => rfl) _ | exact encI_len _ | exact encB_len _ | exact encY_len _ | exact Nat.le_of_ble_eq_true rfl | assumption) (muchT_ok l0 false (IntKind.i64.wrap (1 + (andK IntKind.i64 x0.f1 63)))) rfl (by decide) rfl rfl trivial rfl rfl rfl rfl ?_
     refine step_r rfl rfl trivial ?_
     refine step_nil ?_
     refine seqK_n ?_
     refine sem_seq ?_
     refine sem_cutW (fun l_47 : List GThreat => (⟨[(0, .pv (.slc steps.length steps_f (steps.flatMap encA3int))), (1, .pv (.slc near.length near_f (encI near))), (5, B (small19)), (6, .ref 0 3 0 l_47.length), (7, I target0), (8, I k0)], [(0, .row 40 3 (l_47.flatMap encGThreat))], 1, [], 207, 0⟩ : St)) (fun l_47 : List GThreat => stays19_J47 l0 k0 x0 = .inr l_47 ∧ (l_47.length ≤ 41)) ?_ ?_
     ·refine sem_seq ?_
      refine sem_region rfl ?_
      refine step_r rfl rfl trivial ?_
      refine step_r rfl rfl trivial ?_
      refine step_idxS (k := k0) rfl rfl rfl rfl hk0 (flat_ne (s := 3) (enc := encA3int) (fun _ => rfl) (by decide) hk0) rfl ?_
      refine step_r rfl rfl ⟨by decide, by decide⟩ ?_
      refine step_load_one rfl rfl rfl (flat_get (s := 3) (enc := encA3int) (fun _ => rfl) hx0 (o := 0) rfl (by decide)) rfl ?_
      refine step_bin rfl rfl rfl rfl rfl trivial ?_
      refine step_nil ?_
      refine seqK_n ?_
      refine sem_block ?_
      refine sem_seq ?_
      refine sem_cutW (fun t53_54 : Bool => (⟨[(0, .pv (.slc steps.length steps_f (steps.flatMap encA3int))), (1, .pv (.slc near.length near_f (encI near))), (5, B (small19)), (6, .ref 0 3 0 l0.length), (7, I target0), (8, I k0), (9, I (IntKind.i64.wrap (1 + (andK IntKind.i64 x0.f1 63)))), (10, I (muchT l0 (IntKind.i64.wrap (1 + (andK IntKind.i64 x0.f1 63))))), (52, I (andK IntKind.i64 x0.f0 3)), (53, B t53_54)], [(0, .row 40 3 (l0.flatMap encGThreat))], 1, [], 207, 0⟩ : St)) (fun w_ => stays19_J54 x0 = w_) ?_ ?_
      ·refine sem_seq ?_
       refine sem_region rfl ?_
       refine step_bin rfl rfl rfl rfl rfl trivial ?_
       refine step_r rfl rfl trivial ?_
       refine step_nil ?_
       refine seqK_n ?_
       refine sem_cond rfl (fun h16 => ?_) (fun h16 => ?_)
       ·have g16 : (andK IntKind.i64 x0.f0 3 : Int) = 0 := beq_t h16
        refine sem_skip ?_
        have e17 : stays19_J54 x0 = ((andK IntKind.i64 x0.f0 3 : Int) == 0) := by
         unfold stays19_J54
         try dsimp only
         rewrite [if_pos g16]
         all_goals rfl
        exact cutW_n ((andK IntKind.i64 x0.f0 3 : Int) == 0) e17 (Trans.ren [] (by decide +kernel) (by decide +kernel) rfl ⟨⟨rfl, rfl⟩, ⟨rfl, rfl⟩, ⟨rfl, rfl⟩, ⟨rfl, rfl⟩, ⟨rfl, rfl⟩, ⟨rfl, rfl⟩, ⟨rfl, rfl⟩, ⟨rfl, rfl⟩, ⟨rfl, rfl⟩, ⟨rfl, rfl⟩, trivial⟩ ⟨⟨rfl, rfl, rfl⟩, trivial⟩ (by decide))
       ·have g16 : ¬ ((andK IntKind.i64 x0.f0 3 : Int) = 0) := beq_f h16
        refine sem_region rfl ?_
        refine step_bin rfl rfl rfl rfl rfl trivial ?_
        refine step_r rfl rfl trivial ?_
        refine step_nil ?_
        have e19 : stays19_J54 x0 = ((andK IntKind.i64 x0.f0 3 : Int) == 1) := by
         unfold stays19_J54
         try dsimp only
         rewrite [if_neg g16]
         all_goals rfl
        exact cutW_n ((andK IntKind.i64 x0.f0 3 : Int) == 1) e19 (Trans.ren [] (by decide +kernel) (by decide +kernel) rfl ⟨⟨rfl, rfl⟩, ⟨rfl, rfl⟩, ⟨rfl, rfl⟩, ⟨rfl, rfl⟩, ⟨rfl, rfl⟩, ⟨rfl, rfl⟩, ⟨rfl, rfl⟩, ⟨rfl, rfl⟩, ⟨rfl, rfl⟩, ⟨rfl, rfl⟩, trivial⟩ ⟨⟨rfl, rfl, rfl⟩, trivial⟩ (by decide))
      ·rintro t53_54 (hJ14 : stays19_J54 x0 = t53_54)
       show seqK _ _ _ .normal (⟨[(0, .pv (.slc steps.length steps_f (steps.flatMap encA3int))), (1, .pv (.slc near.length near_f (encI near))), (5, B (small19)), (6, .ref 0 3 0 l0.length), (7, I target0), (8, I k0), (9, I (IntKind.i64.wrap (1 + (andK IntKind.i64 x0.f1 63)))), (10, I (muchT l0 (IntKind.i64.wrap (1 + (andK IntKind.i64 x0.f1 63))))), (52, I (andK IntKind.i64 x0.f0 3)), (53, B t53_54)], [(0, .row 40 3 (l0.flatMap encGThreat))], 1, [], 207, 0⟩ : St)
       refine seqK_n ?_
       refine sem_cond rfl (fun h20 => ?_) (fun h20 => ?_)
       ·have g20 : t53_54 = true := h20
        refine sem_seq ?_
        refine sem_region rfl ?_
        refine step_r rfl rfl trivial ?_
        refine step_r rfl rfl trivial ?_
        refine step_r rfl rfl trivial ?_
        refine step_r rfl rfl trivial ?_
        refine step_idxS (k := k0) rfl rfl rfl rfl hk0 (flat_ne (s := 3) (enc := encA3int) (fun _ => rfl) (by decide) hk0) rfl ?_
        refine step_r rfl rfl ⟨by decide, by decide⟩ ?_
        refine step_load_one rfl rfl rfl (flat_get (s := 3) (enc := encA3int) (fun _ => rfl) hx0 (o := 2) rfl (by decide)) rfl ?_
        refine step_callJ (Hin := [.row _ _ _]) (out' := .tup [.ref 1 _ _ _, _]) (H' := [(1, .row _ _ _), (0, .row _ _ _)]) (nx' := 2) [0] rfl rfl rfl rfl rfl rfl rfl rfl rfl (by (repeat' apply And.intro) <;> first | trivial | rfl | exact flat_len (s := 3) (enc := encGThreat) (fun _ => rfl) _ | exact flat_len (fun _ => rfl) _ | exact encI_len _ | exact encB_len _ | exact encY_len _ | exact Nat.le_of_ble_eq_true rfl | assumption) (addT_ok l0 false (IntKind.i64.wrap (1 + (andK IntKind.i64 x0.f1 63))) x0.f2 (by first | omega | (simp; omega))) rfl (by decide) rfl rfl ⟨encGThreat_solid, trivial⟩ rfl rfl rfl rfl ?_
        have p23 := addT_len l0 (IntKind.i64.wrap (1 + (andK IntKind.i64 x0.f1 63))) x0.f2
        refine step_r rfl rfl trivial ?_
        refine step_r rfl rfl trivial ?_
        refine step_r rfl rfl trivial ?_
        refine step_r rfl rfl trivial ?_
        refine step_r rfl rfl trivial ?_
        refine step_nil ?_
        refine seqK_n ?_
        refine sem_seq ?_
        refine sem_seq ?_
        refine sem_region rfl ?_
        refine step_r rfl rfl trivial ?_
        refine step_bin rfl rfl rfl rfl rfl trivial ?_
        refine step_r rfl rfl trivial ?_
        refine step_gs rfl (fun h26 => ?_) (fun h26 => ?_)
        ·have g26 : ((addT l0 (IntKind.i64.wrap (1 + (andK IntKind.i64 x0.f1 63))) x0.f2).2 : Int) = 4 := beq_t h26
         refine step_g1 rfl h26 ?_
         refine step_r rfl rfl trivial ?_
         refine step_g1 rfl h26 ?_
         refine step_r rfl rfl trivial ?_
         refine step_g1 rfl h26 ?_
         refine step_bin rfl rfl rfl rfl rfl trivial ?_
         refine step_pickT rfl h26 rfl rfl ?_
         refine step_r rfl rfl trivial ?_
         refine step_gs rfl (fun h28 => ?_) (fun h28 => ?_)
         ·have g28 : (l0.length : Int) < 40 := of_decide_eq_true h28
          refine step_g0 rfl h28 rfl ?_
          refine step_g0 rfl h28 rfl ?_
          refine step_g0 rfl h28 rfl ?_
          refine step_gf rfl rfl ?_
          refine step_gf rfl rfl ?_
          refine step_g0 rfl h28 rfl ?_
          refine step_pickT rfl h28 rfl rfl ?_
          refine step_r rfl rfl trivial ?_
          refine step_gf rfl rfl ?_
          refine step_gf rfl rfl ?_
          refine step_gf rfl rfl ?_
          refine step_gf rfl rfl ?_
          refine step_gf rfl rfl ?_
          refine step_gf rfl rfl ?_
          refine step_gf rfl rfl ?_
          refine step_gf rfl rfl ?_
          refine step_gf rfl rfl ?_
          refine step_gf rfl rfl ?_
          refine step_gf rfl rfl ?_
          refine step_gf rfl rfl ?_
          refine step_gf rfl rfl ?_
          refine step_gf rfl rfl ?_
          refine step_gf rfl rfl ?_
          refine step_gf rfl rfl ?_
          refine step_gf rfl rfl ?_
          refine step_r rfl rfl trivial ?_
          refine step_nil ?_
          refine seqK_n ?_
          refine sem_condT rfl ?_
          refine sem_seq ?_
          refine sem_region rfl ?_
          refine step_r rfl rfl trivial ?_
          refine step_nil ?_
          refine seqK_n ?_
          refine sem_ret ?_
          refine seqK_r ?_
          refine blkK_r ?_
          refine cutW_r ?_
          refine seqK_r ?_
          refine blkK_r ?_
          refine seqK_r ?_
          refine lupK_r ?_
          refine blkK_r ?_
          refine cutW_r ?_
          refine seqK_r ?_
          have e29 : stays19_J47 l0 k0 x0 = .inl false := by
           unfold stays19_J47
           try dsimp only
           rewrite [hJ14]
           try dsimp only
           rewrite [if_pos g20, if_pos g26, if_pos g28]
           all_goals rfl
          have e30 : stays19_L0 near steps 0 ([]) 0 = .inl false := by
           rewrite [← hI0, drop_cons hx0]
           rewrite [stays19_L0]
           try dsimp only
           rewrite [e29]
           try dsimp only
           all_goals rfl
          have e31 : stays19 steps near = false := by
           unfold stays19
           try dsimp only
           rewrite [if_neg g3, if_neg g6, e30]
           try dsimp only
           all_goals rfl
          rw [e31]
          exact answersR rfl ⟨trivial, trivial⟩ (rfl) rfl
         ·have g28 : ¬ ((l0.length : Int) < 40) := of_decide_eq_false h28
          refine step_g1 rfl h28 ?_
          refine step_r rfl rfl trivial ?_
          refine step_g1 rfl h28 ?_
          refine step_bin rfl rfl rfl rfl rfl trivial ?_
          refine step_g1 rfl h28 ?_
          refine step_r rfl rfl trivial ?_
          refine step_gs rfl (fun h33 => ?_) (fun h33 => ?_)
          ·have g33 : ¬ (((addT l0 (IntKind.i64.wrap (1 + (andK IntKind.i64 x0.f1 63))) x0.f2).2 : Int) = 0) := bne_t h33
           refine step_g1 rfl h33 ?_
           refine step_r rfl rfl trivial ?_
           refine step_g1 rfl h33 ?_
           refine step_bin rfl rfl rfl rfl rfl trivial ?_
           refine step_g1 rfl h28 ?_
           refine step_pickT rfl h33 rfl rfl ?_
           refine step_pickF rfl h28 rfl rfl ?_
           refine step_r rfl rfl trivial ?_
           refine step_gs rfl (fun h35 => ?_) (fun h35 => ?_)
           ·have g35 : ¬ (((addT l0 (IntKind.i64.wrap (1 + (andK IntKind.i64 x0.f1 63))) x0.f2).2 : Int) = 4) := bne_t h35
            refine step_g0 rfl h35 rfl ?_
            refine step_g0 rfl h35 rfl ?_
            refine step_g0 rfl h35 rfl ?_
            refine step_gf rfl rfl ?_
            refine step_gf rfl rfl ?_
            refine step_gf rfl rfl ?_
            refine step_gf rfl rfl ?_
            refine step_gf rfl rfl ?_
            refine step_gf rfl rfl ?_
            refine step_g0 rfl h35 rfl ?_
            refine step_g0 rfl h35 rfl ?_
            refine step_gf rfl rfl ?_
            refine step_gf rfl rfl ?_
            refine step_gf rfl rfl ?_
            refine step_gf rfl rfl ?_
            refine step_gf rfl rfl ?_
            refine step_g0 rfl h35 rfl ?_
            refine step_pickT rfl h35 rfl rfl ?_
            refine step_nil ?_
            refine seqK_n ?_
            refine sem_condT rfl ?_
            refine sem_seq ?_
            refine sem_region rfl ?_
            refine step_r rfl rfl trivial ?_
            refine step_nil ?_
            refine seqK_n ?_
            refine sem_ret ?_
            refine seqK_r ?_
            refine blkK_r ?_
            refine cutW_r ?_
            refine seqK_r ?_
            refine blkK_r ?_
            refine seqK_r ?_
            refine lupK_r ?_
            refine blkK_r ?_
            refine cutW_r ?_
            refine seqK_r ?_
            have e36 : stays19_J47 l0 k0 x0 = .inl false := by
             unfold stays19_J47
             try dsimp only
             rewrite [hJ14]
             try dsimp only
             rewrite [if_pos g20, if_pos g26, if_neg g28, if_neg g33, if_neg g35]
             all_goals rfl
            have e37 : stays19_L0 near steps 0 ([]) 0 = .inl false := by
             rewrite [← hI0, drop_cons hx0]
             rewrite [stays19_L0]
             try dsimp only
             rewrite [e36]
             try dsimp only
             all_goals rfl
            have e38 : stays19 steps near = false := by
             unfold stays19
             try dsimp only
             rewrite [if_neg g3, if_neg g6, e37]
             try dsimp only
             all_goals rfl
            rw [e38]
            exact answersR rfl ⟨trivial, trivial⟩ (rfl) rfl
           ·have g35 : ((addT l0 (IntKind.i64.wrap (1 + (andK IntKind.i64 x0.f1 63))) x0.f2).2 : Int) = 4 := bne_f h35
            refine step_g1 rfl h35 ?_
            refine step_r rfl rfl trivial ?_
            refine step_g1 rfl h35 ?_
            refine step_bin rfl rfl rfl rfl rfl trivial ?_
            refine step_g1 rfl h35 ?_
            refine step_r rfl rfl trivial ?_
            refine step_gs rfl (fun h40 => ?_) (fun h40 => ?_)
            ·have g40 : ((addT l0 (IntKind.i64.wrap (1 + (andK IntKind.i64 x0.f1 63))) x0.f2).2 : Int) = 0 := beq_t h40
             refine step_g1 rfl h40 ?_
             refine step_r rfl rfl trivial ?_
             refine step_g1 rfl h40 ?_
             refine step_r rfl rfl trivial ?_
             refine step_g1 rfl h40 ?_
             refine step_idxS (k := k0) rfl rfl rfl rfl hk0 (flat_ne (s := 3) (enc := encA3int) (fun _ => rfl) (by decide) hk0) rfl ?_
             refine step_g1 rfl h40 ?_
             refine step_r rfl rfl ⟨by decide, by decide⟩ ?_
             refine step_g1 rfl h40 ?_
             refine step_load_one rfl rfl rfl (flat_get (s := 3) (enc := encA3int) (fun _ => rfl) hx0 (o := 2) rfl (by decide)) rfl ?_
             refine step_g1 rfl h40 ?_
             refine step_bin rfl rfl rfl rfl rfl trivial ?_
             refine step_g1 rfl h35 ?_
             refine step_pickT rfl h40 rfl rfl ?_
             refine step_g1 rfl h35 ?_
             refine step_r rfl rfl trivial ?_
             refine step_gs rfl (fun h42 => ?_) (fun h42 => ?_)
             ·have g42 : (x0.f2 : Int) ≥ 0 := of_decide_eq_true h42
              refine step_g1 rfl h42 ?_
              refine step_r rfl rfl trivial ?_
              refine step_g1 rfl h42 ?_
              refine step_r rfl rfl trivial ?_
              refine step_g1 rfl h42 ?_
              refine step_callJ (Hin := [.row _ _ _]) (H' := [(1, .row _ _ _), (0, .row _ _ _)]) (nx' := 2) [1] rfl rfl rfl rfl rfl rfl rfl rfl rfl (by (repeat' apply And.intro) <;> first | trivial | rfl | exact flat_len (s := 3) (enc := encGThreat) (fun _ => rfl) _ | exact flat_len (fun _ => rfl) _ | exact encI_len _ | exact encB_len _ | exact encY_len _ | exact Nat.le_of_ble_eq_true rfl | assumption) (muchT_ok ((addT l0 (IntKind.i64.wrap (1 + (andK IntKind.i64 x0.f1 63))) x0.f2).1) false (IntKind.i64.wrap (1 + (andK IntKind.i64 x0.f1 63)))) rfl (by decide) rfl rfl trivial rfl rfl rfl rfl ?_
              refine step_g1 rfl h42 ?_
              refine step_r rfl rfl trivial ?_
              refine step_g1 rfl h42 ?_
              refine step_bin rfl rfl rfl rfl rfl trivial ?_
              refine step_g1 rfl h35 ?_
              refine step_pickT rfl h42 rfl rfl ?_
              refine step_pickF rfl h35 rfl rfl ?_
              refine step_nil ?_
              refine seqK_n ?_
              refine sem_cond rfl (fun h45 => ?_) (fun h45 => ?_)
              ·have g45 : (muchT ((addT l0 (IntKind.i64.wrap (1 + (andK IntKind.i64 x0.f1 63))) x0.f2).1) (IntKind.i64.wrap (1 + (andK IntKind.i64 x0.f1 63))) : Int) < (muchT l0 (IntKind.i64.wrap (1 + (andK IntKind.i64 x0.f1 63)))) := of_decide_eq_true h45
               refine sem_seq ?_
               refine sem_region rfl ?_
               refine step_r rfl rfl trivial ?_
               refine step_nil ?_
               refine seqK_n ?_
               refine sem_ret ?_
               refine seqK_r ?_
               refine blkK_r ?_
               refine cutW_r ?_
               refine seqK_r ?_
               refine blkK_r ?_
               refine seqK_r ?_
               refine lupK_r ?_
               refine blkK_r ?_
               refine cutW_r ?_
               refine seqK_r ?_
               have e46 : stays19_J47 l0 k0 x0 = .inl false := by
                unfold stays19_J47
                try dsimp only
                rewrite [hJ14]
                try dsimp only
                rewrite [if_pos g20, if_pos g26, if_neg g28, if_neg g33, if_pos g35, if_pos g40, if_pos g42, if_pos g45]
                all_goals rfl
               have e47 : stays19_L0 near steps 0 ([]) 0 = .inl false := by
                rewrite [← hI0, drop_cons hx0]
                rewrite [stays19_L0]
                try dsimp only
                rewrite [e46]
                try dsimp only
                all_goals rfl
               have e48 : stays19 steps near = false := by
                unfold stays19
                try dsimp only
                rewrite [if_neg g3, if_neg g6, e47]
                try dsimp only
                all_goals rfl
               rw [e48]
               exact answersR rfl ⟨trivial, trivial⟩ (rfl) rfl
              ·have g45 : ¬ ((muchT ((addT l0 (IntKind.i64.wrap (1 + (andK IntKind.i64 x0.f1 63))) x0.f2).1) (IntKind.i64.wrap (1 + (andK IntKind.i64 x0.f1 63))) : Int) < (muchT l0 (IntKind.i64.wrap (1 + (andK IntKind.i64 x0.f1 63))))) := of_decide_eq_false h45
               refine sem_skip ?_
               refine seqK_n ?_
               refine sem_seq ?_
               refine sem_region rfl ?_
               refine step_r rfl rfl trivial ?_
               refine step_bin rfl rfl rfl rfl rfl trivial ?_
               refine step_nil ?_
               refine seqK_n ?_
               refine sem_cond rfl (fun h49 => ?_) (fun h49 => ?_)
               ·have g49 : ((addT l0 (IntKind.i64.wrap (1 + (andK IntKind.i64 x0.f1 63))) x0.f2).2 : Int) = 0 := beq_t h49
                refine sem_region rfl ?_
                refine step_r rfl rfl trivial ?_
                refine step_r rfl rfl trivial ?_
                refine step_nil ?_
                refine blkK_n ?_
                have e50 : stays19_J47 l0 k0 x0 = .inr ((addT l0 (IntKind.i64.wrap (1 + (andK IntKind.i64 x0.f1 63))) x0.f2).1) := by
                 unfold stays19_J47
                 try dsimp only
                 rewrite [hJ14]
                 try dsimp only
                 rewrite [if_pos g20, if_pos g26, if_neg g28, if_neg g33, if_pos g35, if_pos g40, if_pos g42, if_neg g45, if_pos g49]
                 all_goals rfl
                exact cutW_n ((addT l0 (IntKind.i64.wrap (1 + (andK IntKind.i64 x0.f1 63))) x0.f2).1) ⟨e50, by first | assumption | omega | (simp; omega) | simp_all | grind⟩ (Trans.ren [(0, 1), (1, 0)] (by decide +kernel) (by decide +kernel) rfl ⟨⟨rfl, rfl⟩, ⟨rfl, rfl⟩, ⟨rfl, rfl⟩, ⟨rfl, rfl⟩, ⟨rfl, rfl⟩, ⟨rfl, rfl⟩, trivial⟩ ⟨⟨rfl, rfl, rfl⟩, trivial⟩ (by decide))
               ·have g49 : ¬ (((addT l0 (IntKind.i64.wrap (1 + (andK IntKind.i64 x0.f1 63))) x0.f2).2 : Int) = 0) := beq_f h49
                refine sem_skip ?_
                refine blkK_n ?_
                have e51 : stays19_J47 l0 k0 x0 = .inr l0 := by
                 unfold stays19_J47
                 try dsimp only
                 rewrite [hJ14]
                 try dsimp only
                 rewrite [if_pos g20, if_pos g26, if_neg g28, if_neg g33, if_pos g35, if_pos g40, if_pos g42, if_neg g45, if_neg g49]
                 all_goals rfl
                exact cutW_n l0 ⟨e51, by first | assumption | omega | (simp; omega) | simp_all | grind⟩ (Trans.ren [] (by decide +kernel) (by decide +kernel) rfl ⟨⟨rfl, rfl⟩, ⟨rfl, rfl⟩, ⟨rfl, rfl⟩, ⟨rfl, rfl⟩, ⟨rfl, rfl⟩, ⟨rfl, rfl⟩, trivial⟩ ⟨⟨rfl, rfl, rfl⟩, trivial⟩ (by decide))
             ·have g42 : ¬ ((x0.f2 : Int) ≥ 0) := of_decide_eq_false h42
              refine step_g0 rfl h42 rfl ?_
              refine step_g0 rfl h42 rfl ?_
              refine step_g0 rfl h42 rfl ?_
              refine step_g0 rfl h42 rfl ?_
              refine step_g0 rfl h42 rfl ?_
              refine step_g1 rfl h35 ?_
              refine step_pickF rfl h42 rfl rfl ?_
              refine step_pickF rfl h35 rfl rfl ?_
              refine step_nil ?_
              refine seqK_n ?_
              refine sem_condF rfl ?_
              refine sem_skip ?_
              refine seqK_n ?_
              refine sem_seq ?_
              refine sem_region rfl ?_
              refine step_r rfl rfl trivial ?_
              refine step_bin rfl rfl rfl rfl rfl trivial ?_
              refine step_nil ?_
              refine seqK_n ?_
              refine sem_cond rfl (fun h52 => ?_) (fun h52 => ?_)
              ·have g52 : ((addT l0 (IntKind.i64.wrap (1 + (andK IntKind.i64 x0.f1 63))) x0.f2).2 : Int) = 0 := beq_t h52
               refine sem_region rfl ?_
               refine step_r rfl rfl trivial ?_
               refine step_r rfl rfl trivial ?_
               refine step_nil ?_
               refine blkK_n ?_
               have e53 : stays19_J47 l0 k0 x0 = .inr ((addT l0 (IntKind.i64.wrap (1 + (andK IntKind.i64 x0.f1 63))) x0.f2).1) := by
                unfold stays19_J47
                try dsimp only
                rewrite [hJ14]
                try dsimp only
                rewrite [if_pos g20, if_pos g26, if_neg g28, if_neg g33, if_pos g35, if_pos g40, if_neg g42, if_pos g52]
                all_goals rfl
               exact cutW_n ((addT l0 (IntKind.i64.wrap (1 + (andK IntKind.i64 x0.f1 63))) x0.f2).1) ⟨e53, by first | assumption | omega | (simp; omega) | simp_all | grind⟩ (Trans.ren [(0, 1), (1, 0)] (by decide +kernel) (by decide +kernel) rfl ⟨⟨rfl, rfl⟩, ⟨rfl, rfl⟩, ⟨rfl, rfl⟩, ⟨rfl, rfl⟩, ⟨rfl, rfl⟩, ⟨rfl, rfl⟩, trivial⟩ ⟨⟨rfl, rfl, rfl⟩, trivial⟩ (by decide))
              ·have g52 : ¬ (((addT l0 (IntKind.i64.wrap (1 + (andK IntKind.i64 x0.f1 63))) x0.f2).2 : Int) = 0) := beq_f h52
               refine sem_skip ?_
               refine blkK_n ?_
               have e54 : stays19_J47 l0 k0 x0 = .inr l0 := by
                unfold stays19_J47
                try dsimp only
                rewrite [hJ14]
                try dsimp only
                rewrite [if_pos g20, if_pos g26, if_neg g28, if_neg g33, if_pos g35, if_pos g40, if_neg g42, if_neg g52]
                all_goals rfl
               exact cutW_n l0 ⟨e54, by first | assumption | omega | (simp; omega) | simp_all | grind⟩ (Trans.ren [] (by decide +kernel) (by decide +kernel) rfl ⟨⟨rfl, rfl⟩, ⟨rfl, rfl⟩, ⟨rfl, rfl⟩, ⟨rfl, rfl⟩, ⟨rfl, rfl⟩, ⟨rfl, rfl⟩, trivial⟩ ⟨⟨rfl, rfl, rfl⟩, trivial⟩ (by decide))
            ·have g40 : ¬ (((addT l0 (IntKind.i64.wrap (1 + (andK IntKind.i64 x0.f1 63))) x0.f2).2 : Int) = 0) := beq_f h40
             refine step_g0 rfl h40 rfl ?_
             refine step_g0 rfl h40 rfl ?_
             refine step_g0 rfl h40 rfl ?_
             refine step_g0 rfl h40 rfl ?_
             refine step_g0 rfl h40 rfl ?_
             refine step_g0 rfl h40 rfl ?_
             refine step_g1 rfl h35 ?_
             refine step_pickF rfl h40 rfl rfl ?_
             refine step_g1 rfl h35 ?_
             refine step_r rfl rfl trivial ?_
             refine step_gf rfl rfl ?_
             refine step_gf rfl rfl ?_
             refine step_gf rfl rfl ?_
             refine step_gf rfl rfl ?_
             refine step_gf rfl rfl ?_
             refine step_g1 rfl h35 ?_
             refine step_r rfl rfl trivial ?_
             refine step_pickF rfl h35 rfl rfl ?_
             refine step_nil ?_
             refine seqK_n ?_
             refine sem_condF rfl ?_
             refine sem_skip ?_
             refine seqK_n ?_
             refine sem_seq ?_
             refine sem_region rfl ?_
             refine step_r rfl rfl trivial ?_
             refine step_bin rfl rfl rfl rfl rfl trivial ?_
             refine step_nil ?_
             refine seqK_n ?_
             refine sem_cond rfl (fun h55 => ?_) (fun h55 => ?_)
             ·have g55 : ((addT l0 (IntKind.i64.wrap (1 + (andK IntKind.i64 x0.f1 63))) x0.f2).2 : Int) = 0 := beq_t h55
              refine sem_region rfl ?_
              refine step_r rfl rfl trivial ?_
              refine step_r rfl rfl trivial ?_
              refine step_nil ?_
              refine blkK_n ?_
              have e56 : stays19_J47 l0 k0 x0 = .inr ((addT l0 (IntKind.i64.wrap (1 + (andK IntKind.i64 x0.f1 63))) x0.f2).1) := by
               unfold stays19_J47
               try dsimp only
               rewrite [hJ14]
               try dsimp only
               rewrite [if_pos g20, if_pos g26, if_neg g28, if_neg g33, if_pos g35, if_neg g40, if_pos g55]
               all_goals rfl
              exact cutW_n ((addT l0 (IntKind.i64.wrap (1 + (andK IntKind.i64 x0.f1 63))) x0.f2).1) ⟨e56, by first | assumption | omega | (simp; omega) | simp_all | grind⟩ (Trans.ren [(0, 1), (1, 0)] (by decide +kernel) (by decide +kernel) rfl ⟨⟨rfl, rfl⟩, ⟨rfl, rfl⟩, ⟨rfl, rfl⟩, ⟨rfl, rfl⟩, ⟨rfl, rfl⟩, ⟨rfl, rfl⟩, trivial⟩ ⟨⟨rfl, rfl, rfl⟩, trivial⟩ (by decide))
             ·have g55 : ¬ (((addT l0 (IntKind.i64.wrap (1 + (andK IntKind.i64 x0.f1 63))) x0.f2).2 : Int) = 0) := beq_f h55
              refine sem_skip ?_
              refine blkK_n ?_
              have e57 : stays19_J47 l0 k0 x0 = .inr l0 := by
               unfold stays19_J47
               try dsimp only
               rewrite [hJ14]
               try dsimp only
               rewrite [if_pos g20, if_pos g26, if_neg g28, if_neg g33, if_pos g35, if_neg g40, if_neg g55]
               all_goals rfl
              exact cutW_n l0 ⟨e57, by first | assumption | omega | (simp; omega) | simp_all | grind⟩ (Trans.ren [] (by decide +kernel) (by decide +kernel) rfl ⟨⟨rfl, rfl⟩, ⟨rfl, rfl⟩, ⟨rfl, rfl⟩, ⟨rfl, rfl⟩, ⟨rfl, rfl⟩, ⟨rfl, rfl⟩, trivial⟩ ⟨⟨rfl, rfl, rfl⟩, trivial⟩ (by decide))
          ·have g33 : ((addT l0 (IntKind.i64.wrap (1 + (andK IntKind.i64 x0.f1 63))) x0.f2).2 : Int) = 0 := bne_f h33
           refine step_g0 rfl h33 rfl ?_
           refine step_g0 rfl h33 rfl ?_
           refine step_g1 rfl h28 ?_
           refine step_pickF rfl h33 rfl rfl ?_
           refine step_pickF rfl h28 rfl rfl ?_
           refine step_r rfl rfl trivial ?_
           refine step_gt rfl ?_
           refine step_r rfl rfl trivial ?_
           refine step_gt rfl ?_
           refine step_bin rfl rfl rfl rfl rfl trivial ?_
           refine step_gt rfl ?_
           refine step_r rfl rfl trivial ?_
           refine step_gs rfl (fun h59 => ?_) (fun h59 => ?_)
           ·have g59 : ((addT l0 (IntKind.i64.wrap (1 + (andK IntKind.i64 x0.f1 63))) x0.f2).2 : Int) = 0 := beq_t h59
            refine step_g1 rfl h59 ?_
            refine step_r rfl rfl trivial ?_
            refine step_g1 rfl h59 ?_
            refine step_r rfl rfl trivial ?_
            refine step_g1 rfl h59 ?_
            refine step_idxS (k := k0) rfl rfl rfl rfl hk0 (flat_ne (s := 3) (enc := encA3int) (fun _ => rfl) (by decide) hk0) rfl ?_
            refine step_g1 rfl h59 ?_
            refine step_r rfl rfl ⟨by decide, by decide⟩ ?_
            refine step_g1 rfl h59 ?_
            refine step_load_one rfl rfl rfl (flat_get (s := 3) (enc := encA3int) (fun _ => rfl) hx0 (o := 2) rfl (by decide)) rfl ?_
            refine step_g1 rfl h59 ?_
            refine step_bin rfl rfl rfl rfl rfl trivial ?_
            refine step_gt rfl ?_
            refine step_pickT rfl h59 rfl rfl ?_
            refine step_gt rfl ?_
            refine step_r rfl rfl trivial ?_
            refine step_gs rfl (fun h61 => ?_) (fun h61 => ?_)
            ·have g61 : (x0.f2 : Int) ≥ 0 := of_decide_eq_true h61
             refine step_g1 rfl h61 ?_
             refine step_r rfl rfl trivial ?_
             refine step_g1 rfl h61 ?_
             refine step_r rfl rfl trivial ?_
             refine step_g1 rfl h61 ?_
             refine step_callJ (Hin := [.row _ _ _]) (H' := [(1, .row _ _ _), (0, .row _ _ _)]) (nx' := 2) [1] rfl rfl rfl rfl rfl rfl rfl rfl rfl (by (repeat' apply And.intro) <;> first | trivial | rfl | exact flat_len (s := 3) (enc := encGThreat) (fun _ => rfl) _ | exact flat_len (fun _ => rfl) _ | exact encI_len _ | exact encB_len _ | exact encY_len _ | exact Nat.le_of_ble_eq_true rfl | assumption) (muchT_ok ((addT l0 (IntKind.i64.wrap (1 + (andK IntKind.i64 x0.f1 63))) x0.f2).1) false (IntKind.i64.wrap (1 + (andK IntKind.i64 x0.f1 63)))) rfl (by decide) rfl rfl trivial rfl rfl rfl rfl ?_
             refine step_g1 rfl h61 ?_
             refine step_r rfl rfl trivial ?_
             refine step_g1 rfl h61 ?_
             refine step_bin rfl rfl rfl rfl rfl trivial ?_
             refine step_gt rfl ?_
             refine step_pickT rfl h61 rfl rfl ?_
             refine step_r rfl rfl trivial ?_
             refine step_nil ?_
             refine seqK_n ?_
             refine sem_cond rfl (fun h64 => ?_) (fun h64 => ?_)
             ·have g64 : (muchT ((addT l0 (IntKind.i64.wrap (1 + (andK IntKind.i64 x0.f1 63))) x0.f2).1) (IntKind.i64.wrap (1 + (andK IntKind.i64 x0.f1 63))) : Int) < (muchT l0 (IntKind.i64.wrap (1 + (andK IntKind.i64 x0.f1 63)))) := of_decide_eq_true h64
              refine sem_seq ?_
              refine sem_region rfl ?_
              refine step_r rfl rfl trivial ?_
              refine step_nil ?_
              refine seqK_n ?_
              refine sem_ret ?_
              refine seqK_r ?_
              refine blkK_r ?_
              refine cutW_r ?_
              refine seqK_r ?_
              refine blkK_r ?_
              refine seqK_r ?_
              refine lupK_r ?_
              refine blkK_r ?_
              refine cutW_r ?_
              refine seqK_r ?_
              have e65 : stays19_J47 l0 k0 x0 = .inl false := by
               unfold stays19_J47
               try dsimp only
               rewrite [hJ14]
               try dsimp only
               rewrite [if_pos g20, if_pos g26, if_neg g28, if_pos g33, if_pos g59, if_pos g61, if_pos g64]
               all_goals rfl
              have e66 : stays19_L0 near steps 0 ([]) 0 = .inl false := by
               rewrite [← hI0, drop_cons hx0]
               rewrite [stays19_L0]
               try dsimp only
               rewrite [e65]
               try dsimp only
               all_goals rfl
              have e67 : stays19 steps near = false := by
               unfold stays19
               try dsimp only
               rewrite [if_neg g3, if_neg g6, e66]
               try dsimp only
               all_goals rfl
              rw [e67]
              exact answersR rfl ⟨trivial, trivial⟩ (rfl) rfl
             ·have g64 : ¬ ((muchT ((addT l0 (IntKind.i64.wrap (1 + (andK IntKind.i64 x0.f1 63))) x0.f2).1) (IntKind.i64.wrap (1 + (andK IntKind.i64 x0.f1 63))) : Int) < (muchT l0 (IntKind.i64.wrap (1 + (andK IntKind.i64 x0.f1 63))))) := of_decide_eq_false h64
              refine sem_skip ?_
              refine seqK_n ?_
              refine sem_seq ?_
              refine sem_region rfl ?_
              refine step_r rfl rfl trivial ?_
              refine step_bin rfl rfl rfl rfl rfl trivial ?_
              refine step_nil ?_
              refine seqK_n ?_
              refine sem_cond rfl (fun h68 => ?_) (fun h68 => ?_)
              ·have g68 : ((addT l0 (IntKind.i64.wrap (1 + (andK IntKind.i64 x0.f1 63))) x0.f2).2 : Int) = 0 := beq_t h68
               refine sem_region rfl ?_
               refine step_r rfl rfl trivial ?_
               refine step_r rfl rfl trivial ?_
               refine step_nil ?_
               refine blkK_n ?_
               have e69 : stays19_J47 l0 k0 x0 = .inr ((addT l0 (IntKind.i64.wrap (1 + (andK IntKind.i64 x0.f1 63))) x0.f2).1) := by
                unfold stays19_J47
                try dsimp only
                rewrite [hJ14]
                try dsimp only
                rewrite [if_pos g20, if_pos g26, if_neg g28, if_pos g33, if_pos g59, if_pos g61, if_neg g64, if_pos g68]
                all_goals rfl
               exact cutW_n ((addT l0 (IntKind.i64.wrap (1 + (andK IntKind.i64 x0.f1 63))) x0.f2).1) ⟨e69, by first | assumption | omega | (simp; omega) | simp_all | grind⟩ (Trans.ren [(0, 1), (1, 0)] (by decide +kernel) (by decide +kernel) rfl ⟨⟨rfl, rfl⟩, ⟨rfl, rfl⟩, ⟨rfl, rfl⟩, ⟨rfl, rfl⟩, ⟨rfl, rfl⟩, ⟨rfl, rfl⟩, trivial⟩ ⟨⟨rfl, rfl, rfl⟩, trivial⟩ (by decide))
              ·have g68 : ¬ (((addT l0 (IntKind.i64.wrap (1 + (andK IntKind.i64 x0.f1 63))) x0.f2).2 : Int) = 0) := beq_f h68
               refine sem_skip ?_
               refine blkK_n ?_
               have e70 : stays19_J47 l0 k0 x0 = .inr l0 := by
                unfold stays19_J47
                try dsimp only
                rewrite [hJ14]
                try dsimp only
                rewrite [if_pos g20, if_pos g26, if_neg g28, if_pos g33, if_pos g59, if_pos g61, if_neg g64, if_neg g68]
                all_goals rfl
               exact cutW_n l0 ⟨e70, by first | assumption | omega | (simp; omega) | simp_all | grind⟩ (Trans.ren [] (by decide +kernel) (by decide +kernel) rfl ⟨⟨rfl, rfl⟩, ⟨rfl, rfl⟩, ⟨rfl, rfl⟩, ⟨rfl, rfl⟩, ⟨rfl, rfl⟩, ⟨rfl, rfl⟩, trivial⟩ ⟨⟨rfl, rfl, rfl⟩, trivial⟩ (by decide))
            ·have g61 : ¬ ((x0.f2 : Int) ≥ 0) := of_decide_eq_false h61
             refine step_g0 rfl h61 rfl ?_
             refine step_g0 rfl h61 rfl ?_
             refine step_g0 rfl h61 rfl ?_
             refine step_g0 rfl h61 rfl ?_
             refine step_g0 rfl h61 rfl ?_
             refine step_gt rfl ?_
             refine step_pickF rfl h61 rfl rfl ?_
             refine step_r rfl rfl trivial ?_
             refine step_nil ?_
             refine seqK_n ?_
             refine sem_condF rfl ?_
             refine sem_skip ?_
             refine seqK_n ?_
             refine sem_seq ?_
             refine sem_region rfl ?_
             refine step_r rfl rfl trivial ?_
             refine step_bin rfl rfl rfl rfl rfl trivial ?_
             refine step_nil ?_
             refine seqK_n ?_
             refine sem_cond rfl (fun h71 => ?_) (fun h71 => ?_)
             ·have g71 : ((addT l0 (IntKind.i64.wrap (1 + (andK IntKind.i64 x0.f1 63))) x0.f2).2 : Int) = 0 := beq_t h71
              refine sem_region rfl ?_
              refine step_r rfl rfl trivial ?_
              refine step_r rfl rfl trivial ?_
              refine step_nil ?_
              refine blkK_n ?_
              have e72 : stays19_J47 l0 k0 x0 = .inr ((addT l0 (IntKind.i64.wrap (1 + (andK IntKind.i64 x0.f1 63))) x0.f2).1) := by
               unfold stays19_J47
               try dsimp only
               rewrite [hJ14]
               try dsimp only
               rewrite [if_pos g20, if_pos g26, if_neg g28, if_pos g33, if_pos g59, if_neg g61, if_pos g71]
               all_goals rfl
              exact cutW_n ((addT l0 (IntKind.i64.wrap (1 + (andK IntKind.i64 x0.f1 63))) x0.f2).1) ⟨e72, by first | assumption | omega | (simp; omega) | simp_all | grind⟩ (Trans.ren [(0, 1), (1, 0)] (by decide +kernel) (by decide +kernel) rfl ⟨⟨rfl, rfl⟩, ⟨rfl, rfl⟩, ⟨rfl, rfl⟩, ⟨rfl, rfl⟩, ⟨rfl, rfl⟩, ⟨rfl, rfl⟩, trivial⟩ ⟨⟨rfl, rfl, rfl⟩, trivial⟩ (by decide))
             ·have g71 : ¬ (((addT l0 (IntKind.i64.wrap (1 + (andK IntKind.i64 x0.f1 63))) x0.f2).2 : Int) = 0) := beq_f h71
              refine sem_skip ?_
              refine blkK_n ?_
              have e73 : stays19_J47 l0 k0 x0 = .inr l0 := by
               unfold stays19_J47
               try dsimp only
               rewrite [hJ14]
               try dsimp only
               rewrite [if_pos g20, if_pos g26, if_neg g28, if_pos g33, if_pos g59, if_neg g61, if_neg g71]
               all_goals rfl
              exact cutW_n l0 ⟨e73, by first | assumption | omega | (simp; omega) | simp_all | grind⟩ (Trans.ren [] (by decide +kernel) (by decide +kernel) rfl ⟨⟨rfl, rfl⟩, ⟨rfl, rfl⟩, ⟨rfl, rfl⟩, ⟨rfl, rfl⟩, ⟨rfl, rfl⟩, ⟨rfl, rfl⟩, trivial⟩ ⟨⟨rfl, rfl, rfl⟩, trivial⟩ (by decide))
           ·have g59 : ¬ (((addT l0 (IntKind.i64.wrap (1 + (andK IntKind.i64 x0.f1 63))) x0.f2).2 : Int) = 0) := beq_f h59
            refine step_g0 rfl h59 rfl ?_
            refine step_g0 rfl h59 rfl ?_
            refine step_g0 rfl h59 rfl ?_
            refine step_g0 rfl h59 rfl ?_
            refine step_g0 rfl h59 rfl ?_
            refine step_g0 rfl h59 rfl ?_
            refine step_gt rfl ?_
            refine step_pickF rfl h59 rfl rfl ?_
            refine step_gt rfl ?_
            refine step_r rfl rfl trivial ?_
            refine step_gf rfl rfl ?_
            refine step_gf rfl rfl ?_
            refine step_gf rfl rfl ?_
            refine step_gf rfl rfl ?_
            refine step_gf rfl rfl ?_
            refine step_gt rfl ?_
            refine step_r rfl rfl trivial ?_
            refine step_r rfl rfl trivial ?_
            refine step_nil ?_
            refine seqK_n ?_
            refine sem_condF rfl ?_
            refine sem_skip ?_
            refine seqK_n ?_
            refine sem_seq ?_
            refine sem_region rfl ?_
            refine step_r rfl rfl trivial ?_
            refine step_bin rfl rfl rfl rfl rfl trivial ?_
            refine step_nil ?_
            refine seqK_n ?_
            refine sem_cond rfl (fun h74 => ?_) (fun h74 => ?_)
            ·have g74 : ((addT l0 (IntKind.i64.wrap (1 + (andK IntKind.i64 x0.f1 63))) x0.f2).2 : Int) = 0 := beq_t h74
             refine sem_region rfl ?_
             refine step_r rfl rfl trivial ?_
             refine step_r rfl rfl trivial ?_
             refine step_nil ?_
             refine blkK_n ?_
             have e75 : stays19_J47 l0 k0 x0 = .inr ((addT l0 (IntKind.i64.wrap (1 + (andK IntKind.i64 x0.f1 63))) x0.f2).1) := by
              unfold stays19_J47
              try dsimp only
              rewrite [hJ14]
              try dsimp only
              rewrite [if_pos g20, if_pos g26, if_neg g28, if_pos g33, if_neg g59, if_pos g74]
              all_goals rfl
             exact cutW_n ((addT l0 (IntKind.i64.wrap (1 + (andK IntKind.i64 x0.f1 63))) x0.f2).1) ⟨e75, by first | assumption | omega | (simp; omega) | simp_all | grind⟩ (Trans.ren [(0, 1), (1, 0)] (by decide +kernel) (by decide +kernel) rfl ⟨⟨rfl, rfl⟩, ⟨rfl, rfl⟩, ⟨rfl, rfl⟩, ⟨rfl, rfl⟩, ⟨rfl, rfl⟩, ⟨rfl, rfl⟩, trivial⟩ ⟨⟨rfl, rfl, rfl⟩, trivial⟩ (by decide))
            ·have g74 : ¬ (((addT l0 (IntKind.i64.wrap (1 + (andK IntKind.i64 x0.f1 63))) x0.f2).2 : Int) = 0) := beq_f h74
             refine sem_skip ?_
             refine blkK_n ?_
             have e76 : stays19_J47 l0 k0 x0 = .inr l0 := by
              unfold stays19_J47
              try dsimp only
              rewrite [hJ14]
              try dsimp only
              rewrite [if_pos g20, if_pos g26, if_neg g28, if_pos g33, if_neg g59, if_neg g74]
              all_goals rfl
             exact cutW_n l0 ⟨e76, by first | assumption | omega | (simp; omega) | simp_all | grind⟩ (Trans.ren [] (by decide +kernel) (by decide +kernel) rfl ⟨⟨rfl, rfl⟩, ⟨rfl, rfl⟩, ⟨rfl, rfl⟩, ⟨rfl, rfl⟩, ⟨rfl, rfl⟩, ⟨rfl, rfl⟩, trivial⟩ ⟨⟨rfl, rfl, rfl⟩, trivial⟩ (by decide))
        ·have g26 : ¬ (((addT l0 (IntKind.i64.wrap (1 + (andK IntKind.i64 x0.f1 63))) x0.f2).2 : Int) = 4) := beq_f h26
         refine step_g0 rfl h26 rfl ?_
         refine step_g0 rfl h26 rfl ?_
         refine step_g0 rfl h26 rfl ?_
         refine step_pickF rfl h26 rfl rfl ?_
         refine step_r rfl rfl trivial ?_
         refine step_gt rfl ?_
         refine step_r rfl rfl trivial ?_
         refine step_gt rfl ?_
         refine step_bin rfl rfl rfl rfl rfl trivial ?_
         refine step_gt rfl ?_
         refine step_r rfl rfl trivial ?_
         refine step_gs rfl (fun h78 => ?_) (fun h78 => ?_)
         ·have g78 : ¬ (((addT l0 (IntKind.i64.wrap (1 + (andK IntKind.i64 x0.f1 63))) x0.f2).2 : Int) = 0) := bne_t h78
          refine step_g1 rfl h78 ?_
          refine step_r rfl rfl trivial ?_
          refine step_g1 rfl h78 ?_
          refine step_bin rfl rfl rfl rfl rfl trivial ?_
          refine step_gt rfl ?_
          refine step_pickT rfl h78 rfl rfl ?_
          refine step_r rfl rfl trivial ?_
          refine step_r rfl rfl trivial ?_
          refine step_gs rfl (fun h80 => ?_) (fun h80 => ?_)
          ·have g80 : ¬ (((addT l0 (IntKind.i64.wrap (1 + (andK IntKind.i64 x0.f1 63))) x0.f2).2 : Int) = 4) := bne_t h80
           refine step_g0 rfl h80 rfl ?_
           refine step_g0 rfl h80 rfl ?_
           refine step_g0 rfl h80 rfl ?_
           refine step_gf rfl rfl ?_
           refine step_gf rfl rfl ?_
           refine step_gf rfl rfl ?_
           refine step_gf rfl rfl ?_
           refine step_gf rfl rfl ?_
           refine step_gf rfl rfl ?_
           refine step_g0 rfl h80 rfl ?_
           refine step_g0 rfl h80 rfl ?_
           refine step_gf rfl rfl ?_
           refine step_gf rfl rfl ?_
           refine step_gf rfl rfl ?_
           refine step_gf rfl rfl ?_
           refine step_gf rfl rfl ?_
           refine step_g0 rfl h80 rfl ?_
           refine step_pickT rfl h80 rfl rfl ?_
           refine step_nil ?_
           refine seqK_n ?_
           refine sem_condT rfl ?_
           refine sem_seq ?_
           refine sem_region rfl ?_
           refine step_r rfl rfl trivial ?_
           refine step_nil ?_
           refine seqK_n ?_
           refine sem_ret ?_
           refine seqK_r ?_
           refine blkK_r ?_
           refine cutW_r ?_
           refine seqK_r ?_
           refine blkK_r ?_
           refine seqK_r ?_
           refine lupK_r ?_
           refine blkK_r ?_
           refine cutW_r ?_
           refine seqK_r ?_
           have e81 : stays19_J47 l0 k0 x0 = .inl false := by
            unfold stays19_J47
            try dsimp only
            rewrite [hJ14]
            try dsimp only
            rewrite [if_pos g20, if_neg g26, if_neg g78, if_neg g80]
            all_goals rfl
           have e82 : stays19_L0 near steps 0 ([]) 0 = .inl false := by
            rewrite [← hI0, drop_cons hx0]
            rewrite [stays19_L0]
            try dsimp only
            rewrite [e81]
            try dsimp only
            all_goals rfl
           have e83 : stays19 steps near = false := by
            unfold stays19
            try dsimp only
            rewrite [if_neg g3, if_neg g6, e82]
            try dsimp only
            all_goals rfl
           rw [e83]
           exact answersR rfl ⟨trivial, trivial⟩ (rfl) rfl
          ·have g80 : ((addT l0 (IntKind.i64.wrap (1 + (andK IntKind.i64 x0.f1 63))) x0.f2).2 : Int) = 4 := bne_f h80
           refine step_g1 rfl h80 ?_
           refine step_r rfl rfl trivial ?_
           refine step_g1 rfl h80 ?_
           refine step_bin rfl rfl rfl rfl rfl trivial ?_
           refine step_g1 rfl h80 ?_
           refine step_r rfl rfl trivial ?_
           refine step_gs rfl (fun h85 => ?_) (fun h85 => ?_)
           ·have g85 : ((addT l0 (IntKind.i64.wrap (1 + (andK IntKind.i64 x0.f1 63))) x0.f2).2 : Int) = 0 := beq_t h85
            refine step_g1 rfl h85 ?_
            refine step_r rfl rfl trivial ?_
            refine step_g1 rfl h85 ?_
            refine step_r rfl rfl trivial ?_
            refine step_g1 rfl h85 ?_
            refine step_idxS (k := k0) rfl rfl rfl rfl hk0 (flat_ne (s := 3) (enc := encA3int) (fun _ => rfl) (by decide) hk0) rfl ?_
            refine step_g1 rfl h85 ?_
            refine step_r rfl rfl ⟨by decide, by decide⟩ ?_
            refine step_g1 rfl h85 ?_
            refine step_load_one rfl rfl rfl (flat_get (s := 3) (enc := encA3int) (fun _ => rfl) hx0 (o := 2) rfl (by decide)) rfl ?_
            refine step_g1 rfl h85 ?_
            refine step_bin rfl rfl rfl rfl rfl trivial ?_
            refine step_g1 rfl h80 ?_
            refine step_pickT rfl h85 rfl rfl ?_
            refine step_g1 rfl h80 ?_
            refine step_r rfl rfl trivial ?_
            refine step_gs rfl (fun h87 => ?_) (fun h87 => ?_)
            ·have g87 : (x0.f2 : Int) ≥ 0 := of_decide_eq_true h87
             refine step_g1 rfl h87 ?_
             refine step_r rfl rfl trivial ?_
             refine step_g1 rfl h87 ?_
             refine step_r rfl rfl trivial ?_
             refine step_g1 rfl h87 ?_
             refine step_callJ (Hin := [.row _ _ _]) (H' := [(1, .row _ _ _), (0, .row _ _ _)]) (nx' := 2) [1] rfl rfl rfl rfl rfl rfl rfl rfl rfl (by (repeat' apply And.intro) <;> first | trivial | rfl | exact flat_len (s := 3) (enc := encGThreat) (fun _ => rfl) _ | exact flat_len (fun _ => rfl) _ | exact encI_len _ | exact encB_len _ | exact encY_len _ | exact Nat.le_of_ble_eq_true rfl | assumption) (muchT_ok ((addT l0 (IntKind.i64.wrap (1 + (andK IntKind.i64 x0.f1 63))) x0.f2).1) false (IntKind.i64.wrap (1 + (andK IntKind.i64 x0.f1 63)))) rfl (by decide) rfl rfl trivial rfl rfl rfl rfl ?_
             refine step_g1 rfl h87 ?_
             refine step_r rfl rfl trivial ?_
             refine step_g1 rfl h87 ?_
             refine step_bin rfl rfl rfl rfl rfl trivial ?_
             refine step_g1 rfl h80 ?_
             refine step_pickT rfl h87 rfl rfl ?_
             refine step_pickF rfl h80 rfl rfl ?_
             refine step_nil ?_
             refine seqK_n ?_
             refine sem_cond rfl (fun h90 => ?_) (fun h90 => ?_)
             ·have g90 : (muchT ((addT l0 (IntKind.i64.wrap (1 + (andK IntKind.i64 x0.f1 63))) x0.f2).1) (IntKind.i64.wrap (1 + (andK IntKind.i64 x0.f1 63))) : Int) < (muchT l0 (IntKind.i64.wrap (1 + (andK IntKind.i64 x0.f1 63)))) := of_decide_eq_true h90
              refine sem_seq ?_
              refine sem_region rfl ?_
              refine step_r rfl rfl trivial ?_
              refine step_nil ?_
              refine seqK_n ?_
              refine sem_ret ?_
              refine seqK_r ?_
              refine blkK_r ?_
              refine cutW_r ?_
              refine seqK_r ?_
              refine blkK_r ?_
              refine seqK_r ?_
              refine lupK_r ?_
              refine blkK_r ?_
              refine cutW_r ?_
              refine seqK_r ?_
              have e91 : stays19_J47 l0 k0 x0 = .inl false := by
               unfold stays19_J47
               try dsimp only
               rewrite [hJ14]
               try dsimp only
               rewrite [if_pos g20, if_neg g26, if_neg g78, if_pos g80, if_pos g85, if_pos g87, if_pos g90]
               all_goals rfl
              have e92 : stays19_L0 near steps 0 ([]) 0 = .inl false := by
               rewrite [← hI0, drop_cons hx0]
               rewrite [stays19_L0]
               try dsimp only
               rewrite [e91]
               try dsimp only
               all_goals rfl
              have e93 : stays19 steps near = false := by
               unfold stays19
               try dsimp only
               rewrite [if_neg g3, if_neg g6, e92]
               try dsimp only
               all_goals rfl
              rw [e93]
              exact answersR rfl ⟨trivial, trivial⟩ (rfl) rfl
             ·have g90 : ¬ ((muchT ((addT l0 (IntKind.i64.wrap (1 + (andK IntKind.i64 x0.f1 63))) x0.f2).1) (IntKind.i64.wrap (1 + (andK IntKind.i64 x0.f1 63))) : Int) < (muchT l0 (IntKind.i64.wrap (1 + (andK IntKind.i64 x0.f1 63))))) := of_decide_eq_false h90
              refine sem_skip ?_
              refine seqK_n ?_
              refine sem_seq ?_
              refine sem_region rfl ?_
              refine step_r rfl rfl trivial ?_
              refine step_bin rfl rfl rfl rfl rfl trivial ?_
              refine step_nil ?_
              refine seqK_n ?_
              refine sem_cond rfl (fun h94 => ?_) (fun h94 => ?_)
              ·have g94 : ((addT l0 (IntKind.i64.wrap (1 + (andK IntKind.i64 x0.f1 63))) x0.f2).2 : Int) = 0 := beq_t h94
               refine sem_region rfl ?_
               refine step_r rfl rfl trivial ?_
               refine step_r rfl rfl trivial ?_
               refine step_nil ?_
               refine blkK_n ?_
               have e95 : stays19_J47 l0 k0 x0 = .inr ((addT l0 (IntKind.i64.wrap (1 + (andK IntKind.i64 x0.f1 63))) x0.f2).1) := by
                unfold stays19_J47
                try dsimp only
                rewrite [hJ14]
                try dsimp only
                rewrite [if_pos g20, if_neg g26, if_neg g78, if_pos g80, if_pos g85, if_pos g87, if_neg g90, if_pos g94]
                all_goals rfl
               exact cutW_n ((addT l0 (IntKind.i64.wrap (1 + (andK IntKind.i64 x0.f1 63))) x0.f2).1) ⟨e95, by first | assumption | omega | (simp; omega) | simp_all | grind⟩ (Trans.ren [(0, 1), (1, 0)] (by decide +kernel) (by decide +kernel) rfl ⟨⟨rfl, rfl⟩, ⟨rfl, rfl⟩, ⟨rfl, rfl⟩, ⟨rfl, rfl⟩, ⟨rfl, rfl⟩, ⟨rfl, rfl⟩, trivial⟩ ⟨⟨rfl, rfl, rfl⟩, trivial⟩ (by decide))
              ·have g94 : ¬ (((addT l0 (IntKind.i64.wrap (1 + (andK IntKind.i64 x0.f1 63))) x0.f2).2 : Int) = 0) := beq_f h94
               refine sem_skip ?_
               refine blkK_n ?_
               have e96 : stays19_J47 l0 k0 x0 = .inr l0 := by
                unfold stays19_J47
                try dsimp only
                rewrite [hJ14]
                try dsimp only
                rewrite [if_pos g20, if_neg g26, if_neg g78, if_pos g80, if_pos g85, if_pos g87, if_neg g90, if_neg g94]
                all_goals rfl
               exact cutW_n l0 ⟨e96, by first | assumption | omega | (simp; omega) | simp_all | grind⟩ (Trans.ren [] (by decide +kernel) (by decide +kernel) rfl ⟨⟨rfl, rfl⟩, ⟨rfl, rfl⟩, ⟨rfl, rfl⟩, ⟨rfl, rfl⟩, ⟨rfl, rfl⟩, ⟨rfl, rfl⟩, trivial⟩ ⟨⟨rfl, rfl, rfl⟩, trivial⟩ (by decide))
            ·have g87 : ¬ ((x0.f2 : Int) ≥ 0) := of_decide_eq_false h87
             refine step_g0 rfl h87 rfl ?_
             refine step_g0 rfl h87 rfl ?_
             refine step_g0 rfl h87 rfl ?_
             refine step_g0 rfl h87 rfl ?_
             refine step_g0 rfl h87 rfl ?_
             refine step_g1 rfl h80 ?_
             refine step_pickF rfl h87 rfl rfl ?_
             refine step_pickF rfl h80 rfl rfl ?_
             refine step_nil ?_
             refine seqK_n ?_
             refine sem_condF rfl ?_
             refine sem_skip ?_
             refine seqK_n ?_
             refine sem_seq ?_
             refine sem_region rfl ?_
             refine step_r rfl rfl trivial ?_
             refine step_bin rfl rfl rfl rfl rfl trivial ?_
             refine step_nil ?_
             refine seqK_n ?_
             refine sem_cond rfl (fun h97 => ?_) (fun h97 => ?_)
             ·have g97 : ((addT l0 (IntKind.i64.wrap (1 + (andK IntKind.i64 x0.f1 63))) x0.f2).2 : Int) = 0 := beq_t h97
              refine sem_region rfl ?_
              refine step_r rfl rfl trivial ?_
              refine step_r rfl rfl trivial ?_
              refine step_nil ?_
              refine blkK_n ?_
              have e98 : stays19_J47 l0 k0 x0 = .inr ((addT l0 (IntKind.i64.wrap (1 + (andK IntKind.i64 x0.f1 63))) x0.f2).1) := by
               unfold stays19_J47
               try dsimp only
               rewrite [hJ14]
               try dsimp only
               rewrite [if_pos g20, if_neg g26, if_neg g78, if_pos g80, if_pos g85, if_neg g87, if_pos g97]
               all_goals rfl
              exact cutW_n ((addT l0 (IntKind.i64.wrap (1 + (andK IntKind.i64 x0.f1 63))) x0.f2).1) ⟨e98, by first | assumption | omega | (simp; omega) | simp_all | grind⟩ (Trans.ren [(0, 1), (1, 0)] (by decide +kernel) (by decide +kernel) rfl ⟨⟨rfl, rfl⟩, ⟨rfl, rfl⟩, ⟨rfl, rfl⟩, ⟨rfl, rfl⟩, ⟨rfl, rfl⟩, ⟨rfl, rfl⟩, trivial⟩ ⟨⟨rfl, rfl, rfl⟩, trivial⟩ (by decide))
             ·have g97 : ¬ (((addT l0 (IntKind.i64.wrap (1 + (andK IntKind.i64 x0.f1 63))) x0.f2).2 : Int) = 0) := beq_f h97
              refine sem_skip ?_
              refine blkK_n ?_
              have e99 : stays19_J47 l0 k0 x0 = .inr l0 := by
               unfold stays19_J47
               try dsimp only
               rewrite [hJ14]
               try dsimp only
               rewrite [if_pos g20, if_neg g26, if_neg g78, if_pos g80, if_pos g85, if_neg g87, if_neg g97]
               all_goals rfl
              exact cutW_n l0 ⟨e99, by first | assumption | omega | (simp; omega) | simp_all | grind⟩ (Trans.ren [] (by decide +kernel) (by decide +kernel) rfl ⟨⟨rfl, rfl⟩, ⟨rfl, rfl⟩, ⟨rfl, rfl⟩, ⟨rfl, rfl⟩, ⟨rfl, rfl⟩, ⟨rfl, rfl⟩, trivial⟩ ⟨⟨rfl, rfl, rfl⟩, trivial⟩ (by decide))
           ·have g85 : ¬ (((addT l0 (IntKind.i64.wrap (1 + (andK IntKind.i64 x0.f1 63))) x0.f2).2 : Int) = 0) := beq_f h85
            refine step_g0 rfl h85 rfl ?_
            refine step_g0 rfl h85 rfl ?_
            refine step_g0 rfl h85 rfl ?_
            refine step_g0 rfl h85 rfl ?_
            refine step_g0 rfl h85 rfl ?_
            refine step_g0 rfl h85 rfl ?_
            refine step_g1 rfl h80 ?_
            refine step_pickF rfl h85 rfl rfl ?_
            refine step_g1 rfl h80 ?_
            refine step_r rfl rfl trivial ?_
            refine step_gf rfl rfl ?_
            refine step_gf rfl rfl ?_
            refine step_gf rfl rfl ?_
            refine step_gf rfl rfl ?_
            refine step_gf rfl rfl ?_
            refine step_g1 rfl h80 ?_
            refine step_r rfl rfl trivial ?_
            refine step_pickF rfl h80 rfl rfl ?_
            refine step_nil ?_
            refine seqK_n ?_
            refine sem_condF rfl ?_
            refine sem_skip ?_
            refine seqK_n ?_
            refine sem_seq ?_
            refine sem_region rfl ?_
            refine step_r rfl rfl trivial ?_
            refine step_bin rfl rfl rfl rfl rfl trivial ?_
            refine step_nil ?_
            refine seqK_n ?_
            refine sem_cond rfl (fun h100 => ?_) (fun h100 => ?_)
            ·have g100 : ((addT l0 (IntKind.i64.wrap (1 + (andK IntKind.i64 x0.f1 63))) x0.f2).2 : Int) = 0 := beq_t h100
             refine sem_region rfl ?_
             refine step_r rfl rfl trivial ?_
             refine step_r rfl rfl trivial ?_
             refine step_nil ?_
             refine blkK_n ?_
             have e101 : stays19_J47 l0 k0 x0 = .inr ((addT l0 (IntKind.i64.wrap (1 + (andK IntKind.i64 x0.f1 63))) x0.f2).1) := by
              unfold stays19_J47
              try dsimp only
              rewrite [hJ14]
              try dsimp only
              rewrite [if_pos g20, if_neg g26, if_neg g78, if_pos g80, if_neg g85, if_pos g100]
              all_goals rfl
             exact cutW_n ((addT l0 (IntKind.i64.wrap (1 + (andK IntKind.i64 x0.f1 63))) x0.f2).1) ⟨e101, by first | assumption | omega | (simp; omega) | simp_all | grind⟩ (Trans.ren [(0, 1), (1, 0)] (by decide +kernel) (by decide +kernel) rfl ⟨⟨rfl, rfl⟩, ⟨rfl, rfl⟩, ⟨rfl, rfl⟩, ⟨rfl, rfl⟩, ⟨rfl, rfl⟩, ⟨rfl, rfl⟩, trivial⟩ ⟨⟨rfl, rfl, rfl⟩, trivial⟩ (by decide))
            ·have g100 : ¬ (((addT l0 (IntKind.i64.wrap (1 + (andK IntKind.i64 x0.f1 63))) x0.f2).2 : Int) = 0) := beq_f h100
             refine sem_skip ?_
             refine blkK_n ?_
             have e102 : stays19_J47 l0 k0 x0 = .inr l0 := by
              unfold stays19_J47
              try dsimp only
              rewrite [hJ14]
              try dsimp only
              rewrite [if_pos g20, if_neg g26, if_neg g78, if_pos g80, if_neg g85, if_neg g100]
              all_goals rfl
             exact cutW_n l0 ⟨e102, by first | assumption | omega | (simp; omega) | simp_all | grind⟩ (Trans.ren [] (by decide +kernel) (by decide +kernel) rfl ⟨⟨rfl, rfl⟩, ⟨rfl, rfl⟩, ⟨rfl, rfl⟩, ⟨rfl, rfl⟩, ⟨rfl, rfl⟩, ⟨rfl, rfl⟩, trivial⟩ ⟨⟨rfl, rfl, rfl⟩, trivial⟩ (by decide))
         ·have g78 : ((addT l0 (IntKind.i64.wrap (1 + (andK IntKind.i64 x0.f1 63))) x0.f2).2 : Int) = 0 := bne_f h78
          refine step_g0 rfl h78 rfl ?_
          refine step_g0 rfl h78 rfl ?_
          refine step_gt rfl ?_
          refine step_pickF rfl h78 rfl rfl ?_
          refine step_r rfl rfl trivial ?_
          refine step_r rfl rfl trivial ?_
          refine step_gt rfl ?_
          refine step_r rfl rfl trivial ?_
          refine step_gt rfl ?_
          refine step_bin rfl rfl rfl rfl rfl trivial ?_
          refine step_gt rfl ?_
          refine step_r rfl rfl trivial ?_
          refine step_gs rfl (fun h104 => ?_) (fun h104 => ?_)
          ·have g104 : ((addT l0 (IntKind.i64.wrap (1 + (andK IntKind.i64 x0.f1 63))) x0.f2).2 : Int) = 0 := beq_t h104
           refine step_g1 rfl h104 ?_
           refine step_r rfl rfl trivial ?_
           refine step_g1 rfl h104 ?_
           refine step_r rfl rfl trivial ?_
           refine step_g1 rfl h104 ?_
           refine step_idxS (k := k0) rfl rfl rfl rfl hk0 (flat_ne (s := 3) (enc := encA3int) (fun _ => rfl) (by decide) hk0) rfl ?_
           refine step_g1 rfl h104 ?_
           refine step_r rfl rfl ⟨by decide, by decide⟩ ?_
           refine step_g1 rfl h104 ?_
           refine step_load_one rfl rfl rfl (flat_get (s := 3) (enc := encA3int) (fun _ => rfl) hx0 (o := 2) rfl (by decide)) rfl ?_
           refine step_g1 rfl h104 ?_
           refine step_bin rfl rfl rfl rfl rfl trivial ?_
           refine step_gt rfl ?_
           refine step_pickT rfl h104 rfl rfl ?_
           refine step_gt rfl ?_
           refine step_r rfl rfl trivial ?_
           refine step_gs rfl (fun h106 => ?_) (fun h106 => ?_)
           ·have g106 : (x0.f2 : Int) ≥ 0 := of_decide_eq_true h106
            refine step_g1 rfl h106 ?_
            refine step_r rfl rfl trivial ?_
            refine step_g1 rfl h106 ?_
            refine step_r rfl rfl trivial ?_
            refine step_g1 rfl h106 ?_
            refine step_callJ (Hin := [.row _ _ _]) (H' := [(1, .row _ _ _), (0, .row _ _ _)]) (nx' := 2) [1] rfl rfl rfl rfl rfl rfl rfl rfl rfl (by (repeat' apply And.intro) <;> first | trivial | rfl | exact flat_len (s := 3) (enc := encGThreat) (fun _ => rfl) _ | exact flat_len (fun _ => rfl) _ | exact encI_len _ | exact encB_len _ | exact encY_len _ | exact Nat.le_of_ble_eq_true rfl | assumption) (muchT_ok ((addT l0 (IntKind.i64.wrap (1 + (andK IntKind.i64 x0.f1 63))) x0.f2).1) false (IntKind.i64.wrap (1 + (andK IntKind.i64 x0.f1 63)))) rfl (by decide) rfl rfl trivial rfl rfl rfl rfl ?_
            refine step_g1 rfl h106 ?_
            refine step_r rfl rfl trivial ?_
            refine step_g1 rfl h106 ?_
            refine step_bin rfl rfl rfl rfl rfl trivial ?_
            refine step_gt rfl ?_
            refine step_pickT rfl h106 rfl rfl ?_
            refine step_r rfl rfl trivial ?_
            refine step_nil ?_
            refine seqK_n ?_
            refine sem_cond rfl (fun h109 => ?_) (fun h109 => ?_)
            ·have g109 : (muchT ((addT l0 (IntKind.i64.wrap (1 + (andK IntKind.i64 x0.f1 63))) x0.f2).1) (IntKind.i64.wrap (1 + (andK IntKind.i64 x0.f1 63))) : Int) < (muchT l0 (IntKind.i64.wrap (1 + (andK IntKind.i64 x0.f1 63)))) := of_decide_eq_true h109
             refine sem_seq ?_
             refine sem_region rfl ?_
             refine step_r rfl rfl trivial ?_
             refine step_nil ?_
             refine seqK_n ?_
             refine sem_ret ?_
             refine seqK_r ?_
             refine blkK_r ?_
             refine cutW_r ?_
             refine seqK_r ?_
             refine blkK_r ?_
             refine seqK_r ?_
             refine lupK_r ?_
             refine blkK_r ?_
             refine cutW_r ?_
             refine seqK_r ?_
             have e110 : stays19_J47 l0 k0 x0 = .inl false := by
              unfold stays19_J47
              try dsimp only
              rewrite [hJ14]
              try dsimp only
              rewrite [if_pos g20, if_neg g26, if_pos g78, if_pos g104, if_pos g106, if_pos g109]
              all_goals rfl
             have e111 : stays19_L0 near steps 0 ([]) 0 = .inl false := by
              rewrite [← hI0, drop_cons hx0]
              rewrite [stays19_L0]
              try dsimp only
              rewrite [e110]
              try dsimp only
              all_goals rfl
             have e112 : stays19 steps near = false := by
              unfold stays19
              try dsimp only
              rewrite [if_neg g3, if_neg g6, e111]
              try dsimp only
              all_goals rfl
             rw [e112]
             exact answersR rfl ⟨trivial, trivial⟩ (rfl) rfl
            ·have g109 : ¬ ((muchT ((addT l0 (IntKind.i64.wrap (1 + (andK IntKind.i64 x0.f1 63))) x0.f2).1) (IntKind.i64.wrap (1 + (andK IntKind.i64 x0.f1 63))) : Int) < (muchT l0 (IntKind.i64.wrap (1 + (andK IntKind.i64 x0.f1 63))))) := of_decide_eq_false h109
             refine sem_skip ?_
             refine seqK_n ?_
             refine sem_seq ?_
             refine sem_region rfl ?_
             refine step_r rfl rfl trivial ?_
             refine step_bin rfl rfl rfl rfl rfl trivial ?_
             refine step_nil ?_
             refine seqK_n ?_
             refine sem_cond rfl (fun h113 => ?_) (fun h113 => ?_)
             ·have g113 : ((addT l0 (IntKind.i64.wrap (1 + (andK IntKind.i64 x0.f1 63))) x0.f2).2 : Int) = 0 := beq_t h113
              refine sem_region rfl ?_
              refine step_r rfl rfl trivial ?_
              refine step_r rfl rfl trivial ?_
              refine step_nil ?_
              refine blkK_n ?_
              have e114 : stays19_J47 l0 k0 x0 = .inr ((addT l0 (IntKind.i64.wrap (1 + (andK IntKind.i64 x0.f1 63))) x0.f2).1) := by
               unfold stays19_J47
               try dsimp only
               rewrite [hJ14]
               try dsimp only
               rewrite [if_pos g20, if_neg g26, if_pos g78, if_pos g104, if_pos g106, if_neg g109, if_pos g113]
               all_goals rfl
              exact cutW_n ((addT l0 (IntKind.i64.wrap (1 + (andK IntKind.i64 x0.f1 63))) x0.f2).1) ⟨e114, by first | assumption | omega | (simp; omega) | simp_all | grind⟩ (Trans.ren [(0, 1), (1, 0)] (by decide +kernel) (by decide +kernel) rfl ⟨⟨rfl, rfl⟩, ⟨rfl, rfl⟩, ⟨rfl, rfl⟩, ⟨rfl, rfl⟩, ⟨rfl, rfl⟩, ⟨rfl, rfl⟩, trivial⟩ ⟨⟨rfl, rfl, rfl⟩, trivial⟩ (by decide))
             ·have g113 : ¬ (((addT l0 (IntKind.i64.wrap (1 + (andK IntKind.i64 x0.f1 63))) x0.f2).2 : Int) = 0) := beq_f h113
              refine sem_skip ?_
              refine blkK_n ?_
              have e115 : stays19_J47 l0 k0 x0 = .inr l0 := by
               unfold stays19_J47
               try dsimp only
               rewrite [hJ14]
               try dsimp only
               rewrite [if_pos g20, if_neg g26, if_pos g78, if_pos g104, if_pos g106, if_neg g109, if_neg g113]
               all_goals rfl
              exact cutW_n l0 ⟨e115, by first | assumption | omega | (simp; omega) | simp_all | grind⟩ (Trans.ren [] (by decide +kernel) (by decide +kernel) rfl ⟨⟨rfl, rfl⟩, ⟨rfl, rfl⟩, ⟨rfl, rfl⟩, ⟨rfl, rfl⟩, ⟨rfl, rfl⟩, ⟨rfl, rfl⟩, trivial⟩ ⟨⟨rfl, rfl, rfl⟩, trivial⟩ (by decide))
           ·have g106 : ¬ ((x0.f2 : Int) ≥ 0) := of_decide_eq_false h106
            refine step_g0 rfl h106 rfl ?_
            refine step_g0 rfl h106 rfl ?_
            refine step_g0 rfl h106 rfl ?_
            refine step_g0 rfl h106 rfl ?_
            refine step_g0 rfl h106 rfl ?_
            refine step_gt rfl ?_
            refine step_pickF rfl h106 rfl rfl ?_
            refine step_r rfl rfl trivial ?_
            refine step_nil ?_
            refine seqK_n ?_
            refine sem_condF rfl ?_
            refine sem_skip ?_
            refine seqK_n ?_
            refine sem_seq ?_
            refine sem_region rfl ?_
            refine step_r rfl rfl trivial ?_
            refine step_bin rfl rfl rfl rfl rfl trivial ?_
            refine step_nil ?_
            refine seqK_n ?_
            refine sem_cond rfl (fun h116 => ?_) (fun h116 => ?_)
            ·have g116 : ((addT l0 (IntKind.i64.wrap (1 + (andK IntKind.i64 x0.f1 63))) x0.f2).2 : Int) = 0 := beq_t h116
             refine sem_region rfl ?_
             refine step_r rfl rfl trivial ?_
             refine step_r rfl rfl trivial ?_
             refine step_nil ?_
             refine blkK_n ?_
             have e117 : stays19_J47 l0 k0 x0 = .inr ((addT l0 (IntKind.i64.wrap (1 + (andK IntKind.i64 x0.f1 63))) x0.f2).1) := by
              unfold stays19_J47
              try dsimp only
              rewrite [hJ14]
              try dsimp only
              rewrite [if_pos g20, if_neg g26, if_pos g78, if_pos g104, if_neg g106, if_pos g116]
              all_goals rfl
             exact cutW_n ((addT l0 (IntKind.i64.wrap (1 + (andK IntKind.i64 x0.f1 63))) x0.f2).1) ⟨e117, by first | assumption | omega | (simp; omega) | simp_all | grind⟩ (Trans.ren [(0, 1), (1, 0)] (by decide +kernel) (by decide +kernel) rfl ⟨⟨rfl, rfl⟩, ⟨rfl, rfl⟩, ⟨rfl, rfl⟩, ⟨rfl, rfl⟩, ⟨rfl, rfl⟩, ⟨rfl, rfl⟩, trivial⟩ ⟨⟨rfl, rfl, rfl⟩, trivial⟩ (by decide))
            ·have g116 : ¬ (((addT l0 (IntKind.i64.wrap (1 + (andK IntKind.i64 x0.f1 63))) x0.f2).2 : Int) = 0) := beq_f h116
             refine sem_skip ?_
             refine blkK_n ?_
             have e118 : stays19_J47 l0 k0 x0 = .inr l0 := by
              unfold stays19_J47
              try dsimp only
              rewrite [hJ14]
              try dsimp only
              rewrite [if_pos g20, if_neg g26, if_pos g78, if_pos g104, if_neg g106, if_neg g116]
              all_goals rfl
             exact cutW_n l0 ⟨e118, by first | assumption | omega | (simp; omega) | simp_all | grind⟩ (Trans.ren [] (by decide +kernel) (by decide +kernel) rfl ⟨⟨rfl, rfl⟩, ⟨rfl, rfl⟩, ⟨rfl, rfl⟩, ⟨rfl, rfl⟩, ⟨rfl, rfl⟩, ⟨rfl, rfl⟩, trivial⟩ ⟨⟨rfl, rfl, rfl⟩, trivial⟩ (by decide))
          ·have g104 : ¬ (((addT l0 (IntKind.i64.wrap (1 + (andK IntKind.i64 x0.f1 63))) x0.f2).2 : Int) = 0) := beq_f h104
           refine step_g0 rfl h104 rfl ?_
           refine step_g0 rfl h104 rfl ?_
           refine step_g0 rfl h104 rfl ?_
           refine step_g0 rfl h104 rfl ?_
           refine step_g0 rfl h104 rfl ?_
           refine step_g0 rfl h104 rfl ?_
           refine step_gt rfl ?_
           refine step_pickF rfl h104 rfl rfl ?_
           refine step_gt rfl ?_
           refine step_r rfl rfl trivial ?_
           refine step_gf rfl rfl ?_
           refine step_gf rfl rfl ?_
           refine step_gf rfl rfl ?_
           refine step_gf rfl rfl ?_
           refine step_gf rfl rfl ?_
           refine step_gt rfl ?_
           refine step_r rfl rfl trivial ?_
           refine step_r rfl rfl trivial ?_
           refine step_nil ?_
           refine seqK_n ?_
           refine sem_condF rfl ?_
           refine sem_skip ?_
           refine seqK_n ?_
           refine sem_seq ?_
           refine sem_region rfl ?_
           refine step_r rfl rfl trivial ?_
           refine step_bin rfl rfl rfl rfl rfl trivial ?_
           refine step_nil ?_
           refine seqK_n ?_
           refine sem_cond rfl (fun h119 => ?_) (fun h119 => ?_)
           ·have g119 : ((addT l0 (IntKind.i64.wrap (1 + (andK IntKind.i64 x0.f1 63))) x0.f2).2 : Int) = 0 := beq_t h119
            refine sem_region rfl ?_
            refine step_r rfl rfl trivial ?_
            refine step_r rfl rfl trivial ?_
            refine step_nil ?_
            refine blkK_n ?_
            have e120 : stays19_J47 l0 k0 x0 = .inr ((addT l0 (IntKind.i64.wrap (1 + (andK IntKind.i64 x0.f1 63))) x0.f2).1) := by
             unfold stays19_J47
             try dsimp only
             rewrite [hJ14]
             try dsimp only
             rewrite [if_pos g20, if_neg g26, if_pos g78, if_neg g104, if_pos g119]
             all_goals rfl
            exact cutW_n ((addT l0 (IntKind.i64.wrap (1 + (andK IntKind.i64 x0.f1 63))) x0.f2).1) ⟨e120, by first | assumption | omega | (simp; omega) | simp_all | grind⟩ (Trans.ren [(0, 1), (1, 0)] (by decide +kernel) (by decide +kernel) rfl ⟨⟨rfl, rfl⟩, ⟨rfl, rfl⟩, ⟨rfl, rfl⟩, ⟨rfl, rfl⟩, ⟨rfl, rfl⟩, ⟨rfl, rfl⟩, trivial⟩ ⟨⟨rfl, rfl, rfl⟩, trivial⟩ (by decide))
           ·have g119 : ¬ (((addT l0 (IntKind.i64.wrap (1 + (andK IntKind.i64 x0.f1 63))) x0.f2).2 : Int) = 0) := beq_f h119
            refine sem_skip ?_
            refine blkK_n ?_
            have e121 : stays19_J47 l0 k0 x0 = .inr l0 := by
             unfold stays19_J47
             try dsimp only
             rewrite [hJ14]
             try dsimp only
             rewrite [if_pos g20, if_neg g26, if_pos g78, if_neg g104, if_neg g119]
             all_goals rfl
            exact cutW_n l0 ⟨e121, by first | assumption | omega | (simp; omega) | simp_all | grind⟩ (Trans.ren [] (by decide +kernel) (by decide +kernel) rfl ⟨⟨rfl, rfl⟩, ⟨rfl, rfl⟩, ⟨rfl, rfl⟩, ⟨rfl, rfl⟩, ⟨rfl, rfl⟩, ⟨rfl, rfl⟩, trivial⟩ ⟨⟨rfl, rfl, rfl⟩, trivial⟩ (by decide))
       ·have g20 : ¬ (t53_54 = true) := boo_f h20
        refine sem_seq ?_
        refine sem_region rfl ?_
        refine step_bin rfl rfl rfl rfl rfl trivial ?_
        refine step_r rfl rfl trivial ?_
        refine step_nil ?_
        refine seqK_n ?_
        refine sem_cond rfl (fun h123 => ?_) (fun h123 => ?_)
        ·have g123 : (andK IntKind.i64 x0.f0 3 : Int) = 2 := beq_t h123
         refine sem_seq ?_
         refine sem_region rfl ?_
         refine step_r rfl rfl trivial ?_
         refine step_r rfl rfl trivial ?_
         refine step_callJ (Hin := [.row _ _ _]) (out' := .tup [.ref 1 _ _ _, _]) (H' := [(1, .row _ _ _), (0, .row _ _ _)]) (nx' := 2) [0] rfl rfl rfl rfl rfl rfl rfl rfl rfl (by (repeat' apply And.intro) <;> first | trivial | rfl | exact flat_len (s := 3) (enc := encGThreat) (fun _ => rfl) _ | exact flat_len (fun _ => rfl) _ | exact encI_len _ | exact encB_len _ | exact encY_len _ | exact Nat.le_of_ble_eq_true rfl | assumption) (dropT_ok l0 false (IntKind.i64.wrap (1 + (andK IntKind.i64 x0.f1 63))) (by first | omega | (simp; omega))) rfl (by decide) rfl rfl ⟨encGThreat_solid, trivial⟩ rfl rfl rfl rfl ?_
         have p125 := dropT_len l0 (IntKind.i64.wrap (1 + (andK IntKind.i64 x0.f1 63))) (by first | omega | (simp; omega))
         refine step_r rfl rfl trivial ?_
         refine step_r rfl rfl trivial ?_
         refine step_r rfl rfl trivial ?_
         refine step_r rfl rfl trivial ?_
         refine step_r rfl rfl trivial ?_
         refine step_nil ?_
         refine seqK_n ?_
         refine sem_seq ?_
         refine sem_seq ?_
         refine sem_region rfl ?_
         refine step_r rfl rfl trivial ?_
         refine step_r rfl rfl trivial ?_
         refine step_gs rfl (fun h127 => ?_) (fun h127 => ?_)
         ·have g127 : (dropT l0 (IntKind.i64.wrap (1 + (andK IntKind.i64 x0.f1 63)))).2 = true := h127
          refine step_g1 rfl h127 ?_
          refine step_r rfl rfl trivial ?_
          refine step_g1 rfl h127 ?_
          refine step_r rfl rfl trivial ?_
          refine step_g1 rfl h127 ?_
          refine step_r rfl rfl trivial ?_
          refine step_g1 rfl h127 ?_
          refine step_r rfl rfl trivial ?_
          refine step_g1 rfl h127 ?_
          refine step_bin rfl rfl rfl rfl rfl trivial ?_
          refine step_g1 rfl h127 ?_
          refine step_bin rfl rfl rfl rfl rfl trivial ?_
          refine step_pickT rfl h127 rfl rfl ?_
          refine step_r rfl rfl trivial ?_
          refine step_gs rfl (fun h129 => ?_) (fun h129 => ?_)
          ·have g129 : ¬ (((dropT l0 (IntKind.i64.wrap (1 + (andK IntKind.i64 x0.f1 63)))).1.length : Int) = (IntKind.i64.wrap (l0.length - 1))) := bne_t h129
           refine step_g0 rfl h129 rfl ?_
           refine step_g0 rfl h129 rfl ?_
           refine step_g0 rfl h129 rfl ?_
           refine step_g0 rfl h129 rfl ?_
           refine step_pickT rfl h129 rfl rfl ?_
           refine step_nil ?_
           refine seqK_n ?_
           refine sem_condT rfl ?_
           refine sem_seq ?_
           refine sem_region rfl ?_
           refine step_r rfl rfl trivial ?_
           refine step_nil ?_
           refine seqK_n ?_
           refine sem_ret ?_
           refine seqK_r ?_
           refine blkK_r ?_
           refine cutW_r ?_
           refine seqK_r ?_
           refine blkK_r ?_
           refine seqK_r ?_
           refine lupK_r ?_
           refine blkK_r ?_
           refine cutW_r ?_
           refine seqK_r ?_
           have e130 : stays19_J47 l0 k0 x0 = .inl false := by
            unfold stays19_J47
            try dsimp only
            rewrite [hJ14]
            try dsimp only
            rewrite [if_neg g20, if_pos g123, if_pos g127, if_neg g129]
            all_goals rfl
           have e131 : stays19_L0 near steps 0 ([]) 0 = .inl false := by
            rewrite [← hI0, drop_cons hx0]
            rewrite [stays19_L0]
            try dsimp only
            rewrite [e130]
            try dsimp only
            all_goals rfl
           have e132 : stays19 steps near = false := by
            unfold stays19
            try dsimp only
            rewrite [if_neg g3, if_neg g6, e131]
            try dsimp only
            all_goals rfl
           rw [e132]
           exact answersR rfl ⟨trivial, trivial⟩ (rfl) rfl
          ·have g129 : ((dropT l0 (IntKind.i64.wrap (1 + (andK IntKind.i64 x0.f1 63)))).1.length : Int) = (IntKind.i64.wrap (l0.length - 1)) := bne_f h129
           refine step_g1 rfl h129 ?_
           refine step_r rfl rfl trivial ?_
           refine step_g1 rfl h129 ?_
           refine step_r rfl rfl trivial ?_
           refine step_g1 rfl h129 ?_
           refine step_callJ (Hin := [.row _ _ _]) (H' := [(1, .row _ _ _), (0, .row _ _ _)]) (nx' := 2) [1] rfl rfl rfl rfl rfl rfl rfl rfl rfl (by (repeat' apply And.intro) <;> first | trivial | rfl | exact flat_len (s := 3) (enc := encGThreat) (fun _ => rfl) _ | exact flat_len (fun _ => rfl) _ | exact encI_len _ | exact encB_len _ | exact encY_len _ | exact Nat.le_of_ble_eq_true rfl | assumption) (muchT_ok ((dropT l0 (IntKind.i64.wrap (1 + (andK IntKind.i64 x0.f1 63)))).1) false (IntKind.i64.wrap (1 + (andK IntKind.i64 x0.f1 63)))) rfl (by decide) rfl rfl trivial rfl rfl rfl rfl ?_
           refine step_g1 rfl h129 ?_
           refine step_bin rfl rfl rfl rfl rfl trivial ?_
           refine step_pickF rfl h129 rfl rfl ?_
           refine step_nil ?_
           refine seqK_n ?_
           refine sem_cond rfl (fun h134 => ?_) (fun h134 => ?_)
           ·have g134 : ¬ ((muchT ((dropT l0 (IntKind.i64.wrap (1 + (andK IntKind.i64 x0.f1 63)))).1) (IntKind.i64.wrap (1 + (andK IntKind.i64 x0.f1 63))) : Int) = 0) := bne_t h134
            refine sem_seq ?_
            refine sem_region rfl ?_
            refine step_r rfl rfl trivial ?_
            refine step_nil ?_
            refine seqK_n ?_
            refine sem_ret ?_
            refine seqK_r ?_
            refine blkK_r ?_
            refine cutW_r ?_
            refine seqK_r ?_
            refine blkK_r ?_
            refine seqK_r ?_
            refine lupK_r ?_
            refine blkK_r ?_
            refine cutW_r ?_
            refine seqK_r ?_
            have e135 : stays19_J47 l0 k0 x0 = .inl false := by
             unfold stays19_J47
             try dsimp only
             rewrite [hJ14]
             try dsimp only
             rewrite [if_neg g20, if_pos g123, if_pos g127, if_pos g129, if_neg g134]
             all_goals rfl
            have e136 : stays19_L0 near steps 0 ([]) 0 = .inl false := by
             rewrite [← hI0, drop_cons hx0]
             rewrite [stays19_L0]
             try dsimp only
             rewrite [e135]
             try dsimp only
             all_goals rfl
            have e137 : stays19 steps near = false := by
             unfold stays19
             try dsimp only
             rewrite [if_neg g3, if_neg g6, e136]
             try dsimp only
             all_goals rfl
            rw [e137]
            exact answersR rfl ⟨trivial, trivial⟩ (rfl) rfl
           ·have g134 : (muchT ((dropT l0 (IntKind.i64.wrap (1 + (andK IntKind.i64 x0.f1 63)))).1) (IntKind.i64.wrap (1 + (andK IntKind.i64 x0.f1 63))) : Int) = 0 := bne_f h134
            refine sem_skip ?_
            refine seqK_n ?_
            refine sem_region rfl ?_
            refine step_r rfl rfl trivial ?_
            refine step_r rfl rfl trivial ?_
            refine step_nil ?_
            refine blkK_n ?_
            have e138 : stays19_J47 l0 k0 x0 = .inr ((dropT l0 (IntKind.i64.wrap (1 + (andK IntKind.i64 x0.f1 63)))).1) := by
             unfold stays19_J47
             try dsimp only
             rewrite [hJ14]
             try dsimp only
             rewrite [if_neg g20, if_pos g123, if_pos g127, if_pos g129, if_pos g134]
             all_goals rfl
            exact cutW_n ((dropT l0 (IntKind.i64.wrap (1 + (andK IntKind.i64 x0.f1 63)))).1) ⟨e138, by first | assumption | omega | (simp; omega) | simp_all | grind⟩ (Trans.ren [(0, 1), (1, 0)] (by decide +kernel) (by decide +kernel) rfl ⟨⟨rfl, rfl⟩, ⟨rfl, rfl⟩, ⟨rfl, rfl⟩, ⟨rfl, rfl⟩, ⟨rfl, rfl⟩, ⟨rfl, rfl⟩, trivial⟩ ⟨⟨rfl, rfl, rfl⟩, trivial⟩ (by decide))
         ·have g127 : ¬ ((dropT l0 (IntKind.i64.wrap (1 + (andK IntKind.i64 x0.f1 63)))).2 = true) := boo_f h127
          refine step_g0 rfl h127 rfl ?_
          refine step_g0 rfl h127 rfl ?_
          refine step_g0 rfl h127 rfl ?_
          refine step_g0 rfl h127 rfl ?_
          refine step_g0 rfl h127 rfl ?_
          refine step_g0 rfl h127 rfl ?_
          refine step_pickF rfl h127 rfl rfl ?_
          refine step_r rfl rfl trivial ?_
          refine step_gt rfl ?_
          refine step_r rfl rfl trivial ?_
          refine step_gt rfl ?_
          refine step_r rfl rfl trivial ?_
          refine step_gt rfl ?_
          refine step_callJ (Hin := [.row _ _ _]) (H' := [(1, .row _ _ _), (0, .row _ _ _)]) (nx' := 2) [1] rfl rfl rfl rfl rfl rfl rfl rfl rfl (by (repeat' apply And.intro) <;> first | trivial | rfl | exact flat_len (s := 3) (enc := encGThreat) (fun _ => rfl) _ | exact flat_len (fun _ => rfl) _ | exact encI_len _ | exact encB_len _ | exact encY_len _ | exact Nat.le_of_ble_eq_true rfl | assumption) (muchT_ok ((dropT l0 (IntKind.i64.wrap (1 + (andK IntKind.i64 x0.f1 63)))).1) false (IntKind.i64.wrap (1 + (andK IntKind.i64 x0.f1 63)))) rfl (by decide) rfl rfl trivial rfl rfl rfl rfl ?_
          refine step_gt rfl ?_
          refine step_bin rfl rfl rfl rfl rfl trivial ?_
          refine step_r rfl rfl trivial ?_
          refine step_nil ?_
          refine seqK_n ?_
          refine sem_cond rfl (fun h140 => ?_) (fun h140 => ?_)
          ·have g140 : ¬ ((muchT ((dropT l0 (IntKind.i64.wrap (1 + (andK IntKind.i64 x0.f1 63)))).1) (IntKind.i64.wrap (1 + (andK IntKind.i64 x0.f1 63))) : Int) = 0) := bne_t h140
           refine sem_seq ?_
           refine sem_region rfl ?_
           refine step_r rfl rfl trivial ?_
           refine step_nil ?_
           refine seqK_n ?_
           refine sem_ret ?_
           refine seqK_r ?_
           refine blkK_r ?_
           refine cutW_r ?_
           refine seqK_r ?_
           refine blkK_r ?_
           refine seqK_r ?_
           refine lupK_r ?_
           refine blkK_r ?_
           refine cutW_r ?_
           refine seqK_r ?_
           have e141 : stays19_J47 l0 k0 x0 = .inl false := by
            unfold stays19_J47
            try dsimp only
            rewrite [hJ14]
            try dsimp only
            rewrite [if_neg g20, if_pos g123, if_neg g127, if_neg g140]
            all_goals rfl
           have e142 : stays19_L0 near steps 0 ([]) 0 = .inl false := by
            rewrite [← hI0, drop_cons hx0]
            rewrite [stays19_L0]
            try dsimp only
            rewrite [e141]
            try dsimp only
            all_goals rfl
           have e143 : stays19 steps near = false := by
            unfold stays19
            try dsimp only
            rewrite [if_neg g3, if_neg g6, e142]
            try dsimp only
            all_goals rfl
           rw [e143]
           exact answersR rfl ⟨trivial, trivial⟩ (rfl) rfl
          ·have g140 : (muchT ((dropT l0 (IntKind.i64.wrap (1 + (andK IntKind.i64 x0.f1 63)))).1) (IntKind.i64.wrap (1 + (andK IntKind.i64 x0.f1 63))) : Int) = 0 := bne_f h140
           refine sem_skip ?_
           refine seqK_n ?_
           refine sem_region rfl ?_
           refine step_r rfl rfl trivial ?_
           refine step_r rfl rfl trivial ?_
           refine step_nil ?_
           refine blkK_n ?_
           have e144 : stays19_J47 l0 k0 x0 = .inr ((dropT l0 (IntKind.i64.wrap (1 + (andK IntKind.i64 x0.f1 63)))).1) := by
            unfold stays19_J47
            try dsimp only
            rewrite [hJ14]
            try dsimp only
            rewrite [if_neg g20, if_pos g123, if_neg g127, if_pos g140]
            all_goals rfl
           exact cutW_n ((dropT l0 (IntKind.i64.wrap (1 + (andK IntKind.i64 x0.f1 63)))).1) ⟨e144, by first | assumption | omega | (simp; omega) | simp_all | grind⟩ (Trans.ren [(0, 1), (1, 0)] (by decide +kernel) (by decide +kernel) rfl ⟨⟨rfl, rfl⟩, ⟨rfl, rfl⟩, ⟨rfl, rfl⟩, ⟨rfl, rfl⟩, ⟨rfl, rfl⟩, ⟨rfl, rfl⟩, trivial⟩ ⟨⟨rfl, rfl, rfl⟩, trivial⟩ (by decide))
        ·have g123 : ¬ ((andK IntKind.i64 x0.f0 3 : Int) = 2) := beq_f h123
         refine sem_seq ?_
         refine sem_region rfl ?_
         refine step_bin rfl rfl rfl rfl rfl trivial ?_
         refine step_r rfl rfl trivial ?_
         refine step_nil ?_
         refine seqK_n ?_
         refine sem_cond rfl (fun h146 => ?_) (fun h146 => ?_)
         ·have g146 : (andK IntKind.i64 x0.f0 3 : Int) = 3 := beq_t h146
          refine sem_seq ?_
          refine sem_region rfl ?_
          refine step_r rfl rfl trivial ?_
          refine step_r rfl rfl trivial ?_
          refine step_r rfl rfl trivial ?_
          refine step_r rfl rfl trivial ?_
          refine step_r rfl rfl trivial ?_
          refine step_idxS (k := k0) rfl rfl rfl rfl hk0 (flat_ne (s := 3) (enc := encA3int) (fun _ => rfl) (by decide) hk0) rfl ?_
          refine step_r rfl rfl ⟨by decide, by decide⟩ ?_
          refine step_load_one rfl rfl rfl (flat_get (s := 3) (enc := encA3int) (fun _ => rfl) hx0 (o := 2) rfl (by decide)) rfl ?_
          refine step_bin rfl rfl rfl rfl rfl trivial ?_
          refine step_callJ (Hin := [.row _ _ _]) (out' := .tup [.ref 1 _ _ _, _]) (H' := [(1, .row _ _ _), (0, .row _ _ _)]) (nx' := 2) [0] rfl rfl rfl rfl rfl rfl rfl rfl rfl (by (repeat' apply And.intro) <;> first | trivial | rfl | exact flat_len (s := 3) (enc := encGThreat) (fun _ => rfl) _ | exact flat_len (fun _ => rfl) _ | exact encI_len _ | exact encB_len _ | exact encY_len _ | exact Nat.le_of_ble_eq_true rfl | assumption) (tauntT_ok l0 false (IntKind.i64.wrap (1 + (andK IntKind.i64 x0.f1 63))) k0 (andK IntKind.i64 x0.f2 7) (by first | omega | (simp; omega))) rfl (by decide) rfl rfl ⟨encGThreat_solid, trivial⟩ rfl rfl rfl rfl ?_
          have p149 := tauntT_len l0 (IntKind.i64.wrap (1 + (andK IntKind.i64 x0.f1 63))) k0 (andK IntKind.i64 x0.f2 7)
          refine step_r rfl rfl trivial ?_
          refine step_r rfl rfl trivial ?_
          refine step_r rfl rfl trivial ?_
          refine step_r rfl rfl trivial ?_
          refine step_r rfl rfl trivial ?_
          refine step_nil ?_
          refine seqK_n ?_
          refine sem_seq ?_
          refine sem_region rfl ?_
          refine step_r rfl rfl trivial ?_
          refine step_bin rfl rfl rfl rfl rfl trivial ?_
          refine step_nil ?_
          refine seqK_n ?_
          refine sem_cond rfl (fun h151 => ?_) (fun h151 => ?_)
          ·have g151 : ((tauntT l0 (IntKind.i64.wrap (1 + (andK IntKind.i64 x0.f1 63))) k0 (andK IntKind.i64 x0.f2 7)).2 : Int) = 0 := beq_t h151
           refine sem_seq ?_
           refine sem_region rfl ?_
           refine step_r rfl rfl trivial ?_
           refine step_r rfl rfl trivial ?_
           refine step_nil ?_
           refine seqK_n ?_
           refine sem_seq ?_
           refine sem_region rfl ?_
           refine step_r rfl rfl trivial ?_
           refine step_nil ?_
           refine seqK_n ?_
           refine sem_cutW (fun w_ : Unit => match w_ with | () => (⟨[(0, .pv (.slc steps.length steps_f (steps.flatMap encA3int))), (1, .pv (.slc near.length near_f (encI near))), (5, B (small19)), (6, .ref 0 3 0 (tauntT l0 (IntKind.i64.wrap (1 + (andK IntKind.i64 x0.f1 63))) k0 (andK IntKind.i64 x0.f2 7)).1.length), (7, I target0), (8, I k0)], [(0, .row 40 3 ((tauntT l0 (IntKind.i64.wrap (1 + (andK IntKind.i64 x0.f1 63))) k0 (andK IntKind.i64 x0.f2 7)).1.flatMap encGThreat))], 1, [], 207, 0⟩ : St)) (fun w_ => stays19_L1 l0 k0 x0 ((tauntT l0 (IntKind.i64.wrap (1 + (andK IntKind.i64 x0.f1 63))) k0 (andK IntKind.i64 x0.f2 7)).1) 0 = .inr w_) ?_ ?_
           ·refine sem_block ?_
            refine sem_loopT (fun k1 : Nat => (⟨[(0, .pv (.slc steps.length steps_f (steps.flatMap encA3int))), (1, .pv (.slc near.length near_f (encI near))), (5, B (small19)), (6, .ref 0 3 0 (tauntT l0 (IntKind.i64.wrap (1 + (andK IntKind.i64 x0.f1 63))) k0 (andK IntKind.i64 x0.f2 7)).1.length), (7, I target0), (8, I k0), (9, I (IntKind.i64.wrap (1 + (andK IntKind.i64 x0.f1 63)))), (17, I k1)], [(0, .row 40 3 ((tauntT l0 (IntKind.i64.wrap (1 + (andK IntKind.i64 x0.f1 63))) k0 (andK IntKind.i64 x0.f2 7)).1.flatMap encGThreat))], 1, [], 207, 0⟩ : St)) (fun k1 : Nat => stays19_L1 l0 k0 x0 (((tauntT l0 (IntKind.i64.wrap (1 + (andK IntKind.i64 x0.f1 63))) k0 (andK IntKind.i64 x0.f2 7)).1).drop k1) k1 = stays19_L1 l0 k0 x0 ((tauntT l0 (IntKind.i64.wrap (1 + (andK IntKind.i64 x0.f1 63))) k0 (andK IntKind.i64 x0.f2 7)).1) 0 ∧ k1 ≤ ((tauntT l0 (IntKind.i64.wrap (1 + (andK IntKind.i64 x0.f1 63))) k0 (andK IntKind.i64 x0.f2 7)).1).length) (fun k1 : Nat => ((tauntT l0 (IntKind.i64.wrap (1 + (andK IntKind.i64 x0.f1 63))) k0 (andK IntKind.i64 x0.f2 7)).1).length - k1) 0 (⟨rfl, Nat.zero_le _⟩) ?_ (fun k1 hh_ => ?_)
            ·exact (Trans.ren [(0, 1), (1, 0)] (by decide +kernel) (by decide +kernel) rfl ⟨⟨rfl, rfl⟩, ⟨rfl, rfl⟩, ⟨rfl, rfl⟩, ⟨rfl, rfl⟩, ⟨rfl, rfl⟩, ⟨rfl, rfl⟩, ⟨rfl, rfl⟩, ⟨rfl, rfl⟩, trivial⟩ ⟨⟨rfl, rfl, rfl⟩, trivial⟩ (by decide))
            obtain ⟨hI1, hb1⟩ := hh_
            show Walks Try.prog _ _ (⟨[(0, .pv (.slc steps.length steps_f (steps.flatMap encA3int))), (1, .pv (.slc near.length near_f (encI near))), (5, B (small19)), (6, .ref 0 3 0 (tauntT l0 (IntKind.i64.wrap (1 + (andK IntKind.i64 x0.f1 63))) k0 (andK IntKind.i64 x0.f2 7)).1.length), (7, I target0), (8, I k0), (9, I (IntKind.i64.wrap (1 + (andK IntKind.i64 x0.f1 63)))), (17, I k1)], [(0, .row 40 3 ((tauntT l0 (IntKind.i64.wrap (1 + (andK IntKind.i64 x0.f1 63))) k0 (andK IntKind.i64 x0.f2 7)).1.flatMap encGThreat))], 1, [], 207, 0⟩ : St)
            refine sem_seq ?_
            refine sem_seq ?_
            refine sem_region rfl ?_
            refine step_r rfl rfl trivial ?_
            refine step_r rfl rfl trivial ?_
            refine step_r rfl rfl trivial ?_
            refine step_bin rfl rfl rfl rfl rfl trivial ?_
            refine step_nil ?_
            refine seqK_n ?_
            refine sem_cond rfl (fun h154 => ?_) (fun h154 => ?_)
            ·have g154 : (k1 : Int) < ((tauntT l0 (IntKind.i64.wrap (1 + (andK IntKind.i64 x0.f1 63))) k0 (andK IntKind.i64 x0.f2 7)).1.length) := of_decide_eq_true h154
             have hk1 : k1 < ((tauntT l0 (IntKind.i64.wrap (1 + (andK IntKind.i64 x0.f1 63))) k0 (andK IntKind.i64 x0.f2 7)).1).length := by omega
             obtain ⟨x1, hx1⟩ : ∃ z_, ((tauntT l0 (IntKind.i64.wrap (1 + (andK IntKind.i64 x0.f1 63))) k0 (andK IntKind.i64 x0.f2 7)).1)[k1]? = some z_ := ⟨_, List.getElem?_eq_getElem hk1⟩
             refine sem_skip ?_
             refine seqK_n ?_
             refine sem_seq ?_
             refine sem_block ?_
             refine sem_seq ?_
             refine sem_drawn rfl (by decide +kernel) rfl ?_
             refine step_r rfl rfl trivial ?_
             refine step_r rfl rfl trivial ?_
             refine step_idxR (k := k1) rfl rfl rfl rfl hk1 rfl ?_
             refine step_r rfl rfl (by decide) ?_
             refine step_load_oneR rfl rfl rfl rfl (flat_get (s := 3) (enc := encGThreat) (fun _ => rfl) hx1 (o := 1) rfl (by decide)) rfl ?_
             refine step_r rfl rfl trivial ?_
             refine step_r rfl rfl trivial ?_
             refine step_callJ (Hin := [.row _ _ _]) (H' := [(0, .row _ _ _)]) (nx' := 1) [0] rfl rfl rfl rfl rfl rfl rfl rfl rfl (by (repeat' apply And.intro) <;> first | trivial | rfl | exact flat_len (s := 3) (enc := encGThreat) (fun _ => rfl) _ | exact flat_len (fun _ => rfl) _ | exact encI_len _ | exact encB_len _ | exact encY_len _ | exact Nat.le_of_ble_eq_true rfl | assumption) (muchT_ok ((tauntT l0 (IntKind.i64.wrap (1 + (andK IntKind.i64 x0.f1 63))) k0 (andK IntKind.i64 x0.f2 7)).1) false (IntKind.i64.wrap (1 + (andK IntKind.i64 x0.f1 63)))) rfl (by decide) rfl rfl trivial rfl rfl rfl rfl ?_
             refine step_bin rfl rfl rfl rfl rfl trivial ?_
             refine step_nil ?_
             refine seqK_n ?_
             refine sem_cond rfl (fun h156 => ?_) (fun h156 => ?_)
             ·have g156 : (x1.Much : Int) > (muchT ((tauntT l0 (IntKind.i64.wrap (1 + (andK IntKind.i64 x0.f1 63))) k0 (andK IntKind.i64 x0.f2 7)).1) (IntKind.i64.wrap (1 + (andK IntKind.i64 x0.f1 63)))) := of_decide_eq_true h156
              refine sem_seq ?_
              refine sem_region rfl ?_
              refine step_r rfl rfl trivial ?_
              refine step_nil ?_
              refine seqK_n ?_
              refine sem_ret ?_
              refine blkK_r ?_
              refine seqK_r ?_
              refine lupK_r ?_
              refine blkK_r ?_
              refine cutW_r ?_
              refine blkK_r ?_
              refine cutW_r ?_
              refine seqK_r ?_
              refine blkK_r ?_
              refine seqK_r ?_
              refine lupK_r ?_
              refine blkK_r ?_
              refine cutW_r ?_
              refine seqK_r ?_
              have e157 : stays19_L1 l0 k0 x0 ((tauntT l0 (IntKind.i64.wrap (1 + (andK IntKind.i64 x0.f1 63))) k0 (andK IntKind.i64 x0.f2 7)).1) 0 = .inl false := by
               rewrite [← hI1, drop_cons hx1]
               rewrite [stays19_L1]
               try dsimp only
               rewrite [if_pos g156]
               all_goals rfl
              have e158 : stays19_J47 l0 k0 x0 = .inl false := by
               unfold stays19_J47
               try dsimp only
               rewrite [hJ14]
               try dsimp only
               rewrite [if_neg g20, if_neg g123, if_pos g146, if_pos g151, e157]
               try dsimp only
               all_goals rfl
              have e159 : stays19_L0 near steps 0 ([]) 0 = .inl false := by
               rewrite [← hI0, drop_cons hx0]
               rewrite [stays19_L0]
               try dsimp only
               rewrite [e158]
               try dsimp only
               all_goals rfl
              have e160 : stays19 steps near = false := by
               unfold stays19
               try dsimp only
               rewrite [if_neg g3, if_neg g6, e159]
               try dsimp only
               all_goals rfl
              rw [e160]
              exact answersR rfl ⟨trivial, trivial⟩ (rfl) rfl
             ·have g156 : ¬ ((x1.Much : Int) > (muchT ((tauntT l0 (IntKind.i64.wrap (1 + (andK IntKind.i64 x0.f1 63))) k0 (andK IntKind.i64 x0.f2 7)).1) (IntKind.i64.wrap (1 + (andK IntKind.i64 x0.f1 63))))) := of_decide_eq_false h156
              refine sem_skip ?_
              refine blkK_n ?_
              refine seqK_n ?_
              refine sem_region rfl ?_
              refine step_r rfl rfl trivial ?_
              refine step_bin rfl rfl rfl rfl rfl trivial ?_
              refine step_r rfl rfl trivial ?_
              refine step_nil ?_
              have e162 : stays19_L1 l0 k0 x0 (((tauntT l0 (IntKind.i64.wrap (1 + (andK IntKind.i64 x0.f1 63))) k0 (andK IntKind.i64 x0.f2 7)).1).drop k1) k1 = stays19_L1 l0 k0 x0 (((tauntT l0 (IntKind.i64.wrap (1 + (andK IntKind.i64 x0.f1 63))) k0 (andK IntKind.i64 x0.f2 7)).1).drop (k1 + 1)) (k1 + 1) := by
               rewrite [drop_cons hx1]
               rewrite [stays19_L1]
               try dsimp only
               rewrite [if_neg g156]
               all_goals rfl
              exact lup_againT (k1 + 1) ⟨e162.symm.trans hI1, hk1⟩ (by show ((tauntT l0 (IntKind.i64.wrap (1 + (andK IntKind.i64 x0.f1 63))) k0 (andK IntKind.i64 x0.f2 7)).1).length - (k1 + 1) < ((tauntT l0 (IntKind.i64.wrap (1 + (andK IntKind.i64 x0.f1 63))) k0 (andK IntKind.i64 x0.f2 7)).1).length - k1; omega) (Trans.ren [] (by decide +kernel) (by decide +kernel) rfl ⟨⟨rfl, rfl⟩, ⟨rfl, rfl⟩, ⟨rfl, rfl⟩, ⟨rfl, rfl⟩, ⟨rfl, rfl⟩, ⟨rfl, rfl⟩, ⟨rfl, rfl⟩, ⟨congrArg (fun n => some (I n)) (wrapI (k := k1) (by first | omega | (simp; omega))), rfl⟩, trivial⟩ ⟨⟨rfl, rfl, rfl⟩, trivial⟩ (by decide))
            ·have g154 : ¬ ((k1 : Int) < ((tauntT l0 (IntKind.i64.wrap (1 + (andK IntKind.i64 x0.f1 63))) k0 (andK IntKind.i64 x0.f2 7)).1.length)) := of_decide_eq_false h154
             have hk1 : k1 = ((tauntT l0 (IntKind.i64.wrap (1 + (andK IntKind.i64 x0.f1 63))) k0 (andK IntKind.i64 x0.f2 7)).1).length := by omega
             refine sem_exit ?_
             refine seqK_e ?_
             refine lupK_e ?_
             refine blkK_t rfl ?_
             have e163 : stays19_L1 l0 k0 x0 ((tauntT l0 (IntKind.i64.wrap (1 + (andK IntKind.i64 x0.f1 63))) k0 (andK IntKind.i64 x0.f2 7)).1) 0 = .inr () := by
              rewrite [← hI1, hk1, List.drop_length]
              rewrite [stays19_L1]
              try dsimp only
              all_goals rfl
             exact cutW_n () e163 (Trans.ren [] (by decide +kernel) (by decide +kernel) rfl ⟨⟨rfl, rfl⟩, ⟨rfl, rfl⟩, ⟨rfl, rfl⟩, ⟨rfl, rfl⟩, ⟨rfl, rfl⟩, ⟨rfl, rfl⟩, trivial⟩ ⟨⟨rfl, rfl, rfl⟩, trivial⟩ (by decide))
           ·rintro ⟨⟩ (hJ152 : stays19_L1 l0 k0 x0 ((tauntT l0 (IntKind.i64.wrap (1 + (andK IntKind.i64 x0.f1 63))) k0 (andK IntKind.i64 x0.f2 7)).1) 0 = .inr ())
            show blkK _ _ .normal (⟨[(0, .pv (.slc steps.length steps_f (steps.flatMap encA3int))), (1, .pv (.slc near.length near_f (encI near))), (5, B (small19)), (6, .ref 0 3 0 (tauntT l0 (IntKind.i64.wrap (1 + (andK IntKind.i64 x0.f1 63))) k0 (andK IntKind.i64 x0.f2 7)).1.length), (7, I target0), (8, I k0)], [(0, .row 40 3 ((tauntT l0 (IntKind.i64.wrap (1 + (andK IntKind.i64 x0.f1 63))) k0 (andK IntKind.i64 x0.f2 7)).1.flatMap encGThreat))], 1, [], 207, 0⟩ : St)
            refine blkK_n ?_
            have e164 : stays19_J47 l0 k0 x0 = .inr ((tauntT l0 (IntKind.i64.wrap (1 + (andK IntKind.i64 x0.f1 63))) k0 (andK IntKind.i64 x0.f2 7)).1) := by
             unfold stays19_J47
             try dsimp only
             rewrite [hJ14]
             try dsimp only
             rewrite [if_neg g20, if_neg g123, if_pos g146, if_pos g151, hJ152]
             try dsimp only
             all_goals rfl
            exact cutW_n ((tauntT l0 (IntKind.i64.wrap (1 + (andK IntKind.i64 x0.f1 63))) k0 (andK IntKind.i64 x0.f2 7)).1) ⟨e164, by first | assumption | omega | (simp; omega) | simp_all | grind⟩ (Trans.ren [] (by decide +kernel) (by decide +kernel) rfl ⟨⟨rfl, rfl⟩, ⟨rfl, rfl⟩, ⟨rfl, rfl⟩, ⟨rfl, rfl⟩, ⟨rfl, rfl⟩, ⟨rfl, rfl⟩, trivial⟩ ⟨⟨rfl, rfl, rfl⟩, trivial⟩ (by decide))
          ·have g151 : ¬ (((tauntT l0 (IntKind.i64.wrap (1 + (andK IntKind.i64 x0.f1 63))) k0 (andK IntKind.i64 x0.f2 7)).2 : Int) = 0) := beq_f h151
           refine sem_skip ?_
           refine blkK_n ?_
           have e165 : stays19_J47 l0 k0 x0 = .inr l0 := by
            unfold stays19_J47
            try dsimp only
            rewrite [hJ14]
            try dsimp only
            rewrite [if_neg g20, if_neg g123, if_pos g146, if_neg g151]
            all_goals rfl
           exact cutW_n l0 ⟨e165, by first | assumption | omega | (simp; omega) | simp_all | grind⟩ (Trans.ren [] (by decide +kernel) (by decide +kernel) rfl ⟨⟨rfl, rfl⟩, ⟨rfl, rfl⟩, ⟨rfl, rfl⟩, ⟨rfl, rfl⟩, ⟨rfl, rfl⟩, ⟨rfl, rfl⟩, trivial⟩ ⟨⟨rfl, rfl, rfl⟩, trivial⟩ (by decide))
         ·have g146 : ¬ ((andK IntKind.i64 x0.f0 3 : Int) = 3) := beq_f h146
          refine sem_skip ?_
          refine blkK_n ?_
          have e166 : stays19_J47 l0 k0 x0 = .inr l0 := by
           unfold stays19_J47
           try dsimp only
           rewrite [hJ14]
           try dsimp only
           rewrite [if_neg g20, if_neg g123, if_neg g146]
           all_goals rfl
          exact cutW_n l0 ⟨e166, by first | assumption | omega | (simp; omega) | simp_all | grind⟩ (Trans.ren [] (by decide +kernel) (by decide +kernel) rfl ⟨⟨rfl, rfl⟩, ⟨rfl, rfl⟩, ⟨rfl, rfl⟩, ⟨rfl, rfl⟩, ⟨rfl, rfl⟩, ⟨rfl, rfl⟩, trivial⟩ ⟨⟨rfl, rfl, rfl⟩, trivial⟩ (by decide))
     ·rintro l_47 ⟨(hJ13 : stays19_J47 l0 k0 x0 = .inr l_47), hK47⟩
      show seqK _ _ _ .normal (⟨[(0, .pv (.slc steps.length steps_f (steps.flatMap encA3int))), (1, .pv (.slc near.length near_f (encI near))), (5, B (small19)), (6, .ref 0 3 0 l_47.length), (7, I target0), (8, I k0)], [(0, .row 40 3 (l_47.flatMap encGThreat))], 1, [], 207, 0⟩ : St)
      refine seqK_n ?_
      refine sem_seq ?_
      refine sem_region rfl ?_
      refine step_r rfl rfl trivial ?_
      refine step_r rfl rfl trivial ?_
      refine step_r rfl rfl trivial ?_
      refine step_r rfl rfl trivial ?_
      refine step_callJ (Hin := [.row _ _ _]) (H' := [(0, .row _ _ _)]) (nx' := 1) [0] rfl rfl rfl rfl rfl rfl rfl rfl rfl (by (repeat' apply And.intro) <;> first | trivial | rfl | exact flat_len (s := 3) (enc := encGThreat) (fun _ => rfl) _ | exact flat_len (fun _ => rfl) _ | exact encI_len _ | exact encB_len _ | exact encY_len _ | exact Nat.le_of_ble_eq_true rfl | assumption) (targetT_ok l_47 false k0 target0 near false) rfl (by decide) rfl rfl trivial rfl rfl rfl rfl ?_
      refine step_r rfl rfl trivial ?_
      refine step_nil ?_
      refine seqK_n ?_
      refine sem_seq ?_
      refine sem_cutW (fun in_166 : Bool => (⟨[(0, .pv (.slc steps.length steps_f (steps.flatMap encA3int))), (1, .pv (.slc near.length near_f (encI near))), (5, B (small19)), (6, .ref 0 3 0 l_47.length), (8, I k0), (18, I (targetT l_47 k0 target0 near)), (19, B in_166)], [(0, .row 40 3 (l_47.flatMap encGThreat))], 1, [], 207, 0⟩ : St)) (fun w_ => stays19_J166 near target0 k0 l_47 = w_) ?_ ?_
      ·refine sem_region rfl ?_
       refine step_r rfl rfl trivial ?_
       refine step_bin rfl rfl rfl rfl rfl trivial ?_
       refine step_r rfl rfl trivial ?_
       refine step_gs rfl (fun h172 => ?_) (fun h172 => ?_)
       ·have g172 : (targetT l_47 k0 target0 near : Int) = 0 := beq_t h172
        refine step_g1 rfl h172 ?_
        refine step_r rfl rfl trivial ?_
        refine step_g1 rfl h172 ?_
        refine step_r rfl rfl trivial ?_
        refine step_g1 rfl h172 ?_
        refine step_bin rfl rfl rfl rfl rfl trivial ?_
        refine step_pickT rfl h172 rfl rfl ?_
        refine step_r rfl rfl trivial ?_
        refine step_nil ?_
        have e174 : stays19_J166 near target0 k0 l_47 = ((l_47.length : Int) == 0) := by
         unfold stays19_J166
         try dsimp only
         rewrite [if_pos g172]
         all_goals rfl
        exact cutW_n ((l_47.length : Int) == 0) e174 (Trans.ren [] (by decide +kernel) (by decide +kernel) rfl ⟨⟨rfl, rfl⟩, ⟨rfl, rfl⟩, ⟨rfl, rfl⟩, ⟨rfl, rfl⟩, ⟨rfl, rfl⟩, ⟨rfl, rfl⟩, ⟨rfl, rfl⟩, trivial⟩ ⟨⟨rfl, rfl, rfl⟩, trivial⟩ (by decide))
       ·have g172 : ¬ ((targetT l_47 k0 target0 near : Int) = 0) := beq_f h172
        refine step_g0 rfl h172 rfl ?_
        refine step_g0 rfl h172 rfl ?_
        refine step_g0 rfl h172 rfl ?_
        refine step_pickF rfl h172 rfl rfl ?_
        refine step_r rfl rfl trivial ?_
        refine step_nil ?_
        have e175 : stays19_J166 near target0 k0 l_47 = false := by
         unfold stays19_J166
         try dsimp only
         rewrite [if_neg g172]
         all_goals rfl
        exact cutW_n false e175 (Trans.ren [] (by decide +kernel) (by decide +kernel) rfl ⟨⟨rfl, rfl⟩, ⟨rfl, rfl⟩, ⟨rfl, rfl⟩, ⟨rfl, rfl⟩, ⟨rfl, rfl⟩, ⟨rfl, rfl⟩, ⟨rfl, rfl⟩, trivial⟩ ⟨⟨rfl, rfl, rfl⟩, trivial⟩ (by decide))
      ·rintro in_166 (hJ170 : stays19_J166 near target0 k0 l_47 = in_166)
       show seqK _ _ _ .normal (⟨[(0, .pv (.slc steps.length steps_f (steps.flatMap encA3int))), (1, .pv (.slc near.length near_f (encI near))), (5, B (small19)), (6, .ref 0 3 0 l_47.length), (8, I k0), (18, I (targetT l_47 k0 target0 near)), (19, B in_166)], [(0, .row 40 3 (l_47.flatMap encGThreat))], 1, [], 207, 0⟩ : St)
       refine seqK_n ?_
       refine sem_seq ?_
       refine sem_seq ?_
       refine sem_region rfl ?_
       refine step_r rfl rfl trivial ?_
       refine step_nil ?_
       refine seqK_n ?_
       refine sem_cutW (fun in_2 : Bool => (⟨[(0, .pv (.slc steps.length steps_f (steps.flatMap encA3int))), (1, .pv (.slc near.length near_f (encI near))), (5, B (small19)), (6, .ref 0 3 0 l_47.length), (8, I k0), (18, I (targetT l_47 k0 target0 near)), (19, B in_2)], [(0, .row 40 3 (l_47.flatMap encGThreat))], 1, [], 207, 0⟩ : St)) (fun w_ => stays19_L2 near target0 k0 l_47 l_47 0 in_166 = w_) ?_ ?_
       ·refine sem_block ?_
        refine sem_loopT (fun w_ : Nat × Bool => match w_ with | (k2, in2) => (⟨[(0, .pv (.slc steps.length steps_f (steps.flatMap encA3int))), (1, .pv (.slc near.length near_f (encI near))), (5, B (small19)), (6, .ref 0 3 0 l_47.length), (8, I k0), (18, I (targetT l_47 k0 target0 near)), (19, B in2), (20, I k2)], [(0, .row 40 3 (l_47.flatMap encGThreat))], 1, [], 207, 0⟩ : St)) (fun w_ : Nat × Bool => match w_ with | (k2, in2) => stays19_L2 near target0 k0 l_47 (l_47.drop k2) k2 in2 = stays19_L2 near target0 k0 l_47 l_47 0 in_166 ∧ k2 ≤ l_47.length) (fun w_ : Nat × Bool => match w_ with | (k2, in2) => l_47.length - k2) (0, in_166) (⟨rfl, Nat.zero_le _⟩) ?_ (fun w_ hh_ => ?_)
        ·exact (Trans.ren [] (by decide +kernel) (by decide +kernel) rfl ⟨⟨rfl, rfl⟩, ⟨rfl, rfl⟩, ⟨rfl, rfl⟩, ⟨rfl, rfl⟩, ⟨rfl, rfl⟩, ⟨rfl, rfl⟩, ⟨rfl, rfl⟩, ⟨rfl, rfl⟩, trivial⟩ ⟨⟨rfl, rfl, rfl⟩, trivial⟩ (by decide))
        obtain ⟨k2, in2⟩ := w_
        obtain ⟨hI2, hb2⟩ := hh_
        show Walks Try.prog _ _ (⟨[(0, .pv (.slc steps.length steps_f (steps.flatMap encA3int))), (1, .pv (.slc near.length near_f (encI near))), (5, B (small19)), (6, .ref 0 3 0 l_47.length), (8, I k0), (18, I (targetT l_47 k0 target0 near)), (19, B in2), (20, I k2)], [(0, .row 40 3 (l_47.flatMap encGThreat))], 1, [], 207, 0⟩ : St)
        refine sem_seq ?_
        refine sem_seq ?_
        refine sem_region rfl ?_
        refine step_r rfl rfl trivial ?_
        refine step_r rfl rfl trivial ?_
        refine step_r rfl rfl trivial ?_
        refine step_bin rfl rfl rfl rfl rfl trivial ?_
        refine step_nil ?_
        refine seqK_n ?_
        refine sem_cond rfl (fun h178 => ?_) (fun h178 => ?_)
        ·have g178 : (k2 : Int) < l_47.length := of_decide_eq_true h178
         have hk2 : k2 < l_47.length := by omega
         obtain ⟨x2, hx2⟩ : ∃ z_, l_47[k2]? = some z_ := ⟨_, List.getElem?_eq_getElem hk2⟩
         refine sem_skip ?_
         refine seqK_n ?_
         refine sem_seq ?_
         refine sem_block ?_
         refine sem_region rfl ?_
         refine step_r rfl rfl trivial ?_
         refine step_r rfl rfl trivial ?_
         refine step_gs rfl (fun h180 => ?_) (fun h180 => ?_)
         ·have g180 : in2 = true := h180
          refine step_g0 rfl h180 rfl ?_
          refine step_g0 rfl h180 rfl ?_
          refine step_g0 rfl h180 rfl ?_
          refine step_g0 rfl h180 rfl ?_
          refine step_g0 rfl h180 rfl ?_
          refine step_g0 rfl h180 rfl ?_
          refine step_g0 rfl h180 rfl ?_
          refine step_pickT rfl h180 rfl rfl ?_
          refine step_r rfl rfl trivial ?_
          refine step_nil ?_
          refine blkK_n ?_
          refine seqK_n ?_
          refine sem_region rfl ?_
          refine step_r rfl rfl trivial ?_
          refine step_bin rfl rfl rfl rfl rfl trivial ?_
          refine step_r rfl rfl trivial ?_
          refine step_nil ?_
          have e182 : stays19_L2 near target0 k0 l_47 (l_47.drop k2) k2 in2 = stays19_L2 near target0 k0 l_47 (l_47.drop (k2 + 1)) (k2 + 1) true := by
           rewrite [drop_cons hx2]
           rewrite [stays19_L2]
           try dsimp only
           rewrite [if_pos g180]
           all_goals rfl
          exact lup_againT (k2 + 1, true) ⟨e182.symm.trans hI2, hk2⟩ (by show l_47.length - (k2 + 1) < l_47.length - k2; omega) (Trans.ren [] (by decide +kernel) (by decide +kernel) rfl ⟨⟨rfl, rfl⟩, ⟨rfl, rfl⟩, ⟨rfl, rfl⟩, ⟨rfl, rfl⟩, ⟨rfl, rfl⟩, ⟨rfl, rfl⟩, ⟨rfl, rfl⟩, ⟨congrArg (fun n => some (I n)) (wrapI (k := k2) (by first | omega | (simp; omega))), rfl⟩, trivial⟩ ⟨⟨rfl, rfl, rfl⟩, trivial⟩ (by decide))
         ·have g180 : ¬ (in2 = true) := boo_f h180
          refine step_g1 rfl h180 ?_
          refine step_r rfl rfl trivial ?_
          refine step_g1 rfl h180 ?_
          refine step_r rfl rfl trivial ?_
          refine step_g1 rfl h180 ?_
          refine step_idxR (k := k2) rfl rfl rfl rfl hk2 rfl ?_
          refine step_g1 rfl h180 ?_
          refine step_r rfl rfl (by decide) ?_
          refine step_g1 rfl h180 ?_
          refine step_load_oneR rfl rfl rfl rfl (flat_get (s := 3) (enc := encGThreat) (fun _ => rfl) hx2 (o := 0) rfl (by decide)) rfl ?_
          refine step_g1 rfl h180 ?_
          refine step_r rfl rfl trivial ?_
          refine step_g1 rfl h180 ?_
          refine step_bin rfl rfl rfl rfl rfl trivial ?_
          refine step_pickF rfl h180 rfl rfl ?_
          refine step_r rfl rfl trivial ?_
          refine step_nil ?_
          refine blkK_n ?_
          refine seqK_n ?_
          refine sem_region rfl ?_
          refine step_r rfl rfl trivial ?_
          refine step_bin rfl rfl rfl rfl rfl trivial ?_
          refine step_r rfl rfl trivial ?_
          refine step_nil ?_
          have e186 : stays19_L2 near target0 k0 l_47 (l_47.drop k2) k2 in2 = stays19_L2 near target0 k0 l_47 (l_47.drop (k2 + 1)) (k2 + 1) ((x2.Unit : Int) == (targetT l_47 k0 target0 near)) := by
           rewrite [drop_cons hx2]
           rewrite [stays19_L2]
           try dsimp only
           rewrite [if_neg g180]
           all_goals rfl
          exact lup_againT (k2 + 1, ((x2.Unit : Int) == (targetT l_47 k0 target0 near))) ⟨e186.symm.trans hI2, hk2⟩ (by show l_47.length - (k2 + 1) < l_47.length - k2; omega) (Trans.ren [] (by decide +kernel) (by decide +kernel) rfl ⟨⟨rfl, rfl⟩, ⟨rfl, rfl⟩, ⟨rfl, rfl⟩, ⟨rfl, rfl⟩, ⟨rfl, rfl⟩, ⟨rfl, rfl⟩, ⟨rfl, rfl⟩, ⟨congrArg (fun n => some (I n)) (wrapI (k := k2) (by first | omega | (simp; omega))), rfl⟩, trivial⟩ ⟨⟨rfl, rfl, rfl⟩, trivial⟩ (by decide))
        ·have g178 : ¬ ((k2 : Int) < l_47.length) := of_decide_eq_false h178
         have hk2 : k2 = l_47.length := by omega
         refine sem_exit ?_
         refine seqK_e ?_
         refine lupK_e ?_
         refine blkK_t rfl ?_
         have e187 : stays19_L2 near target0 k0 l_47 l_47 0 in_166 = in2 := by
          rewrite [← hI2, hk2, List.drop_length]
          rewrite [stays19_L2]
          try dsimp only
          all_goals rfl
         exact cutW_n in2 e187 (Trans.ren [] (by decide +kernel) (by decide +kernel) rfl ⟨⟨rfl, rfl⟩, ⟨rfl, rfl⟩, ⟨rfl, rfl⟩, ⟨rfl, rfl⟩, ⟨rfl, rfl⟩, ⟨rfl, rfl⟩, ⟨rfl, rfl⟩, trivial⟩ ⟨⟨rfl, rfl, rfl⟩, trivial⟩ (by decide))
       ·rintro in_2 (hJ176 : stays19_L2 near target0 k0 l_47 l_47 0 in_166 = in_2)
        show seqK _ _ _ .normal (⟨[(0, .pv (.slc steps.length steps_f (steps.flatMap encA3int))), (1, .pv (.slc near.length near_f (encI near))), (5, B (small19)), (6, .ref 0 3 0 l_47.length), (8, I k0), (18, I (targetT l_47 k0 target0 near)), (19, B in_2)], [(0, .row 40 3 (l_47.flatMap encGThreat))], 1, [], 207, 0⟩ : St)
        refine seqK_n ?_
        refine sem_seq ?_
        refine sem_seq ?_
        refine sem_region rfl ?_
        refine step_r rfl rfl trivial ?_
        refine step_callJ (Hin := [.row _ _ _]) (H' := [(0, .row _ _ _)]) (nx' := 1) [0] rfl rfl rfl rfl rfl rfl rfl rfl rfl (by (repeat' apply And.intro) <;> first | trivial | rfl | exact flat_len (s := 3) (enc := encGThreat) (fun _ => rfl) _ | exact flat_len (fun _ => rfl) _ | exact encI_len _ | exact encB_len _ | exact encY_len _ | exact Nat.le_of_ble_eq_true rfl | assumption) (rightT_ok l_47 false) rfl (by decide) rfl rfl trivial rfl rfl rfl rfl ?_
        refine step_r rfl rfl trivial ?_
        refine step_r rfl rfl trivial ?_
        refine step_gs rfl (fun h189 => ?_) (fun h189 => ?_)
        ·have g189 : ¬ (rightT l_47 = true) := boo_f (not_t h189)
         refine step_g0 rfl h189 rfl ?_
         refine step_g0 rfl h189 rfl ?_
         refine step_pickT rfl h189 rfl rfl ?_
         refine step_r rfl rfl trivial ?_
         refine step_gf rfl rfl ?_
         refine step_gf rfl rfl ?_
         refine step_gf rfl rfl ?_
         refine step_gf rfl rfl ?_
         refine step_gf rfl rfl ?_
         refine step_gf rfl rfl ?_
         refine step_gf rfl rfl ?_
         refine step_r rfl rfl trivial ?_
         refine step_nil ?_
         refine seqK_n ?_
         refine sem_condT rfl ?_
         refine sem_seq ?_
         refine sem_region rfl ?_
         refine step_r rfl rfl trivial ?_
         refine step_nil ?_
         refine seqK_n ?_
         refine sem_ret ?_
         refine seqK_r ?_
         refine blkK_r ?_
         refine seqK_r ?_
         refine lupK_r ?_
         refine blkK_r ?_
         refine cutW_r ?_
         refine seqK_r ?_
         have e190 : stays19_L0 near steps 0 ([]) 0 = .inl false := by
          rewrite [← hI0, drop_cons hx0]
          rewrite [stays19_L0]
          try dsimp only
          rewrite [hJ13]
          try dsimp only
          rewrite [hJ170]
          try dsimp only
          rewrite [hJ176]
          try dsimp only
          rewrite [if_neg g189]
          all_goals rfl
         have e191 : stays19 steps near = false := by
          unfold stays19
          try dsimp only
          rewrite [if_neg g3, if_neg g6, e190]
          try dsimp only
          all_goals rfl
         rw [e191]
         exact answersR rfl ⟨trivial, trivial⟩ (rfl) rfl
        ·have g189 : rightT l_47 = true := (not_f h189)
         have qg189 := rightT_len g189
         refine step_g1 rfl h189 ?_
         refine step_r rfl rfl trivial ?_
         refine step_g1 rfl h189 ?_
         refine step_r rfl rfl trivial ?_
         refine step_pickF rfl h189 rfl rfl ?_
         refine step_r rfl rfl trivial ?_
         refine step_gs rfl (fun h194 => ?_) (fun h194 => ?_)
         ·have g194 : ¬ (in_2 = true) := boo_f (not_t h194)
          refine step_g0 rfl h194 rfl ?_
          refine step_g0 rfl h194 rfl ?_
          refine step_g0 rfl h194 rfl ?_
          refine step_g0 rfl h194 rfl ?_
          refine step_g0 rfl h194 rfl ?_
          refine step_g0 rfl h194 rfl ?_
          refine step_g0 rfl h194 rfl ?_
          refine step_pickT rfl h194 rfl rfl ?_
          refine step_nil ?_
          refine seqK_n ?_
          refine sem_condT rfl ?_
          refine sem_seq ?_
          refine sem_region rfl ?_
          refine step_r rfl rfl trivial ?_
          refine step_nil ?_
          refine seqK_n ?_
          refine sem_ret ?_
          refine seqK_r ?_
          refine blkK_r ?_
          refine seqK_r ?_
          refine lupK_r ?_
          refine blkK_r ?_
          refine cutW_r ?_
          refine seqK_r ?_
          have e195 : stays19_L0 near steps 0 ([]) 0 = .inl false := by
           rewrite [← hI0, drop_cons hx0]
           rewrite [stays19_L0]
           try dsimp only
           rewrite [hJ13]
           try dsimp only
           rewrite [hJ170]
           try dsimp only
           rewrite [hJ176]
           try dsimp only
           rewrite [if_pos g189, if_neg g194]
           all_goals rfl
          have e196 : stays19 steps near = false := by
           unfold stays19
           try dsimp only
           rewrite [if_neg g3, if_neg g6, e195]
           try dsimp only
           all_goals rfl
          rw [e196]
          exact answersR rfl ⟨trivial, trivial⟩ (rfl) rfl
         ·have g194 : in_2 = true := (not_f h194)
          refine step_g1 rfl h194 ?_
          refine step_r rfl rfl trivial ?_
          refine step_g1 rfl h194 ?_
          refine step_r rfl rfl trivial ?_
          refine step_g1 rfl h194 ?_
          refine step_r rfl rfl trivial ?_
          refine step_g1 rfl h194 ?_
          refine step_r rfl rfl trivial ?_
          refine step_g1 rfl h194 ?_
          refine step_callJ (Hin := [.row _ _ _]) (H' := [(0, .row _ _ _)]) (nx' := 1) [0] rfl rfl rfl rfl rfl rfl rfl rfl rfl (by (repeat' apply And.intro) <;> first | trivial | rfl | exact flat_len (s := 3) (enc := encGThreat) (fun _ => rfl) _ | exact flat_len (fun _ => rfl) _ | exact encI_len _ | exact encB_len _ | exact encY_len _ | exact Nat.le_of_ble_eq_true rfl | assumption) (targetT_ok l_47 false k0 (targetT l_47 k0 target0 near) near false) rfl (by decide) rfl rfl trivial rfl rfl rfl rfl ?_
          refine step_g1 rfl h194 ?_
          refine step_r rfl rfl trivial ?_
          refine step_g1 rfl h194 ?_
          refine step_bin rfl rfl rfl rfl rfl trivial ?_
          refine step_pickF rfl h194 rfl rfl ?_
          refine step_nil ?_
          refine seqK_n ?_
          refine sem_cond rfl (fun h200 => ?_) (fun h200 => ?_)
          ·have g200 : ¬ ((targetT l_47 k0 (targetT l_47 k0 target0 near) near : Int) = (targetT l_47 k0 target0 near)) := bne_t h200
           refine sem_seq ?_
           refine sem_region rfl ?_
           refine step_r rfl rfl trivial ?_
           refine step_nil ?_
           refine seqK_n ?_
           refine sem_ret ?_
           refine seqK_r ?_
           refine blkK_r ?_
           refine seqK_r ?_
           refine lupK_r ?_
           refine blkK_r ?_
           refine cutW_r ?_
           refine seqK_r ?_
           have e201 : stays19_L0 near steps 0 ([]) 0 = .inl false := by
            rewrite [← hI0, drop_cons hx0]
            rewrite [stays19_L0]
            try dsimp only
            rewrite [hJ13]
            try dsimp only
            rewrite [hJ170]
            try dsimp only
            rewrite [hJ176]
            try dsimp only
            rewrite [if_pos g189, if_pos g194, if_neg g200]
            all_goals rfl
           have e202 : stays19 steps near = false := by
            unfold stays19
            try dsimp only
            rewrite [if_neg g3, if_neg g6, e201]
            try dsimp only
            all_goals rfl
           rw [e202]
           exact answersR rfl ⟨trivial, trivial⟩ (rfl) rfl
          ·have g200 : (targetT l_47 k0 (targetT l_47 k0 target0 near) near : Int) = (targetT l_47 k0 target0 near) := bne_f h200
           refine sem_skip ?_
           refine seqK_n ?_
           refine sem_region rfl ?_
           refine step_r rfl rfl trivial ?_
           refine step_r rfl rfl trivial ?_
           refine step_nil ?_
           refine blkK_n ?_
           refine seqK_n ?_
           refine sem_region rfl ?_
           refine step_r rfl rfl trivial ?_
           refine step_bin rfl rfl rfl rfl rfl trivial ?_
           refine step_r rfl rfl trivial ?_
           refine step_nil ?_
           have e204 : stays19_L0 near (steps.drop k0) k0 l0 target0 = stays19_L0 near (steps.drop (k0 + 1)) (k0 + 1) l_47 (targetT l_47 k0 target0 near) := by
            rewrite [drop_cons hx0]
            rewrite [stays19_L0]
            try dsimp only
            rewrite [hJ13]
            try dsimp only
            rewrite [hJ170]
            try dsimp only
            rewrite [hJ176]
            try dsimp only
            rewrite [if_pos g189, if_pos g194, if_pos g200]
            all_goals rfl
           exact lup_againT (k0 + 1, l_47, (targetT l_47 k0 target0 near)) ⟨e204.symm.trans hI0, hk0, by first | omega | assumption | (simp only [List.length_append, List.length_cons, List.length_nil, List.length_set]; omega) | (simp; omega) | grind⟩ (by show steps.length - (k0 + 1) < steps.length - k0; omega) (Trans.ren [] (by decide +kernel) (by decide +kernel) rfl ⟨⟨rfl, rfl⟩, ⟨rfl, rfl⟩, ⟨rfl, rfl⟩, ⟨rfl, rfl⟩, ⟨rfl, rfl⟩, ⟨congrArg (fun n => some (I n)) (wrapI (k := k0) (by first | omega | (simp; omega))), rfl⟩, trivial⟩ ⟨⟨rfl, rfl, rfl⟩, trivial⟩ (by decide))
    ·have g10 : ¬ ((k0 : Int) < steps.length) := of_decide_eq_false h10
     have hk0 : k0 = steps.length := by omega
     refine sem_exit ?_
     refine seqK_e ?_
     refine lupK_e ?_
     refine blkK_t rfl ?_
     have e205 : stays19_L0 near steps 0 ([]) 0 = .inr () := by
      rewrite [← hI0, hk0, List.drop_length]
      rewrite [stays19_L0]
      try dsimp only
      all_goals rfl
     exact cutW_n () e205 (Trans.ren [] (by decide +kernel) (by decide +kernel) rfl ⟨⟨rfl, rfl⟩, trivial⟩ trivial (by decide))
   ·rintro ⟨⟩ (hJ8 : stays19_L0 near steps 0 ([]) 0 = .inr ())
    show seqK _ _ _ .normal (⟨[(5, B (small19))], [], 0, [], 207, 0⟩ : St)
    refine seqK_n ?_
    refine sem_seq ?_
    refine sem_region rfl ?_
    refine step_r rfl rfl trivial ?_
    refine step_r rfl rfl trivial ?_
    refine step_nil ?_
    refine seqK_n ?_
    refine sem_ret ?_
    have e207 : stays19 steps near = (small19) := by
     unfold stays19
     try dsimp only
     rewrite [if_neg g3, if_neg g6, hJ8]
     try dsimp only
     all_goals rfl
    rw [e207]
    exact answersR rfl ⟨trivial, trivial⟩ (rfl) rfl
end Go.Proofs.Ytcahldiaeamgaaa

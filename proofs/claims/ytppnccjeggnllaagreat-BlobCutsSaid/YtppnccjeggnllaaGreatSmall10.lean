import Derived.Test.YtppnccjeggnllaaGreatSame10
namespace Go.Proofs.YtppnccjeggnllaaGreat
open Go Go.RowKit Go.Proofs.YtppnccjeggnllaaGreatVm
attribute [local irreducible] opsWp AnswersE OpsS
set_option maxHeartbeats 400000
set_option maxRecDepth 100000
set_option linter.all false
attribute [local irreducible] flat enc dec right9 sameCR sameIR
theorem small_fits : Fits (⟨[], [], [], (⟨1, 1, [false]⟩ : GGrid), (⟨0, 0⟩ : GPos), (⟨0, 0⟩ : GPos)⟩ : GContent) := ⟨by decide, by decide, by decide, by decide, by decide, by decide⟩
theorem small_flat : (flat (⟨[], [], [], (⟨1, 1, [false]⟩ : GGrid), (⟨0, 0⟩ : GPos), (⟨0, 0⟩ : GPos)⟩ : GContent)).length ≤ 1400000 := by decide +kernel
theorem putsI_L0_len : ∀ (l : List Int) (k : Nat) (out : List UInt8), (putsI_L0 l k out).length ≤ out.length + 11 * l.length
  | [], k, out => by rw [putsI_L0]; exact Nat.le_refl _
  | x :: l, k, out => by
    rw [putsI_L0]
    have h1 := putsI_L0_len l (k + 1) (put out (fold x))
    have h2 := put_len out (fold x)
    simp only [List.length_cons]; omega
theorem enc_len (c : GContent) (hl : (flat c).length ≤ 1400000) : (enc c).1.length ≤ 15999000 := by
  unfold enc
  split
  · have h1 := putsI_L0_len (flat c) 0 (putU [66, 82, 87, 49] (flat c).length)
    have h2 := putU_len [66, 82, 87, 49] (flat c).length
    simp only [List.length_cons, List.length_nil] at h2
    unfold putsI; dsimp only; omega
  · exact Nat.zero_le _

def small10 : Bool :=
  if sameIR (flat (⟨[], [], [], (⟨1, 1, [false]⟩ : GGrid), (⟨0, 0⟩ : GPos), (⟨0, 0⟩ : GPos)⟩ : GContent)) ([0, 0, 0, 1, 1, 1, 0, 0, 0, 0, 0]) = true then (if ((enc (⟨[], [], [], (⟨1, 1, [false]⟩ : GGrid), (⟨0, 0⟩ : GPos), (⟨0, 0⟩ : GPos)⟩ : GContent)).2 : Int) = 0 then (if ((dec ((enc (⟨[], [], [], (⟨1, 1, [false]⟩ : GGrid), (⟨0, 0⟩ : GPos), (⟨0, 0⟩ : GPos)⟩ : GContent)).1)).2 : Int) = 0 then (if sameCR (⟨[], [], [], (⟨1, 1, [false]⟩ : GGrid), (⟨0, 0⟩ : GPos), (⟨0, 0⟩ : GPos)⟩ : GContent) ((dec ((enc (⟨[], [], [], (⟨1, 1, [false]⟩ : GGrid), (⟨0, 0⟩ : GPos), (⟨0, 0⟩ : GPos)⟩ : GContent)).1)).1) = true then (if ((dec ([(66 : UInt8), (82 : UInt8), (87 : UInt8), (49 : UInt8)])).2 : Int) = 2 then (((enc (⟨[], [], [], (⟨1, 1, [false]⟩ : GGrid), (⟨0, 0⟩ : GPos), (⟨0, 0⟩ : GPos)⟩ : GContent)).1.length : Int) == 16) else false) else false) else false) else false) else false
theorem small10_ok  : Ok Tryz.prog 7 [] [] (B (small10)) [] [] := by
 refine ok_of_sem Tryz.func7 rfl ?_
 show Walks Tryz.prog _ _ ⟨[], [], 0, [], 53, 0⟩
 refine sem_seq (sem_region rfl (step_r rfl rfl trivial (step_nil (seqK_n (sem_seq (sem_region rfl (step_n (o := .row _ _ [_]) (nx' := 1) rfl rfl rfl (by decide) (step_r (v := (.agg [_, _, _])) rfl rfl trivial (step_r (v := (.agg [_, _, _, _, _, _, _, _, _, _])) rfl rfl trivial (step_n (o := .box [_, _, _, _, _, _, _, _, _, _]) (nx' := 2) rfl rfl rfl trivial ?_))))))))))
 refine step_storeB (H' := [(1, .box [_, _, _, _, _, _, _, _, _, _]), (0, _)]) rfl rfl rfl rfl rfl rfl (.inl rfl) rfl ?_
 refine step_nil (seqK_n (sem_seq ?_))
 refine sem_regionS rfl (opsS_cut 2 (j := 0) ?_)
 simp only [List.take_succ_cons, List.take_zero, List.drop_succ_cons, List.drop_zero]
 refine step_r (v := (.agg [_, _, _, _, _, _, _, _, _, _])) rfl rfl (Nat.le_of_ble_eq_true rfl) ?_
 refine step_callJ (Hin := [.row _ _ _]) (out' := .tup [.ref 2 _ _ _, _]) (H' := [(2, .row _ _ _), (1, _), (0, _)]) (nx' := 3) [0] rfl rfl rfl rfl rfl rfl rfl rfl rfl (by (repeat' apply And.intro) <;> first | trivial | rfl | exact flat_len (fun _ => rfl) _ | exact encI_len _ | exact encB_len _ | exact encY_len _ | exact Nat.le_of_ble_eq_true rfl | assumption) (enc_ok (⟨[], [], [], (⟨1, 1, [false]⟩ : GGrid), (⟨0, 0⟩ : GPos), (⟨0, 0⟩ : GPos)⟩ : GContent) (by first | assumption | exact small_fits) (by first | assumption | exact small_flat)) rfl (by decide) rfl rfl ⟨encY_solid, trivial⟩ rfl rfl rfl rfl ?_
 have p1 := enc_len (⟨[], [], [], (⟨1, 1, [false]⟩ : GGrid), (⟨0, 0⟩ : GPos), (⟨0, 0⟩ : GPos)⟩ : GContent) (by first | assumption | exact small_flat)
 refine step_nil ?_
 refine opsS_trans (Trans.freezeJ (T' := [(0, B false), (1, .ptr 1 0), (8, .ref 0 1 0 1), (9, .agg [I 1, I 1, .ref 0 1 0 1]), (10, .agg [.pv (.slc 0 false []), .pv (.slc 0 false []), .pv (.slc 0 false []), I 1, I 1, .ref 0 1 0 1, I 0, I 0, I 0, I 0]), (12, .agg [.pv (.slc 0 false []), .pv (.slc 0 false []), .pv (.slc 0 false []), I 1, I 1, .ref 0 1 0 1, I 0, I 0, I 0, I 0]), (13, .tup [.pv (.slc (enc (⟨[], [], [], (⟨1, 1, [false]⟩ : GGrid), (⟨0, 0⟩ : GPos), (⟨0, 0⟩ : GPos)⟩ : GContent)).1.length false (encY (enc (⟨[], [], [], (⟨1, 1, [false]⟩ : GGrid), (⟨0, 0⟩ : GPos), (⟨0, 0⟩ : GPos)⟩ : GContent)).1)), I (enc (⟨[], [], [], (⟨1, 1, [false]⟩ : GGrid), (⟨0, 0⟩ : GPos), (⟨0, 0⟩ : GPos)⟩ : GContent)).2])]) (H' := [(1, .box [.pv (.slc 0 false []), .pv (.slc 0 false []), .pv (.slc 0 false []), I 1, I 1, .ref 0 1 0 1, I 0, I 0, I 0, I 0]), (0, .row 4 1 [.bool false])]) [2] (by decide) ⟨⟨_, _, rfl, rfl, (by (repeat' apply And.intro) <;> first | trivial | rfl | exact flat_len (fun _ => rfl) _ | exact encI_len _ | exact encB_len _ | exact encY_len _ | exact Nat.le_of_ble_eq_true rfl | assumption)⟩, ⟨_, _, rfl, rfl, (by (repeat' apply And.intro) <;> first | trivial | rfl | exact flat_len (fun _ => rfl) _ | exact encI_len _ | exact encB_len _ | exact encY_len _ | exact Nat.le_of_ble_eq_true rfl | assumption)⟩, ⟨_, _, rfl, rfl, (by (repeat' apply And.intro) <;> first | trivial | rfl | exact flat_len (fun _ => rfl) _ | exact encI_len _ | exact encB_len _ | exact encY_len _ | exact Nat.le_of_ble_eq_true rfl | assumption)⟩, ⟨_, _, rfl, rfl, (by (repeat' apply And.intro) <;> first | trivial | rfl | exact flat_len (fun _ => rfl) _ | exact encI_len _ | exact encB_len _ | exact encY_len _ | exact Nat.le_of_ble_eq_true rfl | assumption)⟩, ⟨_, _, rfl, rfl, (by (repeat' apply And.intro) <;> first | trivial | rfl | exact flat_len (fun _ => rfl) _ | exact encI_len _ | exact encB_len _ | exact encY_len _ | exact Nat.le_of_ble_eq_true rfl | assumption)⟩, ⟨_, _, rfl, rfl, (by (repeat' apply And.intro) <;> first | trivial | rfl | exact flat_len (fun _ => rfl) _ | exact encI_len _ | exact encB_len _ | exact encY_len _ | exact Nat.le_of_ble_eq_true rfl | assumption)⟩, ⟨_, _, rfl, rfl, (by (repeat' apply And.intro) <;> first | trivial | rfl | exact flat_len (fun _ => rfl) _ | exact encI_len _ | exact encB_len _ | exact encY_len _ | exact Nat.le_of_ble_eq_true rfl | assumption)⟩, trivial⟩ ⟨⟨rfl, _, _, rfl, rfl, (by (repeat' apply And.intro) <;> first | trivial | rfl | exact flat_len (fun _ => rfl) _ | exact encI_len _ | exact encB_len _ | exact encY_len _ | exact Nat.le_of_ble_eq_true rfl | assumption)⟩, ⟨rfl, _, _, rfl, rfl, (by (repeat' apply And.intro) <;> first | trivial | rfl | exact flat_len (fun _ => rfl) _ | exact encI_len _ | exact encB_len _ | exact encY_len _ | exact Nat.le_of_ble_eq_true rfl | assumption)⟩, trivial⟩) ?_
 refine opsS_of (j := 2) ?_
 refine step_r rfl rfl trivial (step_r rfl rfl trivial (step_r rfl rfl trivial (step_r rfl rfl trivial (step_r rfl rfl trivial (step_nil (seqK_n (sem_seq (sem_region rfl (step_r rfl rfl trivial (step_call rfl rfl rfl rfl (dec_ok ((enc (⟨[], [], [], (⟨1, 1, [false]⟩ : GGrid), (⟨0, 0⟩ : GPos), (⟨0, 0⟩ : GPos)⟩ : GContent)).1) false (by first | assumption | omega | (simp only [List.length_append, List.length_cons, List.length_nil, List.length_take]; omega))) rfl rfl rfl (step_r rfl rfl trivial ?_)))))))))))
 refine step_r rfl rfl trivial (step_r rfl rfl trivial (step_n (o := .box [_, _, _, _, _, _, _, _, _, _]) (nx' := 4) rfl rfl rfl trivial ?_))
 refine step_storeB (H' := [(3, .box [_, _, _, _, _, _, _, _, _, _]), (1, _), (0, _)]) rfl rfl rfl rfl rfl rfl (.inl rfl) rfl ?_
 refine step_r rfl rfl trivial (step_nil (seqK_n (sem_seq ?_)))
 refine sem_regionS rfl (opsS_cut 1 (j := 0) ?_)
 simp only [List.take_succ_cons, List.take_zero, List.drop_succ_cons, List.drop_zero]
 refine step_n (o := .row _ _ [_, _, _, _]) (nx' := 5) rfl rfl rfl (by decide) (step_nil ?_)
 refine opsS_mark rfl rfl rfl rfl rfl rfl rfl rfl rfl ?_
 refine opsS_of (j := 2) ?_
 refine step_call rfl rfl rfl rfl (dec_ok ([(66 : UInt8), (82 : UInt8), (87 : UInt8), (49 : UInt8)]) false (by first | assumption | omega | (simp only [List.length_append, List.length_cons, List.length_nil, List.length_take]; omega))) rfl rfl rfl (step_r rfl rfl trivial (step_r rfl rfl trivial (step_r rfl rfl trivial (step_n (o := .box [_, _, _, _, _, _, _, _, _, _]) (nx' := 6) rfl rfl rfl trivial ?_))))
 refine step_storeB (H' := [(5, .box [_, _, _, _, _, _, _, _, _, _]), (3, _), (1, _), (0, _)]) rfl rfl rfl rfl rfl rfl (.inl rfl) rfl ?_
 refine step_r rfl rfl trivial (step_nil (seqK_n (sem_seq (sem_region rfl (step_r (v := (.agg [_, _, _, _, _, _, _, _, _, _])) rfl rfl (Nat.le_of_ble_eq_true rfl) ?_)))))
 refine step_callJ (Hin := [.row _ _ _]) (out' := .ref 6 _ _ _) (H' := [(6, .row _ _ _), (5, _), (3, _), (1, _), (0, _)]) (nx' := 7) [0] rfl rfl rfl rfl rfl rfl rfl rfl rfl (by (repeat' apply And.intro) <;> first | trivial | rfl | exact flat_len (fun _ => rfl) _ | exact encI_len _ | exact encB_len _ | exact encY_len _ | exact Nat.le_of_ble_eq_true rfl | assumption) (flat_ok (⟨[], [], [], (⟨1, 1, [false]⟩ : GGrid), (⟨0, 0⟩ : GPos), (⟨0, 0⟩ : GPos)⟩ : GContent) (by first | assumption | exact small_fits)) rfl (by decide) rfl rfl ⟨encI_solid, trivial⟩ rfl rfl rfl rfl ?_
 refine step_n (o := .row _ _ [_, _, _, _, _, _, _, _, _, _, _]) (nx' := 8) rfl rfl rfl (by decide) ?_
 refine step_callJ (Hin := [.row _ _ _, .row _ _ _]) (H' := [(7, _), (6, _), (5, _), (3, _), (1, _), (0, _)]) (nx' := 8) [6, 7] rfl rfl rfl rfl rfl rfl rfl rfl rfl (by (repeat' apply And.intro) <;> first | trivial | rfl | exact flat_len (fun _ => rfl) _ | exact encI_len _ | exact encB_len _ | exact encY_len _ | exact Nat.le_of_ble_eq_true rfl | assumption) (sameIR_ok (flat (⟨[], [], [], (⟨1, 1, [false]⟩ : GGrid), (⟨0, 0⟩ : GPos), (⟨0, 0⟩ : GPos)⟩ : GContent)) false ([0, 0, 0, 1, 1, 1, 0, 0, 0, 0, 0]) false) rfl (by decide) rfl rfl trivial rfl rfl rfl rfl ?_
 refine step_r rfl rfl trivial ?_
 refine step_gs rfl (fun h6 => ?_) (fun h6 => ?_)
 ·have g6 : sameIR (flat (⟨[], [], [], (⟨1, 1, [false]⟩ : GGrid), (⟨0, 0⟩ : GPos), (⟨0, 0⟩ : GPos)⟩ : GContent)) ([0, 0, 0, 1, 1, 1, 0, 0, 0, 0, 0]) = true := h6
  refine step_g1 rfl h6 (step_r rfl rfl trivial (step_g1 rfl h6 (step_bin rfl rfl rfl rfl rfl trivial (step_pickT rfl h6 rfl rfl (step_r rfl rfl trivial ?_)))))
  refine step_gs rfl (fun h8 => ?_) (fun h8 => ?_)
  ·have g8 : ((enc (⟨[], [], [], (⟨1, 1, [false]⟩ : GGrid), (⟨0, 0⟩ : GPos), (⟨0, 0⟩ : GPos)⟩ : GContent)).2 : Int) = 0 := beq_t h8
   refine step_g1 rfl h8 (step_r rfl rfl trivial (step_g1 rfl h8 (step_bin rfl rfl rfl rfl rfl trivial (step_pickT rfl h8 rfl rfl (step_r rfl rfl trivial ?_)))))
   refine step_gs rfl (fun h10 => ?_) (fun h10 => ?_)
   ·have g10 : ((dec ((enc (⟨[], [], [], (⟨1, 1, [false]⟩ : GGrid), (⟨0, 0⟩ : GPos), (⟨0, 0⟩ : GPos)⟩ : GContent)).1)).2 : Int) = 0 := beq_t h10
    refine step_g1 rfl h10 (step_r (v := (.agg [_, _, _, _, _, _, _, _, _, _])) rfl rfl (Nat.le_of_ble_eq_true rfl) (step_g1 rfl h10 (step_r (v := (.agg [_, _, _, _, _, _, _, _, _, _])) rfl rfl (Nat.le_of_ble_eq_true rfl) (step_g1 rfl h10 ?_))))
    refine step_callJ (Hin := [.row _ _ _]) (H' := [(7, _), (6, _), (5, _), (3, _), (1, _), (0, _)]) (nx' := 8) [0] rfl rfl rfl rfl rfl rfl rfl rfl rfl (by (repeat' apply And.intro) <;> first | trivial | rfl | exact flat_len (fun _ => rfl) _ | exact encI_len _ | exact encB_len _ | exact encY_len _ | exact Nat.le_of_ble_eq_true rfl | assumption) (sameCR_ok (⟨[], [], [], (⟨1, 1, [false]⟩ : GGrid), (⟨0, 0⟩ : GPos), (⟨0, 0⟩ : GPos)⟩ : GContent) ((dec ((enc (⟨[], [], [], (⟨1, 1, [false]⟩ : GGrid), (⟨0, 0⟩ : GPos), (⟨0, 0⟩ : GPos)⟩ : GContent)).1)).1)) rfl (by decide) rfl rfl trivial rfl rfl rfl rfl ?_
    refine step_pickT rfl h10 rfl rfl (step_r rfl rfl trivial ?_)
    refine step_gs rfl (fun h12 => ?_) (fun h12 => ?_)
    ·have g12 : sameCR (⟨[], [], [], (⟨1, 1, [false]⟩ : GGrid), (⟨0, 0⟩ : GPos), (⟨0, 0⟩ : GPos)⟩ : GContent) ((dec ((enc (⟨[], [], [], (⟨1, 1, [false]⟩ : GGrid), (⟨0, 0⟩ : GPos), (⟨0, 0⟩ : GPos)⟩ : GContent)).1)).1) = true := h12
     refine step_g1 rfl h12 (step_r rfl rfl trivial (step_g1 rfl h12 (step_bin rfl rfl rfl rfl rfl trivial (step_pickT rfl h12 rfl rfl (step_r rfl rfl trivial ?_)))))
     refine step_gs rfl (fun h14 => ?_) (fun h14 => ?_)
     ·have g14 : ((dec ([(66 : UInt8), (82 : UInt8), (87 : UInt8), (49 : UInt8)])).2 : Int) = 2 := beq_t h14
      refine step_g1 rfl h14 (step_r rfl rfl trivial (step_g1 rfl h14 (step_r rfl rfl trivial (step_g1 rfl h14 (step_bin rfl rfl rfl rfl rfl trivial (step_pickT rfl h14 rfl rfl (step_r rfl rfl trivial (step_nil (seqK_n (sem_ret ?_))))))))))
      have e16 : small10 = (((enc (⟨[], [], [], (⟨1, 1, [false]⟩ : GGrid), (⟨0, 0⟩ : GPos), (⟨0, 0⟩ : GPos)⟩ : GContent)).1.length : Int) == 16) := by
       unfold small10
       try dsimp only
       rewrite [if_pos g6, if_pos g8, if_pos g10, if_pos g12, if_pos g14]
       all_goals rfl
      rw [e16]
      exact answersR rfl ⟨trivial, trivial⟩ (rfl) rfl
     ·have g14 : ¬ (((dec ([(66 : UInt8), (82 : UInt8), (87 : UInt8), (49 : UInt8)])).2 : Int) = 2) := beq_f h14
      refine step_g0 rfl h14 rfl (step_g0 rfl h14 rfl (step_g0 rfl h14 rfl (step_pickF rfl h14 rfl rfl (step_r rfl rfl trivial (step_nil (seqK_n (sem_ret ?_)))))))
      have e17 : small10 = false := by
       unfold small10
       try dsimp only
       rewrite [if_pos g6, if_pos g8, if_pos g10, if_pos g12, if_neg g14]
       all_goals rfl
      rw [e17]
      exact answersR rfl ⟨trivial, trivial⟩ (rfl) rfl
    ·have g12 : ¬ (sameCR (⟨[], [], [], (⟨1, 1, [false]⟩ : GGrid), (⟨0, 0⟩ : GPos), (⟨0, 0⟩ : GPos)⟩ : GContent) ((dec ((enc (⟨[], [], [], (⟨1, 1, [false]⟩ : GGrid), (⟨0, 0⟩ : GPos), (⟨0, 0⟩ : GPos)⟩ : GContent)).1)).1) = true) := boo_f h12
     refine step_g0 rfl h12 rfl (step_g0 rfl h12 rfl (step_pickF rfl h12 rfl rfl (step_r rfl rfl trivial (step_gf rfl rfl (step_gf rfl rfl (step_gf rfl rfl (step_r rfl rfl trivial (step_r rfl rfl trivial (step_nil (seqK_n (sem_ret ?_)))))))))))
     have e18 : small10 = false := by
      unfold small10
      try dsimp only
      rewrite [if_pos g6, if_pos g8, if_pos g10, if_neg g12]
      all_goals rfl
     rw [e18]
     exact answersR rfl ⟨trivial, trivial⟩ (rfl) rfl
   ·have g10 : ¬ (((dec ((enc (⟨[], [], [], (⟨1, 1, [false]⟩ : GGrid), (⟨0, 0⟩ : GPos), (⟨0, 0⟩ : GPos)⟩ : GContent)).1)).2 : Int) = 0) := beq_f h10
    refine step_g0 rfl h10 rfl (step_g0 rfl h10 rfl (step_g0 rfl h10 rfl (step_pickF rfl h10 rfl rfl (step_r rfl rfl trivial (step_gf rfl rfl (step_gf rfl rfl (step_r rfl rfl trivial (step_r rfl rfl trivial (step_gf rfl rfl (step_gf rfl rfl (step_gf rfl rfl ?_)))))))))))
    refine step_r rfl rfl trivial (step_r rfl rfl trivial (step_nil (seqK_n (sem_ret ?_))))
    have e19 : small10 = false := by
     unfold small10
     try dsimp only
     rewrite [if_pos g6, if_pos g8, if_neg g10]
     all_goals rfl
    rw [e19]
    exact answersR rfl ⟨trivial, trivial⟩ (rfl) rfl
  ·have g8 : ¬ (((enc (⟨[], [], [], (⟨1, 1, [false]⟩ : GGrid), (⟨0, 0⟩ : GPos), (⟨0, 0⟩ : GPos)⟩ : GContent)).2 : Int) = 0) := beq_f h8
   refine step_g0 rfl h8 rfl (step_g0 rfl h8 rfl (step_pickF rfl h8 rfl rfl (step_r rfl rfl trivial (step_gf rfl rfl (step_gf rfl rfl (step_gf rfl rfl (step_r rfl rfl trivial (step_r rfl rfl trivial (step_gf rfl rfl (step_gf rfl rfl (step_r rfl rfl trivial ?_)))))))))))
   refine step_r rfl rfl trivial (step_gf rfl rfl (step_gf rfl rfl (step_gf rfl rfl (step_r rfl rfl trivial (step_r rfl rfl trivial (step_nil (seqK_n (sem_ret ?_))))))))
   have e20 : small10 = false := by
    unfold small10
    try dsimp only
    rewrite [if_pos g6, if_neg g8]
    all_goals rfl
   rw [e20]
   exact answersR rfl ⟨trivial, trivial⟩ (rfl) rfl
 ·have g6 : ¬ (sameIR (flat (⟨[], [], [], (⟨1, 1, [false]⟩ : GGrid), (⟨0, 0⟩ : GPos), (⟨0, 0⟩ : GPos)⟩ : GContent)) ([0, 0, 0, 1, 1, 1, 0, 0, 0, 0, 0]) = true) := boo_f h6
  refine step_g0 rfl h6 rfl (step_g0 rfl h6 rfl (step_pickF rfl h6 rfl rfl (step_r rfl rfl trivial (step_gf rfl rfl (step_gf rfl rfl (step_r rfl rfl trivial (step_r rfl rfl trivial (step_gf rfl rfl (step_gf rfl rfl (step_gf rfl rfl (step_r rfl rfl trivial ?_)))))))))))
  refine step_r rfl rfl trivial (step_gf rfl rfl (step_gf rfl rfl (step_r rfl rfl trivial (step_r rfl rfl trivial (step_gf rfl rfl (step_gf rfl rfl (step_gf rfl rfl (step_r rfl rfl trivial (step_r rfl rfl trivial (step_nil (seqK_n ?_)))))))))))
  refine sem_ret ?_
  have e21 : small10 = false := by
   unfold small10
   try dsimp only
   rewrite [if_neg g6]
   all_goals rfl
  rw [e21]
  exact answersR rfl ⟨trivial, trivial⟩ (rfl) rfl
end Go.Proofs.YtppnccjeggnllaaGreat

import Derived.Test.YtkncpoaddamlbaaBoss
namespace Go.Proofs.Ytkncpoaddamlbaa
open Go Go.RowKit Go.Proofs.YtkncpoaddamlbaaVm
attribute [local irreducible] opsWp AnswersE OpsS
set_option maxHeartbeats 400000
set_option maxRecDepth 100000
set_option linter.all false
theorem small20_ok  : Ok Try.prog 6 [] [] (B true) [] [] := by
 refine ok_of_sem Try.func6 rfl ?_
 show Walks Try.prog _ _ ⟨[], [], 0, [], 81, 0⟩
 refine sem_seq ?_
 refine sem_region rfl ?_
 refine step_r rfl rfl trivial ?_
 refine step_nil ?_
 refine seqK_n ?_
 refine sem_seq ?_
 refine sem_region rfl ?_
 refine step_r (v := (.agg [_, _, _, _, _])) rfl rfl trivial ?_
 refine step_r (v := (.agg [_, _, _, _, _])) rfl rfl trivial ?_
 refine step_n (o := .row _ _ [_, _, _, _, _, _, _, _, _, _]) (nx' := 1) rfl rfl rfl (by decide) ?_
 refine step_r (v := (.agg [_, _, _, _, _, _, _, _])) rfl rfl trivial ?_
 refine step_n (o := .box [_, _, _, _, _, _, _, _]) (nx' := 2) rfl rfl rfl trivial ?_
 refine step_store (H' := [(1, .box [_, _, _, _, _, _, _, _]), (0, .row _ _ _)]) rfl rfl rfl rfl rfl rfl (Nat.le_of_ble_eq_true rfl) (.inl rfl) rfl ?_
 refine step_nil ?_
 refine seqK_n ?_
 refine sem_seq ?_
 refine sem_region rfl ?_
 refine step_r (v := (.agg [_, _, _, _, _, _, _, _, _, _])) rfl rfl trivial ?_
 refine step_n (o := .box [_, _, _, _, _, _, _, _, _, _]) (nx' := 3) rfl rfl rfl trivial ?_
 refine step_store (H' := [(2, .box [_, _, _, _, _, _, _, _, _, _]), (1, .box [_, _, _, _, _, _, _, _]), (0, .row _ _ _)]) rfl rfl rfl rfl rfl rfl (Nat.le_of_ble_eq_true rfl) (.inl rfl) rfl ?_
 refine step_nil ?_
 refine seqK_n ?_
 refine sem_seq ?_
 refine sem_drawnE [(9, 7)] rfl (by decide +kernel) (by decide +kernel) rfl ?_
 refine step_r (v := (.agg [_, _, _, _, _, _, _, _])) rfl rfl (Nat.le_of_ble_eq_true rfl) ?_
 refine step_r (v := (.agg [_, _, _, _, _, _, _, _])) rfl rfl (Nat.le_of_ble_eq_true rfl) ?_
 refine step_callJ (Hin := [.row _ _ _]) (out' := .agg [_, _, .ref 3 _ _ _, _]) (H' := [(3, .row _ _ _), (2, .box [_, _, _, _, _, _, _, _, _, _]), (1, .box [_, _, _, _, _, _, _, _]), (0, .row _ _ _)]) (nx' := 4) [0] rfl rfl rfl rfl rfl rfl rfl rfl rfl (by (repeat' apply And.intro) <;> first | trivial | rfl | exact flat_len (fun _ => rfl) _ | exact encI_len _ | exact encB_len _ | exact encY_len _ | assumption) (start_ok (⟨0, 0, 0, 0, 0, [(⟨1, 1, 50, 1, 2⟩ : GLine), (⟨2, 2, 3, 4, 7⟩ : GLine)], [], 0⟩ : GFoe) 0 (by first | omega | decide +kernel | (simp; done) | (simp; omega) | simp_all)) rfl (by decide) rfl rfl ⟨encB_solid, trivial⟩ rfl rfl rfl rfl ?_
 refine step_r (v := (.agg [_, _, _, _, _, _, _, _, _, _])) rfl rfl (Nat.le_of_ble_eq_true rfl) ?_
 refine step_callJ (Hin := [.row _ _ _, .row _ _ _]) (out' := .tup [.agg [_, _, .ref 4 _ _ _, _], .ref 5 _ _ _]) (H' := [(4, .row _ _ _), (5, .row _ _ _), (3, .row _ _ _), (2, .box [_, _, _, _, _, _, _, _, _, _]), (1, .box [_, _, _, _, _, _, _, _]), (0, .row _ _ _)]) (nx' := 6) [0, 3] rfl rfl rfl rfl rfl rfl rfl rfl rfl (by (repeat' apply And.intro) <;> first | trivial | rfl | exact flat_len (fun _ => rfl) _ | exact encI_len _ | exact encB_len _ | exact encY_len _ | assumption) (run_ok (⟨0, 0, 0, 0, 0, [(⟨1, 1, 50, 1, 2⟩ : GLine), (⟨2, 2, 3, 4, 7⟩ : GLine)], [], 0⟩ : GFoe) (⟨1, 0, (List.replicate (⟨0, 0, 0, 0, 0, [(⟨1, 1, 50, 1, 2⟩ : GLine), (⟨2, 2, 3, 4, 7⟩ : GLine)], [], 0⟩ : GFoe).Script.length false), 0⟩ : GBoss) (⟨0, 0, 0, 10, 20, 0, 0, (⟨0, 0⟩ : GPos), 0⟩ : GUnit) 4 (by first | omega | decide +kernel | (simp; done) | (simp; omega) | simp_all) (by first | omega | decide +kernel | (simp; done) | (simp; omega) | simp_all)) rfl (by decide) rfl rfl ⟨encB_solid, encGLine_solid, trivial⟩ rfl rfl rfl rfl ?_
 refine step_r rfl rfl trivial ?_
 refine step_r rfl rfl trivial ?_
 refine step_r rfl rfl trivial ?_
 refine step_n (o := .box [_, _, _, _]) (nx' := 7) rfl rfl rfl trivial ?_
 refine step_store (H' := [(6, .box [_, _, _, _]), (4, .row _ _ _), (5, .row _ _ _), (3, .row _ _ _), (2, .box [_, _, _, _, _, _, _, _, _, _]), (1, .box [_, _, _, _, _, _, _, _]), (0, .row _ _ _)]) rfl rfl rfl rfl rfl rfl (Nat.le_of_ble_eq_true rfl) (.inr (by decide +kernel)) rfl ?_
 refine step_r rfl rfl trivial ?_
 refine step_nil ?_
 refine seqK_n ?_
 refine sem_seq ?_
 refine sem_region rfl ?_
 refine step_r (v := (.agg [_, _, _, _, _, _, _, _])) rfl rfl (Nat.le_of_ble_eq_true rfl) ?_
 refine step_r (v := (.agg [_, _, _, _])) rfl rfl (Nat.le_of_ble_eq_true rfl) ?_
 refine step_r (v := (.agg [_, _, _, _, _, _, _, _, _, _])) rfl rfl (Nat.le_of_ble_eq_true rfl) ?_
 refine step_callJ (Hin := [.row _ _ _, .row _ _ _]) (out' := .tup [.agg [_, _, .ref 7 _ _ _, _], .ref 8 _ _ _]) (H' := [(7, .row _ _ _), (8, .row _ _ _), (6, .box [_, _, _, _]), (4, .row _ _ _), (5, .row _ _ _), (3, .row _ _ _), (2, .box [_, _, _, _, _, _, _, _, _, _]), (1, .box [_, _, _, _, _, _, _, _]), (0, .row _ _ _)]) (nx' := 9) [0, 4] rfl rfl rfl rfl rfl rfl rfl rfl rfl (by (repeat' apply And.intro) <;> first | trivial | rfl | exact flat_len (fun _ => rfl) _ | exact encI_len _ | exact encB_len _ | exact encY_len _ | assumption) (run_ok (⟨0, 0, 0, 0, 0, [(⟨1, 1, 50, 1, 2⟩ : GLine), (⟨2, 2, 3, 4, 7⟩ : GLine)], [], 0⟩ : GFoe) ((runB (⟨0, 0, 0, 0, 0, [(⟨1, 1, 50, 1, 2⟩ : GLine), (⟨2, 2, 3, 4, 7⟩ : GLine)], [], 0⟩ : GFoe) (⟨1, 0, (List.replicate (⟨0, 0, 0, 0, 0, [(⟨1, 1, 50, 1, 2⟩ : GLine), (⟨2, 2, 3, 4, 7⟩ : GLine)], [], 0⟩ : GFoe).Script.length false), 0⟩ : GBoss) (⟨0, 0, 0, 10, 20, 0, 0, (⟨0, 0⟩ : GPos), 0⟩ : GUnit) 4).1) (⟨0, 0, 0, 10, 20, 0, 0, (⟨0, 0⟩ : GPos), 0⟩ : GUnit) 7 (by first | omega | decide +kernel | (simp; done) | (simp; omega) | simp_all) (by first | omega | decide +kernel | (simp; done) | (simp; omega) | simp_all)) rfl (by decide) rfl rfl ⟨encB_solid, encGLine_solid, trivial⟩ rfl rfl rfl rfl ?_
 refine step_r rfl rfl trivial ?_
 refine step_r rfl rfl trivial ?_
 refine step_r rfl rfl trivial ?_
 refine step_n (o := .box [_, _, _, _]) (nx' := 10) rfl rfl rfl trivial ?_
 refine step_store (H' := [(9, .box [_, _, _, _]), (7, .row _ _ _), (8, .row _ _ _), (6, .box [_, _, _, _]), (4, .row _ _ _), (5, .row _ _ _), (3, .row _ _ _), (2, .box [_, _, _, _, _, _, _, _, _, _]), (1, .box [_, _, _, _, _, _, _, _]), (0, .row _ _ _)]) rfl rfl rfl rfl rfl rfl (Nat.le_of_ble_eq_true rfl) (.inl rfl) rfl ?_
 refine step_r rfl rfl trivial ?_
 refine step_nil ?_
 refine seqK_n ?_
 refine sem_seq ?_
 refine sem_region rfl ?_
 refine step_r (v := (.agg [_, _, _, _, _, _, _, _])) rfl rfl (Nat.le_of_ble_eq_true rfl) ?_
 refine step_r (v := (.agg [_, _, _, _])) rfl rfl (Nat.le_of_ble_eq_true rfl) ?_
 refine step_r (v := (.agg [_, _, _, _, _, _, _, _, _, _])) rfl rfl (Nat.le_of_ble_eq_true rfl) ?_
 refine step_callJ (Hin := [.row _ _ _, .row _ _ _]) (out' := .tup [.agg [_, _, .ref 10 _ _ _, _], .ref 11 _ _ _]) (H' := [(10, .row _ _ _), (11, .row _ _ _), (9, .box [_, _, _, _]), (7, .row _ _ _), (8, .row _ _ _), (6, .box [_, _, _, _]), (4, .row _ _ _), (5, .row _ _ _), (3, .row _ _ _), (2, .box [_, _, _, _, _, _, _, _, _, _]), (1, .box [_, _, _, _, _, _, _, _]), (0, .row _ _ _)]) (nx' := 12) [0, 7] rfl rfl rfl rfl rfl rfl rfl rfl rfl (by (repeat' apply And.intro) <;> first | trivial | rfl | exact flat_len (fun _ => rfl) _ | exact encI_len _ | exact encB_len _ | exact encY_len _ | assumption) (run_ok (⟨0, 0, 0, 0, 0, [(⟨1, 1, 50, 1, 2⟩ : GLine), (⟨2, 2, 3, 4, 7⟩ : GLine)], [], 0⟩ : GFoe) ((runB (⟨0, 0, 0, 0, 0, [(⟨1, 1, 50, 1, 2⟩ : GLine), (⟨2, 2, 3, 4, 7⟩ : GLine)], [], 0⟩ : GFoe) ((runB (⟨0, 0, 0, 0, 0, [(⟨1, 1, 50, 1, 2⟩ : GLine), (⟨2, 2, 3, 4, 7⟩ : GLine)], [], 0⟩ : GFoe) (⟨1, 0, (List.replicate (⟨0, 0, 0, 0, 0, [(⟨1, 1, 50, 1, 2⟩ : GLine), (⟨2, 2, 3, 4, 7⟩ : GLine)], [], 0⟩ : GFoe).Script.length false), 0⟩ : GBoss) (⟨0, 0, 0, 10, 20, 0, 0, (⟨0, 0⟩ : GPos), 0⟩ : GUnit) 4).1) (⟨0, 0, 0, 10, 20, 0, 0, (⟨0, 0⟩ : GPos), 0⟩ : GUnit) 7).1) (⟨0, 0, 0, 10, 20, 0, 0, (⟨0, 0⟩ : GPos), 0⟩ : GUnit) 8 (by first | omega | decide +kernel | (simp; done) | (simp; omega) | simp_all) (by first | omega | decide +kernel | (simp; done) | (simp; omega) | simp_all)) rfl (by decide) rfl rfl ⟨encB_solid, encGLine_solid, trivial⟩ rfl rfl rfl rfl ?_
 refine step_r rfl rfl trivial ?_
 refine step_r rfl rfl trivial ?_
 refine step_r rfl rfl trivial ?_
 refine step_n (o := .box [_, _, _, _]) (nx' := 13) rfl rfl rfl trivial ?_
 refine step_store (H' := [(12, .box [_, _, _, _]), (10, .row _ _ _), (11, .row _ _ _), (9, .box [_, _, _, _]), (7, .row _ _ _), (8, .row _ _ _), (6, .box [_, _, _, _]), (4, .row _ _ _), (5, .row _ _ _), (3, .row _ _ _), (2, .box [_, _, _, _, _, _, _, _, _, _]), (1, .box [_, _, _, _, _, _, _, _]), (0, .row _ _ _)]) rfl rfl rfl rfl rfl rfl (Nat.le_of_ble_eq_true rfl) (.inl rfl) rfl ?_
 refine step_r rfl rfl trivial ?_
 refine step_nil ?_
 refine seqK_n ?_
 refine sem_seq ?_
 refine sem_drawn rfl (by decide +kernel) rfl ?_
 refine step_r rfl rfl trivial ?_
 refine step_r rfl rfl trivial ?_
 refine step_bin rfl rfl rfl rfl rfl trivial ?_
 refine step_r rfl rfl trivial ?_
 refine step_gs rfl (fun h2 => ?_) (fun h2 => ?_)
 ·have g2 := h2
  try simp at g2
  refine step_g1 rfl h2 ?_
  refine step_r rfl rfl (by decide) ?_
  refine step_g1 rfl h2 ?_
  refine step_r rfl rfl trivial ?_
  refine step_g1 rfl h2 ?_
  refine step_bin rfl rfl rfl rfl rfl trivial ?_
  refine step_pickT rfl h2 rfl rfl ?_
  refine step_r rfl rfl trivial ?_
  refine step_gs rfl (fun h4 => ?_) (fun h4 => ?_)
  ·have g4 := h4
   try simp at g4
   refine step_g1 rfl h4 ?_
   refine step_r rfl rfl (by decide) ?_
   refine step_g1 rfl h4 ?_
   refine step_r rfl rfl trivial ?_
   refine step_g1 rfl h4 ?_
   refine step_bin rfl rfl rfl rfl rfl trivial ?_
   refine step_pickT rfl h4 rfl rfl ?_
   refine step_r rfl rfl trivial ?_
   refine step_gs rfl (fun h6 => ?_) (fun h6 => ?_)
   ·have g6 := h6
    try simp at g6
    refine step_g1 rfl h6 ?_
    refine step_r rfl rfl trivial ?_
    refine step_g1 rfl h6 ?_
    refine step_r rfl rfl trivial ?_
    refine step_g1 rfl h6 ?_
    refine step_bin rfl rfl rfl rfl rfl trivial ?_
    refine step_pickT rfl h6 rfl rfl ?_
    refine step_r rfl rfl trivial ?_
    refine step_gs rfl (fun h8 => ?_) (fun h8 => ?_)
    ·have g8 := h8
     try simp at g8
     refine step_g1 rfl h8 ?_
     refine step_r rfl rfl (by decide) ?_
     refine step_g1 rfl h8 ?_
     refine step_r rfl rfl trivial ?_
     refine step_g1 rfl h8 ?_
     refine step_bin rfl rfl rfl rfl rfl trivial ?_
     refine step_pickT rfl h8 rfl rfl ?_
     refine step_r rfl rfl trivial ?_
     refine step_gs rfl (fun h10 => ?_) (fun h10 => ?_)
     ·have g10 := h10
      try simp at g10
      refine step_g1 rfl h10 ?_
      refine step_r rfl rfl trivial ?_
      refine step_g1 rfl h10 ?_
      refine step_r rfl rfl trivial ?_
      refine step_g1 rfl h10 ?_
      refine step_bin rfl rfl rfl rfl rfl trivial ?_
      refine step_pickT rfl h10 rfl rfl ?_
      refine step_r rfl rfl trivial ?_
      refine step_gs rfl (fun h12 => ?_) (fun h12 => ?_)
      ·have g12 := h12
       try simp at g12
       refine step_g1 rfl h12 ?_
       refine step_r (v := (.agg [_, _, _, _, _, _, _, _])) rfl rfl (Nat.le_of_ble_eq_true rfl) ?_
       refine step_g1 rfl h12 ?_
       refine step_r (v := (.agg [_, _, _, _])) rfl rfl (Nat.le_of_ble_eq_true rfl) ?_
       refine step_g1 rfl h12 ?_
       refine step_callJ (Hin := [.row _ _ _, .row _ _ _]) (H' := [(12, .box [_, _, _, _]), (10, .row _ _ _), (11, .row _ _ _), (9, .box [_, _, _, _]), (7, .row _ _ _), (8, .row _ _ _), (6, .box [_, _, _, _]), (4, .row _ _ _), (5, .row _ _ _), (3, .row _ _ _), (2, .box [_, _, _, _, _, _, _, _, _, _]), (1, .box [_, _, _, _, _, _, _, _]), (0, .row _ _ _)]) (nx' := 13) [0, 7] rfl rfl rfl rfl rfl rfl rfl rfl rfl (by (repeat' apply And.intro) <;> first | trivial | rfl | exact flat_len (fun _ => rfl) _ | exact encI_len _ | exact encB_len _ | exact encY_len _ | assumption) (rightB_ok (⟨0, 0, 0, 0, 0, [(⟨1, 1, 50, 1, 2⟩ : GLine), (⟨2, 2, 3, 4, 7⟩ : GLine)], [], 0⟩ : GFoe) ((runB (⟨0, 0, 0, 0, 0, [(⟨1, 1, 50, 1, 2⟩ : GLine), (⟨2, 2, 3, 4, 7⟩ : GLine)], [], 0⟩ : GFoe) ((runB (⟨0, 0, 0, 0, 0, [(⟨1, 1, 50, 1, 2⟩ : GLine), (⟨2, 2, 3, 4, 7⟩ : GLine)], [], 0⟩ : GFoe) (⟨1, 0, (List.replicate (⟨0, 0, 0, 0, 0, [(⟨1, 1, 50, 1, 2⟩ : GLine), (⟨2, 2, 3, 4, 7⟩ : GLine)], [], 0⟩ : GFoe).Script.length false), 0⟩ : GBoss) (⟨0, 0, 0, 10, 20, 0, 0, (⟨0, 0⟩ : GPos), 0⟩ : GUnit) 4).1) (⟨0, 0, 0, 10, 20, 0, 0, (⟨0, 0⟩ : GPos), 0⟩ : GUnit) 7).1)) rfl (by decide) rfl rfl trivial rfl rfl rfl rfl ?_
       refine step_pickT rfl h12 rfl rfl ?_
       refine step_r rfl rfl trivial ?_
       refine step_gs rfl (fun h14 => ?_) (fun h14 => ?_)
       ·have g14 := h14
        try simp at g14
        refine step_g1 rfl h14 ?_
        refine step_r (v := (.agg [_, _, _, _, _, _, _, _])) rfl rfl (Nat.le_of_ble_eq_true rfl) ?_
        refine step_g1 rfl h14 ?_
        refine step_r (v := (.agg [_, _, _, _])) rfl rfl (Nat.le_of_ble_eq_true rfl) ?_
        refine step_g1 rfl h14 ?_
        refine step_r (v := (.agg [_, _, _, _, _, _, _, _, _, _])) rfl rfl (Nat.le_of_ble_eq_true rfl) ?_
        refine step_g1 rfl h14 ?_
        refine step_callJ (Hin := [.row _ _ _, .row _ _ _]) (H' := [(12, .box [_, _, _, _]), (10, .row _ _ _), (11, .row _ _ _), (9, .box [_, _, _, _]), (7, .row _ _ _), (8, .row _ _ _), (6, .box [_, _, _, _]), (4, .row _ _ _), (5, .row _ _ _), (3, .row _ _ _), (2, .box [_, _, _, _, _, _, _, _, _, _]), (1, .box [_, _, _, _, _, _, _, _]), (0, .row _ _ _)]) (nx' := 13) [0, 7] rfl rfl rfl rfl rfl rfl rfl rfl rfl (by (repeat' apply And.intro) <;> first | trivial | rfl | exact flat_len (fun _ => rfl) _ | exact encI_len _ | exact encB_len _ | exact encY_len _ | assumption) (waits_ok (⟨0, 0, 0, 0, 0, [(⟨1, 1, 50, 1, 2⟩ : GLine), (⟨2, 2, 3, 4, 7⟩ : GLine)], [], 0⟩ : GFoe) ((runB (⟨0, 0, 0, 0, 0, [(⟨1, 1, 50, 1, 2⟩ : GLine), (⟨2, 2, 3, 4, 7⟩ : GLine)], [], 0⟩ : GFoe) ((runB (⟨0, 0, 0, 0, 0, [(⟨1, 1, 50, 1, 2⟩ : GLine), (⟨2, 2, 3, 4, 7⟩ : GLine)], [], 0⟩ : GFoe) (⟨1, 0, (List.replicate (⟨0, 0, 0, 0, 0, [(⟨1, 1, 50, 1, 2⟩ : GLine), (⟨2, 2, 3, 4, 7⟩ : GLine)], [], 0⟩ : GFoe).Script.length false), 0⟩ : GBoss) (⟨0, 0, 0, 10, 20, 0, 0, (⟨0, 0⟩ : GPos), 0⟩ : GUnit) 4).1) (⟨0, 0, 0, 10, 20, 0, 0, (⟨0, 0⟩ : GPos), 0⟩ : GUnit) 7).1) (⟨0, 0, 0, 10, 20, 0, 0, (⟨0, 0⟩ : GPos), 0⟩ : GUnit) 1 8) rfl (by decide) rfl rfl trivial rfl rfl rfl rfl ?_
        refine step_pickT rfl h14 rfl rfl ?_
        refine step_r rfl rfl trivial ?_
        refine step_gs rfl (fun h16 => ?_) (fun h16 => ?_)
        ·have g16 := h16
         try simp at g16
         refine step_g1 rfl h16 ?_
         refine step_r (v := (.agg [_, _, _, _])) rfl rfl (Nat.le_of_ble_eq_true rfl) ?_
         refine step_g1 rfl h16 ?_
         refine step_r (v := (.agg [_, _, _, _])) rfl rfl (Nat.le_of_ble_eq_true rfl) ?_
         refine step_g1 rfl h16 ?_
         refine step_callJ (Hin := [.row _ _ _]) (out' := .agg [_, _, .ref 13 _ _ _, _]) (H' := [(13, .row _ _ _), (12, .box [_, _, _, _]), (10, .row _ _ _), (11, .row _ _ _), (9, .box [_, _, _, _]), (7, .row _ _ _), (8, .row _ _ _), (6, .box [_, _, _, _]), (4, .row _ _ _), (5, .row _ _ _), (3, .row _ _ _), (2, .box [_, _, _, _, _, _, _, _, _, _]), (1, .box [_, _, _, _, _, _, _, _]), (0, .row _ _ _)]) (nx' := 14) [7] rfl rfl rfl rfl rfl rfl rfl rfl rfl (by (repeat' apply And.intro) <;> first | trivial | rfl | exact flat_len (fun _ => rfl) _ | exact encI_len _ | exact encB_len _ | exact encY_len _ | assumption) (copyB_ok ((runB (⟨0, 0, 0, 0, 0, [(⟨1, 1, 50, 1, 2⟩ : GLine), (⟨2, 2, 3, 4, 7⟩ : GLine)], [], 0⟩ : GFoe) ((runB (⟨0, 0, 0, 0, 0, [(⟨1, 1, 50, 1, 2⟩ : GLine), (⟨2, 2, 3, 4, 7⟩ : GLine)], [], 0⟩ : GFoe) (⟨1, 0, (List.replicate (⟨0, 0, 0, 0, 0, [(⟨1, 1, 50, 1, 2⟩ : GLine), (⟨2, 2, 3, 4, 7⟩ : GLine)], [], 0⟩ : GFoe).Script.length false), 0⟩ : GBoss) (⟨0, 0, 0, 10, 20, 0, 0, (⟨0, 0⟩ : GPos), 0⟩ : GUnit) 4).1) (⟨0, 0, 0, 10, 20, 0, 0, (⟨0, 0⟩ : GPos), 0⟩ : GUnit) 7).1) (by first | omega | decide +kernel | (simp; done) | (simp; omega) | simp_all)) rfl (by decide) rfl rfl ⟨encB_solid, trivial⟩ rfl rfl rfl rfl ?_
         refine step_g1 rfl h16 ?_
         refine step_callJ (Hin := [.row _ _ _, .row _ _ _]) (H' := [(13, .row _ _ _), (12, .box [_, _, _, _]), (10, .row _ _ _), (11, .row _ _ _), (9, .box [_, _, _, _]), (7, .row _ _ _), (8, .row _ _ _), (6, .box [_, _, _, _]), (4, .row _ _ _), (5, .row _ _ _), (3, .row _ _ _), (2, .box [_, _, _, _, _, _, _, _, _, _]), (1, .box [_, _, _, _, _, _, _, _]), (0, .row _ _ _)]) (nx' := 14) [7, 13] rfl rfl rfl rfl rfl rfl rfl rfl rfl (by (repeat' apply And.intro) <;> first | trivial | rfl | exact flat_len (fun _ => rfl) _ | exact encI_len _ | exact encB_len _ | exact encY_len _ | assumption) (sameB_ok ((runB (⟨0, 0, 0, 0, 0, [(⟨1, 1, 50, 1, 2⟩ : GLine), (⟨2, 2, 3, 4, 7⟩ : GLine)], [], 0⟩ : GFoe) ((runB (⟨0, 0, 0, 0, 0, [(⟨1, 1, 50, 1, 2⟩ : GLine), (⟨2, 2, 3, 4, 7⟩ : GLine)], [], 0⟩ : GFoe) (⟨1, 0, (List.replicate (⟨0, 0, 0, 0, 0, [(⟨1, 1, 50, 1, 2⟩ : GLine), (⟨2, 2, 3, 4, 7⟩ : GLine)], [], 0⟩ : GFoe).Script.length false), 0⟩ : GBoss) (⟨0, 0, 0, 10, 20, 0, 0, (⟨0, 0⟩ : GPos), 0⟩ : GUnit) 4).1) (⟨0, 0, 0, 10, 20, 0, 0, (⟨0, 0⟩ : GPos), 0⟩ : GUnit) 7).1) ((runB (⟨0, 0, 0, 0, 0, [(⟨1, 1, 50, 1, 2⟩ : GLine), (⟨2, 2, 3, 4, 7⟩ : GLine)], [], 0⟩ : GFoe) ((runB (⟨0, 0, 0, 0, 0, [(⟨1, 1, 50, 1, 2⟩ : GLine), (⟨2, 2, 3, 4, 7⟩ : GLine)], [], 0⟩ : GFoe) (⟨1, 0, (List.replicate (⟨0, 0, 0, 0, 0, [(⟨1, 1, 50, 1, 2⟩ : GLine), (⟨2, 2, 3, 4, 7⟩ : GLine)], [], 0⟩ : GFoe).Script.length false), 0⟩ : GBoss) (⟨0, 0, 0, 10, 20, 0, 0, (⟨0, 0⟩ : GPos), 0⟩ : GUnit) 4).1) (⟨0, 0, 0, 10, 20, 0, 0, (⟨0, 0⟩ : GPos), 0⟩ : GUnit) 7).1)) rfl (by decide) rfl rfl trivial rfl rfl rfl rfl ?_
         refine step_pickT rfl h16 rfl rfl ?_
         refine step_r rfl rfl trivial ?_
         refine step_nil ?_
         refine seqK_n ?_
         refine sem_ret ?_
         exact answersR rfl ⟨trivial, trivial⟩ (congrArg B (by decide +kernel)) rfl
        ·exact absurd h16 (by decide +kernel)
       ·exact absurd h14 (by decide +kernel)
      ·exact absurd h12 (by decide +kernel)
     ·exact absurd h10 (by decide +kernel)
    ·exact absurd h8 (by decide +kernel)
   ·exact absurd h6 (by decide +kernel)
  ·exact absurd h4 (by decide +kernel)
 ·exact absurd h2 (by decide +kernel)

theorem bossRuns_ok (f : GFoe) (s : GBoss) (u : GUnit) (now : Int) (i : Int) : Ok Try.prog 3 [aGFoe f, aGBoss s, aGUnit u, I now, I i] [] (B true) [] [] := by
 refine Ok.len fun hlen => ?_
 have hl_f_Script : f.Script.length ≤ maxLen := hlen _ (by simp [lensL, lens, lensP])
 have hl_f_Hoard : f.Hoard.length ≤ maxLen := hlen _ (by simp [lensL, lens, lensP])
 have hl_s_Came : s.Came.length ≤ maxLen := hlen _ (by simp [lensL, lens, lensP])
 unfold maxLen at hl_f_Script hl_f_Hoard hl_s_Came
 refine ok_of_sem Try.func3 rfl ?_
 show Walks Try.prog _ _ ⟨[(0, aGFoe f), (1, aGBoss s), (2, aGUnit u), (3, I now), (4, I i)], [], 0, [], 171, 0⟩
 refine sem_seq ?_
 refine sem_region rfl ?_
 refine step_n (o := .box [_, _, _, _, _, _, _, _]) (nx' := 1) rfl rfl rfl trivial ?_
 refine step_n (o := .box [_, _, _, _]) (nx' := 2) rfl rfl rfl trivial ?_
 refine step_n (o := .box [_, _, _, _, _, _, _, _, _, _]) (nx' := 3) rfl rfl rfl trivial ?_
 refine step_r rfl rfl trivial ?_
 refine step_nil ?_
 refine seqK_n ?_
 refine sem_seq ?_
 refine sem_region rfl ?_
 refine step_call rfl rfl rfl rfl (small20_ok ) rfl rfl rfl ?_
 refine step_r rfl rfl trivial ?_
 refine step_nil ?_
 refine seqK_n ?_
 refine sem_seq ?_
 refine sem_region rfl ?_
 refine step_r (v := (.agg [_, _, _, _, _, _, _, _])) rfl rfl (Nat.le_of_ble_eq_true rfl) ?_
 refine step_r (v := (.agg [_, _, _, _])) rfl rfl (Nat.le_of_ble_eq_true rfl) ?_
 refine step_r rfl rfl trivial ?_
 refine step_call rfl rfl rfl rfl (fits_ok f s now) rfl rfl rfl ?_
 refine step_r rfl rfl trivial ?_
 refine step_nil ?_
 refine seqK_n ?_
 refine sem_seq ?_
 refine sem_seq ?_
 refine sem_region rfl ?_
 refine step_r rfl rfl trivial ?_
 refine step_r rfl rfl trivial ?_
 refine step_nil ?_
 refine seqK_n ?_
 refine sem_cond rfl (fun h3 => ?_) (fun h3 => ?_)
 ·have g3 := h3
  try simp at g3
  refine sem_seq ?_
  refine sem_region rfl ?_
  refine step_r rfl rfl trivial ?_
  refine step_r rfl rfl trivial ?_
  refine step_nil ?_
  refine seqK_n ?_
  refine sem_ret ?_
  refine seqK_r ?_
  exact answersR rfl ⟨trivial, trivial⟩ (rfl) rfl
 ·have g3 := h3
  try simp at g3
  obtain ⟨q1, q2, q3, q4, q5, q6, q7, q8, q9⟩ : fitsP f s now := by simpa using h3
  have q10 : (runB f s u now).1.Came.length ≤ 60 := by rw [runB_len]; exact q9
  refine sem_skip ?_
  refine seqK_n ?_
  refine sem_seq ?_
  refine sem_region rfl ?_
  refine step_r (v := (.agg [_, _, _, _])) rfl rfl (Nat.le_of_ble_eq_true rfl) ?_
  refine step_callJ (Hin := []) (out' := .agg [_, _, .ref 3 _ _ _, _]) (H' := [(3, .row _ _ _), (2, .box [_, _, _, _, _, _, _, _, _, _]), (1, .box [_, _, _, _]), (0, .box [_, _, _, _, _, _, _, _])]) (nx' := 4) [] rfl rfl rfl rfl rfl rfl rfl rfl rfl (by (repeat' apply And.intro) <;> first | trivial | rfl | exact flat_len (fun _ => rfl) _ | exact encI_len _ | exact encB_len _ | exact encY_len _ | assumption) (copyBR_ok s (by first | omega | decide +kernel | (simp; done) | (simp; omega) | simp_all)) rfl (by decide) rfl rfl ⟨encB_solid, trivial⟩ rfl rfl rfl rfl ?_
  refine step_n (o := .box [_, _, _, _]) (nx' := 5) rfl rfl rfl trivial ?_
  refine step_store (H' := [(4, .box [_, _, _, _]), (3, .row _ _ _), (2, .box [_, _, _, _, _, _, _, _, _, _]), (1, .box [_, _, _, _]), (0, .box [_, _, _, _, _, _, _, _])]) rfl rfl rfl rfl rfl rfl (Nat.le_of_ble_eq_true rfl) (.inl rfl) rfl ?_
  refine step_nil ?_
  refine seqK_n ?_
  refine sem_seq ?_
  refine sem_region rfl ?_
  refine step_r (v := (.agg [_, _, _, _, _, _, _, _])) rfl rfl (Nat.le_of_ble_eq_true rfl) ?_
  refine step_r (v := (.agg [_, _, _, _])) rfl rfl (Nat.le_of_ble_eq_true rfl) ?_
  refine step_r (v := (.agg [_, _, _, _, _, _, _, _, _, _])) rfl rfl (Nat.le_of_ble_eq_true rfl) ?_
  refine step_r rfl rfl trivial ?_
  refine step_callJ (Hin := []) (out' := .tup [.agg [_, _, .ref 5 _ _ _, _], .ref 6 _ _ _]) (H' := [(5, .row _ _ _), (6, .row _ _ _), (4, .box [_, _, _, _]), (3, .row _ _ _), (2, .box [_, _, _, _, _, _, _, _, _, _]), (1, .box [_, _, _, _]), (0, .box [_, _, _, _, _, _, _, _])]) (nx' := 7) [] rfl rfl rfl rfl rfl rfl rfl rfl rfl (by (repeat' apply And.intro) <;> first | trivial | rfl | exact flat_len (fun _ => rfl) _ | exact encI_len _ | exact encB_len _ | exact encY_len _ | assumption) (run_ok f s u now (by first | omega | decide +kernel | (simp; done) | (simp; omega) | simp_all) (by first | omega | decide +kernel | (simp; done) | (simp; omega) | simp_all)) rfl (by decide) rfl rfl ⟨encB_solid, encGLine_solid, trivial⟩ rfl rfl rfl rfl ?_
  refine step_r rfl rfl trivial ?_
  refine step_r rfl rfl trivial ?_
  refine step_r rfl rfl trivial ?_
  refine step_n (o := .box [_, _, _, _]) (nx' := 8) rfl rfl rfl trivial ?_
  refine step_store (H' := [(7, .box [_, _, _, _]), (5, .row _ _ _), (6, .row _ _ _), (4, .box [_, _, _, _]), (3, .row _ _ _), (2, .box [_, _, _, _, _, _, _, _, _, _]), (1, .box [_, _, _, _]), (0, .box [_, _, _, _, _, _, _, _])]) rfl rfl rfl rfl rfl rfl (Nat.le_of_ble_eq_true rfl) (.inl rfl) rfl ?_
  refine step_r rfl rfl trivial ?_
  refine step_nil ?_
  refine seqK_n ?_
  refine sem_seq ?_
  refine sem_region rfl ?_
  refine step_r (v := (.agg [_, _, _, _, _, _, _, _])) rfl rfl (Nat.le_of_ble_eq_true rfl) ?_
  refine step_r (v := (.agg [_, _, _, _])) rfl rfl (Nat.le_of_ble_eq_true rfl) ?_
  refine step_r (v := (.agg [_, _, _, _, _, _, _, _, _, _])) rfl rfl (Nat.le_of_ble_eq_true rfl) ?_
  refine step_r rfl rfl trivial ?_
  refine step_callJ (Hin := []) (out' := .tup [.agg [_, _, .ref 8 _ _ _, _], .ref 9 _ _ _]) (H' := [(8, .row _ _ _), (9, .row _ _ _), (7, .box [_, _, _, _]), (5, .row _ _ _), (6, .row _ _ _), (4, .box [_, _, _, _]), (3, .row _ _ _), (2, .box [_, _, _, _, _, _, _, _, _, _]), (1, .box [_, _, _, _]), (0, .box [_, _, _, _, _, _, _, _])]) (nx' := 10) [] rfl rfl rfl rfl rfl rfl rfl rfl rfl (by (repeat' apply And.intro) <;> first | trivial | rfl | exact flat_len (fun _ => rfl) _ | exact encI_len _ | exact encB_len _ | exact encY_len _ | assumption) (runR_ok f s u now (by first | omega | decide +kernel | (simp; done) | (simp; omega) | simp_all) (by first | omega | decide +kernel | (simp; done) | (simp; omega) | simp_all) (by first | omega | decide +kernel | (simp; done) | (simp; omega) | simp_all) (by first | omega | decide +kernel | (simp; done) | (simp; omega) | simp_all) (by first | omega | decide +kernel | (simp; done) | (simp; omega) | simp_all) (by first | omega | decide +kernel | (simp; done) | (simp; omega) | simp_all)) rfl (by decide) rfl rfl ⟨encB_solid, encGLine_solid, trivial⟩ rfl rfl rfl rfl ?_
  refine step_r rfl rfl trivial ?_
  refine step_r rfl rfl trivial ?_
  refine step_r rfl rfl trivial ?_
  refine step_n (o := .box [_, _, _, _]) (nx' := 11) rfl rfl rfl trivial ?_
  refine step_store (H' := [(10, .box [_, _, _, _]), (8, .row _ _ _), (9, .row _ _ _), (7, .box [_, _, _, _]), (5, .row _ _ _), (6, .row _ _ _), (4, .box [_, _, _, _]), (3, .row _ _ _), (2, .box [_, _, _, _, _, _, _, _, _, _]), (1, .box [_, _, _, _]), (0, .box [_, _, _, _, _, _, _, _])]) rfl rfl rfl rfl rfl rfl (Nat.le_of_ble_eq_true rfl) (.inl rfl) rfl ?_
  refine step_r rfl rfl trivial ?_
  refine step_nil ?_
  refine seqK_n ?_
  refine sem_seq ?_
  refine sem_region rfl ?_
  refine step_r (v := (.agg [_, _, _, _])) rfl rfl (Nat.le_of_ble_eq_true rfl) ?_
  refine step_r (v := (.agg [_, _, _, _])) rfl rfl (Nat.le_of_ble_eq_true rfl) ?_
  refine step_callJ (Hin := [.row _ _ _, .row _ _ _]) (H' := [(10, .box [_, _, _, _]), (8, .row _ _ _), (9, .row _ _ _), (7, .box [_, _, _, _]), (5, .row _ _ _), (6, .row _ _ _), (4, .box [_, _, _, _]), (3, .row _ _ _), (2, .box [_, _, _, _, _, _, _, _, _, _]), (1, .box [_, _, _, _]), (0, .box [_, _, _, _, _, _, _, _])]) (nx' := 11) [5, 8] rfl rfl rfl rfl rfl rfl rfl rfl rfl (by (repeat' apply And.intro) <;> first | trivial | rfl | exact flat_len (fun _ => rfl) _ | exact encI_len _ | exact encB_len _ | exact encY_len _ | assumption) (sameBR_ok ((runB f s u now).1) ((runB f s u now).1)) rfl (by decide) rfl rfl trivial rfl rfl rfl rfl ?_
  refine step_r rfl rfl trivial ?_
  refine step_gs rfl (fun h5 => ?_) (fun h5 => ?_)
  ·have g5 := h5
   try simp at g5
   refine step_g1 rfl h5 ?_
   refine step_r rfl rfl trivial ?_
   refine step_g1 rfl h5 ?_
   refine step_r rfl rfl trivial ?_
   refine step_g1 rfl h5 ?_
   refine step_r rfl rfl trivial ?_
   refine step_g1 rfl h5 ?_
   refine step_r rfl rfl trivial ?_
   refine step_g1 rfl h5 ?_
   refine step_bin rfl rfl rfl rfl rfl trivial ?_
   refine step_pickT rfl h5 rfl rfl ?_
   refine step_r rfl rfl trivial ?_
   refine step_nil ?_
   refine seqK_n ?_
   refine sem_seq ?_
   refine sem_seq ?_
   refine sem_region rfl ?_
   refine step_r rfl rfl trivial ?_
   refine step_nil ?_
   refine seqK_n ?_
   refine sem_block ?_
   refine sem_loop_of (fun k : Nat => (⟨[(3, I now), (4, I i), (5, .ptr 0 0), (6, .ptr 1 0), (7, .ptr 2 0), (11, B true), (13, .ptr 4 0), (14, .ptr 7 0), (15, .ref 6 5 0 (runB f s u now).2.length), (16, .ptr 10 0), (17, .ref 9 5 0 (runB f s u now).2.length), (18, B true), (19, I k)], [(0, .box [I f.Id, I f.Health, I f.Hit, I f.Every, I f.Reach, .pv (.slc f.Script.length false (f.Script.flatMap encGLine)), .pv (.slc f.Hoard.length false (f.Hoard.flatMap encGPrize)), I f.Drops]), (1, .box [I s.Phase, I s.Since, .pv (.slc s.Came.length false (encB s.Came)), I s.Rage]), (2, .box [I u.Id, I u.Kind, I u.Group, I u.Health, I u.MaxHealth, I u.Power, I u.MaxPower, I u.At.X, I u.At.Y, I u.Casting]), (3, .row 4 1 (encB s.Came)), (4, .box [I s.Phase, I s.Since, .ref 3 1 0 s.Came.length, I s.Rage]), (5, .row 4 1 (encB (runB f s u now).1.Came)), (6, .row 40 5 ((runB f s u now).2.flatMap encGLine)), (7, .box [I (runB f s u now).1.Phase, I (runB f s u now).1.Since, .ref 5 1 0 (runB f s u now).1.Came.length, I (runB f s u now).1.Rage]), (8, .row 4 1 (encB (runB f s u now).1.Came)), (9, .row 40 5 ((runB f s u now).2.flatMap encGLine)), (10, .box [I (runB f s u now).1.Phase, I (runB f s u now).1.Since, .ref 8 1 0 (runB f s u now).1.Came.length, I (runB f s u now).1.Rage])], 11, [], 171, 0⟩ : St)) (fun k : Nat => k ≤ (runB f s u now).2.length) (fun k : Nat => (runB f s u now).2.length - k) 0 (Nat.zero_le _) (less_of rfl ⟨⟨rfl, rfl⟩, ⟨rfl, rfl⟩, ⟨rfl, rfl⟩, ⟨rfl, rfl⟩, ⟨rfl, rfl⟩, ⟨rfl, rfl⟩, ⟨rfl, rfl⟩, ⟨rfl, rfl⟩, ⟨rfl, rfl⟩, ⟨rfl, rfl⟩, ⟨rfl, rfl⟩, ⟨congrArg (fun b => some (B b)) (by simp), rfl⟩, ⟨rfl, rfl⟩, trivial⟩ ⟨⟨rfl, rfl, rfl⟩, ⟨rfl, rfl, rfl⟩, ⟨rfl, rfl, rfl⟩, ⟨rfl, rfl, rfl⟩, ⟨rfl, rfl, rfl⟩, ⟨rfl, rfl, rfl⟩, ⟨rfl, rfl, rfl⟩, ⟨rfl, rfl, rfl⟩, ⟨rfl, rfl, rfl⟩, ⟨rfl, rfl, rfl⟩, ⟨rfl, rfl, rfl⟩, trivial⟩ (fun _ _ => .inr (Nat.zero_le _))) (fun k hI => ?_)
   show Walks Try.prog _ _ (⟨[(3, I now), (4, I i), (5, .ptr 0 0), (6, .ptr 1 0), (7, .ptr 2 0), (11, B true), (13, .ptr 4 0), (14, .ptr 7 0), (15, .ref 6 5 0 (runB f s u now).2.length), (16, .ptr 10 0), (17, .ref 9 5 0 (runB f s u now).2.length), (18, B true), (19, I k)], [(0, .box [I f.Id, I f.Health, I f.Hit, I f.Every, I f.Reach, .pv (.slc f.Script.length false (f.Script.flatMap encGLine)), .pv (.slc f.Hoard.length false (f.Hoard.flatMap encGPrize)), I f.Drops]), (1, .box [I s.Phase, I s.Since, .pv (.slc s.Came.length false (encB s.Came)), I s.Rage]), (2, .box [I u.Id, I u.Kind, I u.Group, I u.Health, I u.MaxHealth, I u.Power, I u.MaxPower, I u.At.X, I u.At.Y, I u.Casting]), (3, .row 4 1 (encB s.Came)), (4, .box [I s.Phase, I s.Since, .ref 3 1 0 s.Came.length, I s.Rage]), (5, .row 4 1 (encB (runB f s u now).1.Came)), (6, .row 40 5 ((runB f s u now).2.flatMap encGLine)), (7, .box [I (runB f s u now).1.Phase, I (runB f s u now).1.Since, .ref 5 1 0 (runB f s u now).1.Came.length, I (runB f s u now).1.Rage]), (8, .row 4 1 (encB (runB f s u now).1.Came)), (9, .row 40 5 ((runB f s u now).2.flatMap encGLine)), (10, .box [I (runB f s u now).1.Phase, I (runB f s u now).1.Since, .ref 8 1 0 (runB f s u now).1.Came.length, I (runB f s u now).1.Rage])], 11, [], 171, 0⟩ : St)
   refine sem_seq ?_
   refine sem_seq ?_
   refine sem_region rfl ?_
   refine step_r rfl rfl trivial ?_
   refine step_r rfl rfl trivial ?_
   refine step_r rfl rfl trivial ?_
   refine step_bin rfl rfl rfl rfl rfl trivial ?_
   refine step_r rfl rfl trivial ?_
   refine step_gs rfl (fun h9 => ?_) (fun h9 => ?_)
   ·have hk : k < (runB f s u now).2.length := by simpa using h9
    refine step_g1 rfl h9 ?_
    refine step_r rfl rfl trivial ?_
    refine step_pickT rfl h9 rfl rfl ?_
    refine step_nil ?_
    refine seqK_n ?_
    refine sem_condT rfl ?_
    refine sem_skip ?_
    refine seqK_n ?_
    refine sem_seq ?_
    refine sem_block ?_
    refine sem_drawn rfl (by decide +kernel) rfl ?_
    refine step_r rfl rfl trivial ?_
    refine step_r rfl rfl trivial ?_
    have jk10 : k < ((runB f s u now).2).length := by first | assumption | omega | (simp only [List.length_set]; omega) | (simp; omega) | simp_all
    obtain ⟨y10, jx10⟩ : ∃ z_, ((runB f s u now).2)[k]? = some z_ := ⟨_, List.getElem?_eq_getElem jk10⟩
    refine step_idxR (k := k) rfl rfl rfl rfl jk10 rfl ?_
    refine step_load_rowR rfl rfl rfl rfl (flat_lt (s := 5) (enc := encGLine) (fun _ => rfl) jk10) (flat_take (s := 5) (enc := encGLine) (fun _ => rfl) jx10) rfl ?_
    refine step_r rfl rfl trivial ?_
    refine step_r rfl rfl trivial ?_
    refine step_idxR (k := k) rfl rfl rfl rfl jk10 rfl ?_
    refine step_load_rowR rfl rfl rfl rfl (flat_lt (s := 5) (enc := encGLine) (fun _ => rfl) jk10) (flat_take (s := 5) (enc := encGLine) (fun _ => rfl) jx10) rfl ?_
    refine step_eqlA rfl rfl rfl (by kernel_rfl) rfl rfl rfl rfl rfl ?_
    refine step_r rfl rfl trivial ?_
    refine step_nil ?_
    refine blkK_n ?_
    refine seqK_n ?_
    refine sem_region rfl ?_
    refine step_r rfl rfl trivial ?_
    refine step_bin rfl rfl rfl rfl rfl trivial ?_
    refine step_r rfl rfl trivial ?_
    refine step_nil ?_
    exact lup_again (k+1) (hk) (by omega) (less_of rfl ⟨⟨rfl, rfl⟩, ⟨rfl, rfl⟩, ⟨rfl, rfl⟩, ⟨rfl, rfl⟩, ⟨rfl, rfl⟩, ⟨rfl, rfl⟩, ⟨rfl, rfl⟩, ⟨rfl, rfl⟩, ⟨rfl, rfl⟩, ⟨rfl, rfl⟩, ⟨rfl, rfl⟩, ⟨congrArg (fun b => some (B b)) (by simp), rfl⟩, ⟨congrArg (fun n => some (I n)) (wrapK hk (by unfold maxLen; have := runB_out (f := f) (s := s) (u := u) (now := now); omega)), rfl⟩, trivial⟩ ⟨⟨rfl, rfl, rfl⟩, ⟨rfl, rfl, rfl⟩, ⟨rfl, rfl, rfl⟩, ⟨rfl, rfl, rfl⟩, ⟨rfl, rfl, rfl⟩, ⟨rfl, rfl, rfl⟩, ⟨rfl, rfl, rfl⟩, ⟨rfl, rfl, rfl⟩, ⟨rfl, rfl, rfl⟩, ⟨rfl, rfl, rfl⟩, ⟨rfl, rfl, rfl⟩, trivial⟩ (fun _ _ => .inr (Nat.zero_le _)))
   ·skip
    refine step_g0 rfl h9 rfl ?_
    refine step_pickF rfl h9 rfl rfl ?_
    refine step_nil ?_
    refine seqK_n ?_
    refine sem_condF rfl ?_
    refine sem_exit ?_
    refine seqK_e ?_
    refine lupK_e ?_
    refine blkK_t rfl ?_
    refine seqK_n ?_
    refine sem_seq ?_
    refine sem_seq ?_
    refine sem_region rfl ?_
    refine step_r rfl rfl trivial ?_
    refine step_nil ?_
    refine seqK_n ?_
    refine sem_block ?_
    refine sem_loop_of (fun a : Nat × List Bool => match a with | (k, cs) => (⟨[(3, I now), (4, I i), (5, .ptr 0 0), (6, .ptr 1 0), (7, .ptr 2 0), (11, B true), (13, .ptr 4 0), (14, .ptr 7 0), (16, .ptr 10 0), (18, B true), (20, I k)], [(0, .box [I f.Id, I f.Health, I f.Hit, I f.Every, I f.Reach, .pv (.slc f.Script.length false (f.Script.flatMap encGLine)), .pv (.slc f.Hoard.length false (f.Hoard.flatMap encGPrize)), I f.Drops]), (1, .box [I s.Phase, I s.Since, .pv (.slc s.Came.length false (encB s.Came)), I s.Rage]), (2, .box [I u.Id, I u.Kind, I u.Group, I u.Health, I u.MaxHealth, I u.Power, I u.MaxPower, I u.At.X, I u.At.Y, I u.Casting]), (3, .row 4 1 (encB s.Came)), (4, .box [I s.Phase, I s.Since, .ref 3 1 0 s.Came.length, I s.Rage]), (5, .row 4 1 (encB cs)), (7, .box [I (runB f s u now).1.Phase, I (runB f s u now).1.Since, .ref 5 1 0 (runB f s u now).1.Came.length, I (runB f s u now).1.Rage]), (8, .row 4 1 (encB (runB f s u now).1.Came)), (10, .box [I (runB f s u now).1.Phase, I (runB f s u now).1.Since, .ref 8 1 0 (runB f s u now).1.Came.length, I (runB f s u now).1.Rage])], 11, [], 171, 0⟩ : St)) (fun a : Nat × List Bool => match a with | (k, cs) => k ≤ (runB f s u now).1.Came.length ∧ cs.length = (runB f s u now).1.Came.length) (fun a : Nat × List Bool => match a with | (k, cs) => (runB f s u now).1.Came.length - k) (0, _) (⟨Nat.zero_le _, rfl⟩) (less_of rfl ⟨⟨rfl, rfl⟩, ⟨rfl, rfl⟩, ⟨rfl, rfl⟩, ⟨rfl, rfl⟩, ⟨rfl, rfl⟩, ⟨rfl, rfl⟩, ⟨rfl, rfl⟩, ⟨rfl, rfl⟩, ⟨rfl, rfl⟩, ⟨rfl, rfl⟩, ⟨rfl, rfl⟩, trivial⟩ ⟨⟨rfl, rfl, rfl⟩, ⟨rfl, rfl, rfl⟩, ⟨rfl, rfl, rfl⟩, ⟨rfl, rfl, rfl⟩, ⟨rfl, rfl, rfl⟩, ⟨rfl, rfl, rfl⟩, ⟨rfl, rfl, rfl⟩, ⟨rfl, rfl, rfl⟩, ⟨rfl, rfl, rfl⟩, trivial⟩ (fun _ _ => .inr (Nat.zero_le _))) (fun a hI => ?_)
    obtain ⟨k, cs⟩ := a
    show Walks Try.prog _ _ (⟨[(3, I now), (4, I i), (5, .ptr 0 0), (6, .ptr 1 0), (7, .ptr 2 0), (11, B true), (13, .ptr 4 0), (14, .ptr 7 0), (16, .ptr 10 0), (18, B true), (20, I k)], [(0, .box [I f.Id, I f.Health, I f.Hit, I f.Every, I f.Reach, .pv (.slc f.Script.length false (f.Script.flatMap encGLine)), .pv (.slc f.Hoard.length false (f.Hoard.flatMap encGPrize)), I f.Drops]), (1, .box [I s.Phase, I s.Since, .pv (.slc s.Came.length false (encB s.Came)), I s.Rage]), (2, .box [I u.Id, I u.Kind, I u.Group, I u.Health, I u.MaxHealth, I u.Power, I u.MaxPower, I u.At.X, I u.At.Y, I u.Casting]), (3, .row 4 1 (encB s.Came)), (4, .box [I s.Phase, I s.Since, .ref 3 1 0 s.Came.length, I s.Rage]), (5, .row 4 1 (encB cs)), (7, .box [I (runB f s u now).1.Phase, I (runB f s u now).1.Since, .ref 5 1 0 (runB f s u now).1.Came.length, I (runB f s u now).1.Rage]), (8, .row 4 1 (encB (runB f s u now).1.Came)), (10, .box [I (runB f s u now).1.Phase, I (runB f s u now).1.Since, .ref 8 1 0 (runB f s u now).1.Came.length, I (runB f s u now).1.Rage])], 11, [], 171, 0⟩ : St)
    refine sem_seq ?_
    refine sem_seq ?_
    refine sem_region rfl ?_
    refine step_r rfl rfl trivial ?_
    refine step_r rfl rfl (by decide) ?_
    refine step_r rfl rfl trivial ?_
    refine step_r rfl rfl trivial ?_
    refine step_bin rfl rfl rfl rfl rfl trivial ?_
    refine step_nil ?_
    refine seqK_n ?_
    refine sem_cond rfl (fun h14 => ?_) (fun h14 => ?_)
    ·have g14 := h14
     try simp at g14
     refine sem_skip ?_
     refine seqK_n ?_
     refine sem_seq ?_
     refine sem_block ?_
     refine sem_drawn rfl (by decide +kernel) rfl ?_
     refine step_r rfl rfl (by decide) ?_
     refine step_r rfl rfl trivial ?_
     refine step_r rfl rfl trivial ?_
     refine step_r rfl rfl (by decide) ?_
     refine step_r rfl rfl trivial ?_
     refine step_r rfl rfl trivial ?_
     have jk15 : k < cs.length := by first | assumption | omega | (simp only [List.length_set]; omega) | (simp; omega) | simp_all
     obtain ⟨y15, jx15⟩ : ∃ z_, cs[k]? = some z_ := ⟨_, List.getElem?_eq_getElem jk15⟩
     refine step_idxR (k := k) rfl rfl rfl rfl (by first | assumption | omega | (have := jk15; simp only [List.length_set] at this ⊢; omega) | (have := jk15; simp at this ⊢; omega)) rfl ?_
     refine step_load_oneR rfl rfl rfl rfl (encB_get jx15) rfl ?_
     refine step_r rfl rfl trivial ?_
     refine step_idxR (k := k) rfl rfl rfl rfl (by first | assumption | omega | (have := jk15; simp only [List.length_set] at this ⊢; omega) | (have := jk15; simp at this ⊢; omega)) rfl ?_
     refine step_storeR rfl rfl rfl rfl (by have := jk15; simp [encB]; omega) (encB_set cs k (!y15)) (.inr (by decide +kernel)) rfl ?_
     refine step_nil ?_
     refine blkK_n ?_
     refine seqK_n ?_
     refine sem_region rfl ?_
     refine step_r rfl rfl trivial ?_
     refine step_bin rfl rfl rfl rfl rfl trivial ?_
     refine step_r rfl rfl trivial ?_
     refine step_nil ?_
     have hk : k < (runB f s u now).1.Came.length := by omega
     exact lup_again (k+1, _) (⟨hk, by rw [List.length_set]; exact hI.2⟩) (by show (runB f s u now).1.Came.length - (k + 1) < (runB f s u now).1.Came.length - k; omega) (less_of rfl ⟨⟨rfl, rfl⟩, ⟨rfl, rfl⟩, ⟨rfl, rfl⟩, ⟨rfl, rfl⟩, ⟨rfl, rfl⟩, ⟨rfl, rfl⟩, ⟨rfl, rfl⟩, ⟨rfl, rfl⟩, ⟨rfl, rfl⟩, ⟨rfl, rfl⟩, ⟨congrArg (fun n => some (I n)) (wrapK hk (by unfold maxLen; omega)), rfl⟩, trivial⟩ ⟨⟨rfl, rfl, rfl⟩, ⟨rfl, rfl, rfl⟩, ⟨rfl, rfl, rfl⟩, ⟨rfl, rfl, rfl⟩, ⟨rfl, rfl, rfl⟩, ⟨rfl, rfl, rfl⟩, ⟨rfl, rfl, rfl⟩, ⟨rfl, rfl, rfl⟩, ⟨rfl, rfl, rfl⟩, trivial⟩ (fun _ _ => .inr (Nat.zero_le _)))
    ·have g14 := h14
     try simp at g14
     refine sem_exit ?_
     refine seqK_e ?_
     refine lupK_e ?_
     refine blkK_t rfl ?_
     refine seqK_n ?_
     refine sem_seq ?_
     refine sem_region rfl ?_
     refine step_r (v := (.agg [_, _, _, _])) rfl rfl (Nat.le_of_ble_eq_true rfl) ?_
     refine step_callJ (Hin := []) (out' := .agg [_, _, .ref 11 _ _ _, _]) (H' := [(11, .row _ _ _), (0, .box [_, _, _, _, _, _, _, _]), (1, .box [_, _, _, _]), (2, .box [_, _, _, _, _, _, _, _, _, _]), (3, .row _ _ _), (4, .box [_, _, _, _]), (5, .row _ _ _), (7, .box [_, _, _, _]), (8, .row _ _ _), (10, .box [_, _, _, _])]) (nx' := 12) [] rfl rfl rfl rfl rfl rfl rfl rfl rfl (by (repeat' apply And.intro) <;> first | trivial | rfl | exact flat_len (fun _ => rfl) _ | exact encI_len _ | exact encB_len _ | exact encY_len _ | assumption) (copyB_ok s (by first | omega | decide +kernel | (simp; done) | (simp; omega) | simp_all)) rfl (by decide) rfl rfl ⟨encB_solid, trivial⟩ rfl rfl rfl rfl ?_
     refine step_n (o := .box [_, _, _, _]) (nx' := 13) rfl rfl rfl trivial ?_
     refine step_store (H' := [(12, .box [_, _, _, _]), (11, .row _ _ _), (0, .box [_, _, _, _, _, _, _, _]), (1, .box [_, _, _, _]), (2, .box [_, _, _, _, _, _, _, _, _, _]), (3, .row _ _ _), (4, .box [_, _, _, _]), (5, .row _ _ _), (7, .box [_, _, _, _]), (8, .row _ _ _), (10, .box [_, _, _, _])]) rfl rfl rfl rfl rfl rfl (Nat.le_of_ble_eq_true rfl) (.inl rfl) rfl ?_
     refine step_nil ?_
     refine seqK_n ?_
     refine sem_seq ?_
     refine sem_region rfl ?_
     refine step_r (v := (.agg [_, _, _, _])) rfl rfl (Nat.le_of_ble_eq_true rfl) ?_
     refine step_r (v := (.agg [_, _, _, _])) rfl rfl (Nat.le_of_ble_eq_true rfl) ?_
     refine step_callJ (Hin := [.row _ _ _]) (H' := [(12, .box [_, _, _, _]), (11, .row _ _ _), (0, .box [_, _, _, _, _, _, _, _]), (1, .box [_, _, _, _]), (2, .box [_, _, _, _, _, _, _, _, _, _]), (3, .row _ _ _), (4, .box [_, _, _, _]), (5, .row _ _ _), (7, .box [_, _, _, _]), (8, .row _ _ _), (10, .box [_, _, _, _])]) (nx' := 13) [11] rfl rfl rfl rfl rfl rfl rfl rfl rfl (by (repeat' apply And.intro) <;> first | trivial | rfl | exact flat_len (fun _ => rfl) _ | exact encI_len _ | exact encB_len _ | exact encY_len _ | assumption) (sameBR_ok s s) rfl (by decide) rfl rfl trivial rfl rfl rfl rfl ?_
     refine step_r rfl rfl trivial ?_
     refine step_nil ?_
     refine seqK_n ?_
     refine sem_seq ?_
     refine sem_seq ?_
     refine sem_region rfl ?_
     refine step_r rfl rfl trivial ?_
     refine step_nil ?_
     refine seqK_n ?_
     refine sem_block ?_
     refine sem_loop_of (fun a : Nat × List Bool => match a with | (k, cs) => (⟨[(3, I now), (4, I i), (5, .ptr 0 0), (6, .ptr 1 0), (7, .ptr 2 0), (11, B true), (13, .ptr 4 0), (16, .ptr 10 0), (18, B true), (21, .ptr 12 0), (22, B (decide (s = s))), (23, I k)], [(0, .box [I f.Id, I f.Health, I f.Hit, I f.Every, I f.Reach, .pv (.slc f.Script.length false (f.Script.flatMap encGLine)), .pv (.slc f.Hoard.length false (f.Hoard.flatMap encGPrize)), I f.Drops]), (1, .box [I s.Phase, I s.Since, .pv (.slc s.Came.length false (encB s.Came)), I s.Rage]), (2, .box [I u.Id, I u.Kind, I u.Group, I u.Health, I u.MaxHealth, I u.Power, I u.MaxPower, I u.At.X, I u.At.Y, I u.Casting]), (3, .row 4 1 (encB s.Came)), (4, .box [I s.Phase, I s.Since, .ref 3 1 0 s.Came.length, I s.Rage]), (8, .row 4 1 (encB (runB f s u now).1.Came)), (10, .box [I (runB f s u now).1.Phase, I (runB f s u now).1.Since, .ref 8 1 0 (runB f s u now).1.Came.length, I (runB f s u now).1.Rage]), (11, .row 4 1 (encB cs)), (12, .box [I s.Phase, I s.Since, .ref 11 1 0 s.Came.length, I s.Rage])], 13, [], 171, 0⟩ : St)) (fun a : Nat × List Bool => match a with | (k, cs) => k ≤ s.Came.length ∧ cs.length = s.Came.length) (fun a : Nat × List Bool => match a with | (k, cs) => s.Came.length - k) (0, _) (⟨Nat.zero_le _, rfl⟩) (less_of rfl ⟨⟨rfl, rfl⟩, ⟨rfl, rfl⟩, ⟨rfl, rfl⟩, ⟨rfl, rfl⟩, ⟨rfl, rfl⟩, ⟨rfl, rfl⟩, ⟨rfl, rfl⟩, ⟨rfl, rfl⟩, ⟨rfl, rfl⟩, ⟨rfl, rfl⟩, ⟨rfl, rfl⟩, ⟨rfl, rfl⟩, trivial⟩ ⟨⟨rfl, rfl, rfl⟩, ⟨rfl, rfl, rfl⟩, ⟨rfl, rfl, rfl⟩, ⟨rfl, rfl, rfl⟩, ⟨rfl, rfl, rfl⟩, ⟨rfl, rfl, rfl⟩, ⟨rfl, rfl, rfl⟩, ⟨rfl, rfl, rfl⟩, ⟨rfl, rfl, rfl⟩, trivial⟩ (fun _ _ => .inr (Nat.zero_le _))) (fun a hI => ?_)
     obtain ⟨k, cs⟩ := a
     show Walks Try.prog _ _ (⟨[(3, I now), (4, I i), (5, .ptr 0 0), (6, .ptr 1 0), (7, .ptr 2 0), (11, B true), (13, .ptr 4 0), (16, .ptr 10 0), (18, B true), (21, .ptr 12 0), (22, B (decide (s = s))), (23, I k)], [(0, .box [I f.Id, I f.Health, I f.Hit, I f.Every, I f.Reach, .pv (.slc f.Script.length false (f.Script.flatMap encGLine)), .pv (.slc f.Hoard.length false (f.Hoard.flatMap encGPrize)), I f.Drops]), (1, .box [I s.Phase, I s.Since, .pv (.slc s.Came.length false (encB s.Came)), I s.Rage]), (2, .box [I u.Id, I u.Kind, I u.Group, I u.Health, I u.MaxHealth, I u.Power, I u.MaxPower, I u.At.X, I u.At.Y, I u.Casting]), (3, .row 4 1 (encB s.Came)), (4, .box [I s.Phase, I s.Since, .ref 3 1 0 s.Came.length, I s.Rage]), (8, .row 4 1 (encB (runB f s u now).1.Came)), (10, .box [I (runB f s u now).1.Phase, I (runB f s u now).1.Since, .ref 8 1 0 (runB f s u now).1.Came.length, I (runB f s u now).1.Rage]), (11, .row 4 1 (encB cs)), (12, .box [I s.Phase, I s.Since, .ref 11 1 0 s.Came.length, I s.Rage])], 13, [], 171, 0⟩ : St)
     refine sem_seq ?_
     refine sem_seq ?_
     refine sem_region rfl ?_
     refine step_r rfl rfl trivial ?_
     refine step_r rfl rfl (by decide) ?_
     refine step_r rfl rfl trivial ?_
     refine step_r rfl rfl trivial ?_
     refine step_bin rfl rfl rfl rfl rfl trivial ?_
     refine step_nil ?_
     refine seqK_n ?_
     refine sem_cond rfl (fun h19 => ?_) (fun h19 => ?_)
     ·have g19 := h19
      try simp at g19
      refine sem_skip ?_
      refine seqK_n ?_
      refine sem_seq ?_
      refine sem_block ?_
      refine sem_drawn rfl (by decide +kernel) rfl ?_
      refine step_r rfl rfl (by decide) ?_
      refine step_r rfl rfl trivial ?_
      refine step_r rfl rfl trivial ?_
      refine step_r rfl rfl (by decide) ?_
      refine step_r rfl rfl trivial ?_
      refine step_r rfl rfl trivial ?_
      have jk20 : k < cs.length := by first | assumption | omega | (simp only [List.length_set]; omega) | (simp; omega) | simp_all
      obtain ⟨y20, jx20⟩ : ∃ z_, cs[k]? = some z_ := ⟨_, List.getElem?_eq_getElem jk20⟩
      refine step_idxR (k := k) rfl rfl rfl rfl (by first | assumption | omega | (have := jk20; simp only [List.length_set] at this ⊢; omega) | (have := jk20; simp at this ⊢; omega)) rfl ?_
      refine step_load_oneR rfl rfl rfl rfl (encB_get jx20) rfl ?_
      refine step_r rfl rfl trivial ?_
      refine step_idxR (k := k) rfl rfl rfl rfl (by first | assumption | omega | (have := jk20; simp only [List.length_set] at this ⊢; omega) | (have := jk20; simp at this ⊢; omega)) rfl ?_
      refine step_storeR rfl rfl rfl rfl (by have := jk20; simp [encB]; omega) (encB_set cs k (!y20)) (.inr (by decide +kernel)) rfl ?_
      refine step_nil ?_
      refine blkK_n ?_
      refine seqK_n ?_
      refine sem_region rfl ?_
      refine step_r rfl rfl trivial ?_
      refine step_bin rfl rfl rfl rfl rfl trivial ?_
      refine step_r rfl rfl trivial ?_
      refine step_nil ?_
      have hk : k < s.Came.length := by omega
      exact lup_again (k+1, _) (⟨hk, by rw [List.length_set]; exact hI.2⟩) (by show s.Came.length - (k + 1) < s.Came.length - k; omega) (less_of rfl ⟨⟨rfl, rfl⟩, ⟨rfl, rfl⟩, ⟨rfl, rfl⟩, ⟨rfl, rfl⟩, ⟨rfl, rfl⟩, ⟨rfl, rfl⟩, ⟨rfl, rfl⟩, ⟨rfl, rfl⟩, ⟨rfl, rfl⟩, ⟨rfl, rfl⟩, ⟨rfl, rfl⟩, ⟨congrArg (fun n => some (I n)) (wrapK hk (by unfold maxLen; omega)), rfl⟩, trivial⟩ ⟨⟨rfl, rfl, rfl⟩, ⟨rfl, rfl, rfl⟩, ⟨rfl, rfl, rfl⟩, ⟨rfl, rfl, rfl⟩, ⟨rfl, rfl, rfl⟩, ⟨rfl, rfl, rfl⟩, ⟨rfl, rfl, rfl⟩, ⟨rfl, rfl, rfl⟩, ⟨rfl, rfl, rfl⟩, trivial⟩ (fun _ _ => .inr (Nat.zero_le _)))
     ·have g19 := h19
      try simp at g19
      refine sem_exit ?_
      refine seqK_e ?_
      refine lupK_e ?_
      refine blkK_t rfl ?_
      refine seqK_n ?_
      refine sem_seq ?_
      refine sem_drawn rfl (by decide +kernel) rfl ?_
      refine step_r rfl rfl trivial ?_
      refine step_r rfl rfl trivial ?_
      refine step_gs rfl (fun h23 => ?_) (fun h23 => ?_)
      ·have g23 := h23
       try simp at g23
       refine step_g1 rfl h23 ?_
       refine step_r rfl rfl trivial ?_
       refine step_pickT rfl h23 rfl rfl ?_
       refine step_r rfl rfl trivial ?_
       refine step_gt rfl ?_
       refine step_r rfl rfl trivial ?_
       refine step_r rfl rfl trivial ?_
       refine step_r rfl rfl trivial ?_
       refine step_gs rfl (fun h25 => ?_) (fun h25 => ?_)
       ·have g25 := h25
        try simp at g25
        refine step_g1 rfl h25 ?_
        refine step_r (v := (.agg [_, _, _, _])) rfl rfl (Nat.le_of_ble_eq_true rfl) ?_
        refine step_g1 rfl h25 ?_
        refine step_r (v := (.agg [_, _, _, _])) rfl rfl (Nat.le_of_ble_eq_true rfl) ?_
        refine step_g1 rfl h25 ?_
        refine step_callJ (Hin := [.row _ _ _]) (H' := [(0, .box [_, _, _, _, _, _, _, _]), (1, .box [_, _, _, _]), (2, .box [_, _, _, _, _, _, _, _, _, _]), (3, .row _ _ _), (4, .box [_, _, _, _]), (8, .row _ _ _), (10, .box [_, _, _, _]), (11, .row _ _ _), (12, .box [_, _, _, _])]) (nx' := 13) [3] rfl rfl rfl rfl rfl rfl rfl rfl rfl (by (repeat' apply And.intro) <;> first | trivial | rfl | exact flat_len (fun _ => rfl) _ | exact encI_len _ | exact encB_len _ | exact encY_len _ | assumption) (sameBR_ok s s) rfl (by decide) rfl rfl trivial rfl rfl rfl rfl ?_
        refine step_pickT rfl h25 rfl rfl ?_
        refine step_r rfl rfl trivial ?_
        refine step_gs rfl (fun h27 => ?_) (fun h27 => ?_)
        ·have g27 := h27
         try simp at g27
         refine step_g1 rfl h27 ?_
         refine step_r (v := (.agg [_, _, _, _, _, _, _, _])) rfl rfl (Nat.le_of_ble_eq_true rfl) ?_
         refine step_g1 rfl h27 ?_
         refine step_r (v := (.agg [_, _, _, _])) rfl rfl (Nat.le_of_ble_eq_true rfl) ?_
         refine step_g1 rfl h27 ?_
         refine step_call rfl rfl rfl rfl (rightB_ok f s) rfl rfl rfl ?_
         refine step_g1 rfl h27 ?_
         refine step_r (v := (.agg [_, _, _, _, _, _, _, _])) rfl rfl (Nat.le_of_ble_eq_true rfl) ?_
         refine step_g1 rfl h27 ?_
         refine step_r (v := (.agg [_, _, _, _])) rfl rfl (Nat.le_of_ble_eq_true rfl) ?_
         refine step_g1 rfl h27 ?_
         refine step_call rfl rfl rfl rfl (rightBR_ok f s) rfl rfl rfl ?_
         refine step_g1 rfl h27 ?_
         refine step_bin rfl rfl rfl rfl rfl trivial ?_
         refine step_pickT rfl h27 rfl rfl ?_
         refine step_r rfl rfl trivial ?_
         refine step_gs rfl (fun h29 => ?_) (fun h29 => ?_)
         ·have g29 := h29
          try simp at g29
          refine step_g1 rfl h29 ?_
          refine step_r (v := (.agg [_, _, _, _, _, _, _, _])) rfl rfl (Nat.le_of_ble_eq_true rfl) ?_
          refine step_g1 rfl h29 ?_
          refine step_r (v := (.agg [_, _, _, _])) rfl rfl (Nat.le_of_ble_eq_true rfl) ?_
          refine step_g1 rfl h29 ?_
          refine step_r (v := (.agg [_, _, _, _, _, _, _, _, _, _])) rfl rfl (Nat.le_of_ble_eq_true rfl) ?_
          refine step_g1 rfl h29 ?_
          refine step_r rfl rfl trivial ?_
          refine step_g1 rfl h29 ?_
          refine step_r rfl rfl trivial ?_
          refine step_g1 rfl h29 ?_
          refine step_call rfl rfl rfl rfl (waits_ok f s u i now) rfl rfl rfl ?_
          refine step_g1 rfl h29 ?_
          refine step_r (v := (.agg [_, _, _, _, _, _, _, _])) rfl rfl (Nat.le_of_ble_eq_true rfl) ?_
          refine step_g1 rfl h29 ?_
          refine step_r (v := (.agg [_, _, _, _])) rfl rfl (Nat.le_of_ble_eq_true rfl) ?_
          refine step_g1 rfl h29 ?_
          refine step_r (v := (.agg [_, _, _, _, _, _, _, _, _, _])) rfl rfl (Nat.le_of_ble_eq_true rfl) ?_
          refine step_g1 rfl h29 ?_
          refine step_r rfl rfl trivial ?_
          refine step_g1 rfl h29 ?_
          refine step_r rfl rfl trivial ?_
          refine step_g1 rfl h29 ?_
          refine step_call rfl rfl rfl rfl (waitsR_ok f s u i now (by first | omega | decide +kernel | (simp; done) | (simp; omega) | simp_all) (by first | omega | decide +kernel | (simp; done) | (simp; omega) | simp_all) (by first | omega | decide +kernel | (simp; done) | (simp; omega) | simp_all) (by first | omega | decide +kernel | (simp; done) | (simp; omega) | simp_all)) rfl rfl rfl ?_
          refine step_g1 rfl h29 ?_
          refine step_bin rfl rfl rfl rfl rfl trivial ?_
          refine step_pickT rfl h29 rfl rfl ?_
          refine step_r rfl rfl trivial ?_
          refine step_gs rfl (fun h33 => ?_) (fun h33 => ?_)
          ·have g33 := h33
           try simp at g33
           refine step_g1 rfl h33 ?_
           refine step_r (v := (.agg [_, _, _, _, _, _, _, _])) rfl rfl (Nat.le_of_ble_eq_true rfl) ?_
           refine step_g1 rfl h33 ?_
           refine step_r rfl rfl trivial ?_
           refine step_g1 rfl h33 ?_
           refine step_callJ (Hin := []) (out' := .agg [_, _, .ref 13 _ _ _, _]) (H' := [(13, .row _ _ _), (0, .box [_, _, _, _, _, _, _, _]), (1, .box [_, _, _, _]), (2, .box [_, _, _, _, _, _, _, _, _, _]), (3, .row _ _ _), (4, .box [_, _, _, _]), (8, .row _ _ _), (10, .box [_, _, _, _]), (11, .row _ _ _), (12, .box [_, _, _, _])]) (nx' := 14) [] rfl rfl rfl rfl rfl rfl rfl rfl rfl (by (repeat' apply And.intro) <;> first | trivial | rfl | exact flat_len (fun _ => rfl) _ | exact encI_len _ | exact encB_len _ | exact encY_len _ | assumption) (start_ok f now (by first | omega | decide +kernel | (simp; done) | (simp; omega) | simp_all)) rfl (by decide) rfl rfl ⟨encB_solid, trivial⟩ rfl rfl rfl rfl ?_
           refine step_g1 rfl h33 ?_
           refine step_r (v := (.agg [_, _, _, _, _, _, _, _])) rfl rfl (Nat.le_of_ble_eq_true rfl) ?_
           refine step_g1 rfl h33 ?_
           refine step_r rfl rfl trivial ?_
           refine step_g1 rfl h33 ?_
           refine step_callJ (Hin := []) (out' := .agg [_, _, .ref 14 _ _ _, _]) (H' := [(14, .row _ _ _), (13, .row _ _ _), (0, .box [_, _, _, _, _, _, _, _]), (1, .box [_, _, _, _]), (2, .box [_, _, _, _, _, _, _, _, _, _]), (3, .row _ _ _), (4, .box [_, _, _, _]), (8, .row _ _ _), (10, .box [_, _, _, _]), (11, .row _ _ _), (12, .box [_, _, _, _])]) (nx' := 15) [] rfl rfl rfl rfl rfl rfl rfl rfl rfl (by (repeat' apply And.intro) <;> first | trivial | rfl | exact flat_len (fun _ => rfl) _ | exact encI_len _ | exact encB_len _ | exact encY_len _ | assumption) (startR_ok f now (by first | omega | decide +kernel | (simp; done) | (simp; omega) | simp_all)) rfl (by decide) rfl rfl ⟨encB_solid, trivial⟩ rfl rfl rfl rfl ?_
           refine step_g1 rfl h33 ?_
           refine step_callJ (Hin := [.row _ _ _, .row _ _ _]) (H' := [(14, .row _ _ _), (13, .row _ _ _), (0, .box [_, _, _, _, _, _, _, _]), (1, .box [_, _, _, _]), (2, .box [_, _, _, _, _, _, _, _, _, _]), (3, .row _ _ _), (4, .box [_, _, _, _]), (8, .row _ _ _), (10, .box [_, _, _, _]), (11, .row _ _ _), (12, .box [_, _, _, _])]) (nx' := 15) [13, 14] rfl rfl rfl rfl rfl rfl rfl rfl rfl (by (repeat' apply And.intro) <;> first | trivial | rfl | exact flat_len (fun _ => rfl) _ | exact encI_len _ | exact encB_len _ | exact encY_len _ | assumption) (sameBR_ok (⟨1, now, (List.replicate f.Script.length false), 0⟩ : GBoss) (⟨1, now, (List.replicate f.Script.length false), 0⟩ : GBoss)) rfl (by decide) rfl rfl trivial rfl rfl rfl rfl ?_
           refine step_pickT rfl h33 rfl rfl ?_
           refine step_r rfl rfl trivial ?_
           refine step_gs rfl (fun h35 => ?_) (fun h35 => ?_)
           ·have g35 := h35
            try simp at g35
            refine step_g1 rfl h35 ?_
            refine step_r (v := (.agg [_, _, _, _])) rfl rfl (Nat.le_of_ble_eq_true rfl) ?_
            refine step_g1 rfl h35 ?_
            refine step_r (v := (.agg [_, _, _, _])) rfl rfl (Nat.le_of_ble_eq_true rfl) ?_
            refine step_g1 rfl h35 ?_
            refine step_callJ (Hin := [.row _ _ _]) (H' := [(14, .row _ _ _), (13, .row _ _ _), (0, .box [_, _, _, _, _, _, _, _]), (1, .box [_, _, _, _]), (2, .box [_, _, _, _, _, _, _, _, _, _]), (3, .row _ _ _), (4, .box [_, _, _, _]), (8, .row _ _ _), (10, .box [_, _, _, _]), (11, .row _ _ _), (12, .box [_, _, _, _])]) (nx' := 15) [8] rfl rfl rfl rfl rfl rfl rfl rfl rfl (by (repeat' apply And.intro) <;> first | trivial | rfl | exact flat_len (fun _ => rfl) _ | exact encI_len _ | exact encB_len _ | exact encY_len _ | assumption) (sameB_ok s ((runB f s u now).1)) rfl (by decide) rfl rfl trivial rfl rfl rfl rfl ?_
            refine step_g1 rfl h35 ?_
            refine step_r (v := (.agg [_, _, _, _])) rfl rfl (Nat.le_of_ble_eq_true rfl) ?_
            refine step_g1 rfl h35 ?_
            refine step_r (v := (.agg [_, _, _, _])) rfl rfl (Nat.le_of_ble_eq_true rfl) ?_
            refine step_g1 rfl h35 ?_
            refine step_callJ (Hin := [.row _ _ _]) (H' := [(14, .row _ _ _), (13, .row _ _ _), (0, .box [_, _, _, _, _, _, _, _]), (1, .box [_, _, _, _]), (2, .box [_, _, _, _, _, _, _, _, _, _]), (3, .row _ _ _), (4, .box [_, _, _, _]), (8, .row _ _ _), (10, .box [_, _, _, _]), (11, .row _ _ _), (12, .box [_, _, _, _])]) (nx' := 15) [8] rfl rfl rfl rfl rfl rfl rfl rfl rfl (by (repeat' apply And.intro) <;> first | trivial | rfl | exact flat_len (fun _ => rfl) _ | exact encI_len _ | exact encB_len _ | exact encY_len _ | assumption) (sameBR_ok s ((runB f s u now).1)) rfl (by decide) rfl rfl trivial rfl rfl rfl rfl ?_
            refine step_g1 rfl h35 ?_
            refine step_bin rfl rfl rfl rfl rfl trivial ?_
            refine step_pickT rfl h35 rfl rfl ?_
            refine step_r rfl rfl trivial ?_
            refine step_nil ?_
            refine seqK_n ?_
            refine sem_ret ?_
            exact answersR rfl ⟨trivial, trivial⟩ (congrArg B (by simp)) rfl
           ·have h := h35
            simp at h
          ·have h := h33
           simp at h
         ·have h := h29
          simp at h
        ·have h := h27
         simp at h
       ·have h := h25
        simp at h
      ·have h := h23
       simp at h
  ·have h := h5
   simp at h

theorem beat {every after : Int} {k : Nat} (he : 1 ≤ every) (ha : 1 ≤ after) (hk : k ≤ 300) : runB ⟨0, 0, 0, 0, 0, [⟨1, 2, every, 3, 1⟩, ⟨1, 3, after, 3, 2⟩], [], 0⟩ ⟨1, 0, [false, decide (after < (k : Int))], 0⟩ ⟨0, 0, 0, 1, 1, 0, 0, ⟨0, 0⟩, 0⟩ k =
    (⟨1, 0, [false, decide (after < ((k + 1 : Nat) : Int))], 0⟩, (if 0 < (k : Int) ∧ (k : Int).tmod every = 0 then [⟨1, 2, every, 3, 1⟩] else []) ++ (if (k : Int) = after then [⟨1, 3, after, 3, 2⟩] else [])) := by
  have hw : IntKind.i64.wrap ((k : Int) - 0) = k := by rw [IntKind.wrap_i64]; omega
  have hd1 : ∀ b, dueB ⟨1, 2, every, 3, 1⟩ ⟨1, 0, b, 0⟩ false ⟨0, 0, 0, 1, 1, 0, 0, ⟨0, 0⟩, 0⟩ k = decide (0 < (k : Int) ∧ (k : Int).tmod every = 0) := fun b => by
    have h0 : 0 < every := by omega
    simp only [dueB, hw]
    simp [h0]
  have hd2 : ∀ b, dueB ⟨1, 3, after, 3, 2⟩ ⟨1, 0, b, 0⟩ (decide (after < (k : Int))) ⟨0, 0, 0, 1, 1, 0, 0, ⟨0, 0⟩, 0⟩ k = decide ((k : Int) = after) := fun b => by
    simp only [dueB, hw]
    rw [Bool.eq_iff_iff]
    simp
    omega
  unfold runB
  rw [if_neg (by simp)]
  by_cases h2 : (k : Int) = after
  · subst h2
    have hd3 := hd2
    simp only [Int.lt_irrefl, decide_false] at hd3
    by_cases h0 : 0 < k <;> by_cases h1 : (k : Int).tmod every = 0 <;> simp [runGo, hd1, hd3, h0, h1] <;> omega
  · by_cases h0 : 0 < k <;> by_cases h1 : (k : Int).tmod every = 0 <;> simp [runGo, hd1, hd2, h0, h1, h2] <;> first | done | omega | (rw [Bool.eq_iff_iff]; simp; omega)

theorem bossBeats_ok (every : Int) (after : Int) (n : Int) : Ok Try.prog 5 [I every, I after, I n] [] (B true) [] [] := by
 refine ok_of_sem Try.func5 rfl ?_
 show Walks Try.prog _ _ ⟨[(0, I every), (1, I after), (2, I n)], [], 0, [], 82, 0⟩
 refine sem_seq ?_
 refine sem_region rfl ?_
 refine step_r rfl rfl trivial ?_
 refine step_nil ?_
 refine seqK_n ?_
 refine sem_seq ?_
 refine sem_region rfl ?_
 refine step_call rfl rfl rfl rfl (small20_ok ) rfl rfl rfl ?_
 refine step_r rfl rfl trivial ?_
 refine step_nil ?_
 refine seqK_n ?_
 refine sem_seq ?_
 refine sem_seq ?_
 refine sem_region rfl ?_
 refine step_r rfl rfl trivial ?_
 refine step_bin rfl rfl rfl rfl rfl trivial ?_
 refine step_r rfl rfl trivial ?_
 refine step_gs rfl (fun h3 => ?_) (fun h3 => ?_)
 ·have g3 := h3
  try simp at g3
  refine step_g0 rfl h3 rfl ?_
  refine step_g0 rfl h3 rfl ?_
  refine step_pickT rfl h3 rfl rfl ?_
  refine step_r rfl rfl trivial ?_
  refine step_gf rfl rfl ?_
  refine step_gf rfl rfl ?_
  refine step_r rfl rfl trivial ?_
  refine step_r rfl rfl trivial ?_
  refine step_gf rfl rfl ?_
  refine step_gf rfl rfl ?_
  refine step_r rfl rfl trivial ?_
  refine step_nil ?_
  refine seqK_n ?_
  refine sem_condT rfl ?_
  refine sem_seq ?_
  refine sem_region rfl ?_
  refine step_r rfl rfl trivial ?_
  refine step_r rfl rfl trivial ?_
  refine step_nil ?_
  refine seqK_n ?_
  refine sem_ret ?_
  refine seqK_r ?_
  exact answersR rfl ⟨trivial, trivial⟩ (rfl) rfl
 ·have g3 := h3
  try simp at g3
  refine step_g1 rfl h3 ?_
  refine step_r rfl rfl trivial ?_
  refine step_g1 rfl h3 ?_
  refine step_bin rfl rfl rfl rfl rfl trivial ?_
  refine step_pickF rfl h3 rfl rfl ?_
  refine step_r rfl rfl trivial ?_
  refine step_gs rfl (fun h6 => ?_) (fun h6 => ?_)
  ·have g6 := h6
   try simp at g6
   refine step_g0 rfl h6 rfl ?_
   refine step_g0 rfl h6 rfl ?_
   refine step_pickT rfl h6 rfl rfl ?_
   refine step_r rfl rfl trivial ?_
   refine step_gf rfl rfl ?_
   refine step_gf rfl rfl ?_
   refine step_r rfl rfl trivial ?_
   refine step_nil ?_
   refine seqK_n ?_
   refine sem_condT rfl ?_
   refine sem_seq ?_
   refine sem_region rfl ?_
   refine step_r rfl rfl trivial ?_
   refine step_r rfl rfl trivial ?_
   refine step_nil ?_
   refine seqK_n ?_
   refine sem_ret ?_
   refine seqK_r ?_
   exact answersR rfl ⟨trivial, trivial⟩ (rfl) rfl
  ·have g6 := h6
   try simp at g6
   refine step_g1 rfl h6 ?_
   refine step_r rfl rfl trivial ?_
   refine step_g1 rfl h6 ?_
   refine step_bin rfl rfl rfl rfl rfl trivial ?_
   refine step_pickF rfl h6 rfl rfl ?_
   refine step_r rfl rfl trivial ?_
   refine step_gs rfl (fun h9 => ?_) (fun h9 => ?_)
   ·have g9 := h9
    try simp at g9
    refine step_g0 rfl h9 rfl ?_
    refine step_g0 rfl h9 rfl ?_
    refine step_pickT rfl h9 rfl rfl ?_
    refine step_nil ?_
    refine seqK_n ?_
    refine sem_condT rfl ?_
    refine sem_seq ?_
    refine sem_region rfl ?_
    refine step_r rfl rfl trivial ?_
    refine step_r rfl rfl trivial ?_
    refine step_nil ?_
    refine seqK_n ?_
    refine sem_ret ?_
    refine seqK_r ?_
    exact answersR rfl ⟨trivial, trivial⟩ (rfl) rfl
   ·have g9 := h9
    try simp at g9
    refine step_g1 rfl h9 ?_
    refine step_r rfl rfl trivial ?_
    refine step_g1 rfl h9 ?_
    refine step_bin rfl rfl rfl rfl rfl trivial ?_
    refine step_pickF rfl h9 rfl rfl ?_
    refine step_nil ?_
    refine seqK_n ?_
    refine sem_cond rfl (fun h11 => ?_) (fun h11 => ?_)
    ·have g11 := h11
     try simp at g11
     refine sem_seq ?_
     refine sem_region rfl ?_
     refine step_r rfl rfl trivial ?_
     refine step_r rfl rfl trivial ?_
     refine step_nil ?_
     refine seqK_n ?_
     refine sem_ret ?_
     refine seqK_r ?_
     exact answersR rfl ⟨trivial, trivial⟩ (rfl) rfl
    ·have g11 := h11
     try simp at g11
     refine sem_skip ?_
     refine seqK_n ?_
     refine sem_seq ?_
     refine sem_region rfl ?_
     refine step_r rfl rfl trivial ?_
     refine step_r (v := (.agg [_, _, _, _, _])) rfl rfl trivial ?_
     refine step_r rfl rfl trivial ?_
     refine step_r (v := (.agg [_, _, _, _, _])) rfl rfl trivial ?_
     refine step_n (o := .row _ _ [_, _, _, _, _, _, _, _, _, _]) (nx' := 1) rfl rfl rfl (by decide) ?_
     refine step_r (v := (.agg [_, _, _, _, _, _, _, _])) rfl rfl trivial ?_
     refine step_n (o := .box [_, _, _, _, _, _, _, _]) (nx' := 2) rfl rfl rfl trivial ?_
     refine step_store (H' := [(1, .box [_, _, _, _, _, _, _, _]), (0, .row _ _ _)]) rfl rfl rfl rfl rfl rfl (Nat.le_of_ble_eq_true rfl) (.inl rfl) rfl ?_
     refine step_nil ?_
     refine seqK_n ?_
     refine sem_seq ?_
     refine sem_region rfl ?_
     refine step_r (v := (.agg [_, _, _, _, _, _, _, _])) rfl rfl (Nat.le_of_ble_eq_true rfl) ?_
     refine step_callJ (Hin := [.row _ _ _]) (out' := .agg [_, _, .ref 2 _ _ _, _]) (H' := [(2, .row _ _ _), (1, .box [_, _, _, _, _, _, _, _]), (0, .row _ _ _)]) (nx' := 3) [0] rfl rfl rfl rfl rfl rfl rfl rfl rfl (by (repeat' apply And.intro) <;> first | trivial | rfl | exact flat_len (fun _ => rfl) _ | exact encI_len _ | exact encB_len _ | exact encY_len _ | assumption) (start_ok (⟨0, 0, 0, 0, 0, [(⟨1, 2, every, 3, 1⟩ : GLine), (⟨1, 3, after, 3, 2⟩ : GLine)], [], 0⟩ : GFoe) 0 (by first | omega | decide +kernel | (simp; done) | (simp; omega) | simp_all)) rfl (by decide) rfl rfl ⟨encB_solid, trivial⟩ rfl rfl rfl rfl ?_
     refine step_n (o := .box [_, _, _, _]) (nx' := 4) rfl rfl rfl trivial ?_
     refine step_store (H' := [(3, .box [_, _, _, _]), (2, .row _ _ _), (1, .box [_, _, _, _, _, _, _, _]), (0, .row _ _ _)]) rfl rfl rfl rfl rfl rfl (Nat.le_of_ble_eq_true rfl) (.inl rfl) rfl ?_
     refine step_nil ?_
     refine seqK_n ?_
     refine sem_seq ?_
     refine sem_seq ?_
     refine sem_region rfl ?_
     refine step_r rfl rfl trivial ?_
     refine step_nil ?_
     refine seqK_n ?_
     refine sem_block ?_
     refine sem_loop_of (fun k : Nat => (⟨[(0, I every), (1, I after), (2, I n), (7, B true), (8, .ptr 1 0), (9, .ptr 3 0), (10, I k)], [(0, .row 40 5 [i64 1, i64 2, i64 every, i64 3, i64 1, i64 1, i64 3, i64 after, i64 3, i64 2]), (1, .box [I 0, I 0, I 0, I 0, I 0, .ref 0 5 0 2, .pv (.slc 0 true []), I 0]), (2, .row 4 1 (encB [false, decide (after < (k : Int))])), (3, .box [I 1, I 0, .ref 2 1 0 2, I 0])], 4, [], 82, 0⟩ : St)) (fun k : Nat => k ≤ 300 ∧ (k : Int) ≤ n) (fun k : Nat => 300 - k) 0 (⟨by omega, by omega⟩) (less_of rfl ⟨⟨rfl, rfl⟩, ⟨rfl, rfl⟩, ⟨rfl, rfl⟩, ⟨rfl, rfl⟩, ⟨rfl, rfl⟩, ⟨rfl, rfl⟩, ⟨rfl, rfl⟩, trivial⟩ ⟨⟨rfl, rfl, rfl⟩, ⟨rfl, rfl, rfl⟩, ⟨congrArg (fun b => some (VObj.row 4 1 (encB [false, b]))) (by simp; omega), rfl, rfl⟩, ⟨rfl, rfl, rfl⟩, trivial⟩ (fun _ _ => .inr (Nat.zero_le _))) (fun k hI => ?_)
     show Walks Try.prog _ _ (⟨[(0, I every), (1, I after), (2, I n), (7, B true), (8, .ptr 1 0), (9, .ptr 3 0), (10, I k)], [(0, .row 40 5 [i64 1, i64 2, i64 every, i64 3, i64 1, i64 1, i64 3, i64 after, i64 3, i64 2]), (1, .box [I 0, I 0, I 0, I 0, I 0, .ref 0 5 0 2, .pv (.slc 0 true []), I 0]), (2, .row 4 1 (encB [false, decide (after < (k : Int))])), (3, .box [I 1, I 0, .ref 2 1 0 2, I 0])], 4, [], 82, 0⟩ : St)
     refine sem_seq ?_
     refine sem_seq ?_
     refine sem_region rfl ?_
     refine step_r rfl rfl trivial ?_
     refine step_r rfl rfl trivial ?_
     refine step_bin rfl rfl rfl rfl rfl trivial ?_
     refine step_nil ?_
     refine seqK_n ?_
     refine sem_cond rfl (fun h14 => ?_) (fun h14 => ?_)
     ·have g14 := h14
      try simp at g14
      have hkn : (k : Int) < n := by have h := h14; simp at h; omega
      have hb := beat (every := every) (after := after) (k := k) (by omega) (by omega) (by omega)
      refine sem_skip ?_
      refine seqK_n ?_
      refine sem_seq ?_
      refine sem_block ?_
      refine sem_seq ?_
      refine sem_region rfl ?_
      refine step_r (v := (.agg [_, _, _, _, _, _, _, _])) rfl rfl (Nat.le_of_ble_eq_true rfl) ?_
      refine step_r (v := (.agg [_, _, _, _])) rfl rfl (Nat.le_of_ble_eq_true rfl) ?_
      refine step_r (v := (.agg [_, _, _, _, _, _, _, _, _, _])) rfl rfl trivial ?_
      refine step_r rfl rfl trivial ?_
      refine step_callJ (Hin := [.row _ _ _, .row _ _ _]) (out' := .tup [.agg [_, _, .ref 4 _ _ _, _], .ref 5 _ _ _]) (H' := [(4, .row _ _ _), (5, .row _ _ _), (0, .row _ _ _), (1, .box [_, _, _, _, _, _, _, _]), (2, .row _ _ _), (3, .box [_, _, _, _])]) (nx' := 6) [0, 2] rfl rfl rfl rfl rfl rfl rfl rfl rfl (by (repeat' apply And.intro) <;> first | trivial | rfl | exact flat_len (fun _ => rfl) _ | exact encI_len _ | exact encB_len _ | exact encY_len _ | assumption) (run_ok (⟨0, 0, 0, 0, 0, [(⟨1, 2, every, 3, 1⟩ : GLine), (⟨1, 3, after, 3, 2⟩ : GLine)], [], 0⟩ : GFoe) (⟨1, 0, [false, decide (after < (k : Int))], 0⟩ : GBoss) (⟨0, 0, 0, 1, 1, 0, 0, (⟨0, 0⟩ : GPos), 0⟩ : GUnit) k (by first | omega | decide +kernel | (simp; done) | (simp; omega) | simp_all) (by first | omega | decide +kernel | (simp; done) | (simp; omega) | simp_all)) rfl (by decide) rfl rfl ⟨encB_solid, encGLine_solid, trivial⟩ rfl rfl rfl rfl ?_
      refine step_r rfl rfl trivial ?_
      refine step_r rfl rfl trivial ?_
      refine step_r rfl rfl trivial ?_
      refine step_n (o := .box [_, _, _, _]) (nx' := 7) rfl rfl rfl trivial ?_
      refine step_store (H' := [(6, .box [_, _, _, _]), (4, .row _ _ _), (5, .row _ _ _), (0, .row _ _ _), (1, .box [_, _, _, _, _, _, _, _]), (2, .row _ _ _), (3, .box [_, _, _, _])]) rfl rfl rfl rfl rfl rfl (Nat.le_of_ble_eq_true rfl) (.inl rfl) rfl ?_
      refine step_r rfl rfl trivial ?_
      refine step_nil ?_
      refine seqK_n ?_
      refine sem_seq ?_
      refine sem_region rfl ?_
      refine step_r rfl rfl trivial ?_
      refine step_nil ?_
      refine seqK_n ?_
      refine sem_seq ?_
      refine sem_seq ?_
      refine sem_region rfl ?_
      refine step_r rfl rfl trivial ?_
      refine step_bin rfl rfl rfl rfl rfl trivial ?_
      refine step_r rfl rfl trivial ?_
      refine step_gs rfl (fun h16 => ?_) (fun h16 => ?_)
      ·have g16 := h16
       try simp at g16
       refine step_g1 rfl h16 ?_
       refine step_r rfl rfl trivial ?_
       refine step_g1 rfl h16 ?_
       refine step_r rfl rfl trivial ?_
       refine step_g1 rfl h16 ?_
       refine step_bin rfl rfl rfl rfl rfl (by first | decide | omega | simp_all) ?_
       refine step_g1 rfl h16 ?_
       refine step_bin rfl rfl rfl rfl rfl trivial ?_
       refine step_pickT rfl h16 rfl rfl ?_
       refine step_nil ?_
       refine seqK_n ?_
       refine sem_cond rfl (fun h19 => ?_) (fun h19 => ?_)
       ·have g19 := h19
        try simp at g19
        refine sem_region rfl ?_
        refine step_r rfl rfl trivial ?_
        refine step_bin rfl rfl rfl rfl rfl trivial ?_
        refine step_r rfl rfl trivial ?_
        refine step_nil ?_
        refine seqK_n ?_
        refine sem_seq ?_
        refine sem_seq ?_
        refine sem_region rfl ?_
        refine step_r rfl rfl trivial ?_
        refine step_r rfl rfl trivial ?_
        refine step_bin rfl rfl rfl rfl rfl trivial ?_
        refine step_nil ?_
        refine seqK_n ?_
        refine sem_cond rfl (fun h23 => ?_) (fun h23 => ?_)
        ·have g23 := h23
         try simp at g23
         refine sem_region rfl ?_
         refine step_r rfl rfl trivial ?_
         refine step_bin rfl rfl rfl rfl rfl trivial ?_
         refine step_r rfl rfl trivial ?_
         refine step_nil ?_
         refine seqK_n ?_
         refine sem_seq ?_
         refine sem_seq ?_
         refine sem_region rfl ?_
         refine step_r rfl rfl trivial ?_
         refine step_r rfl rfl trivial ?_
         refine step_r rfl rfl trivial ?_
         refine step_bin rfl rfl rfl rfl rfl trivial ?_
         refine step_r rfl rfl trivial ?_
         refine step_gs rfl (fun h26 => ?_) (fun h26 => ?_)
         ·have h := h26
          rw [hb] at h
          (repeat' split at h) <;> simp_all [IntKind.wrap_i64] <;> omega
         ·have g26 := h26
          try simp at g26
          refine step_g1 rfl h26 ?_
          refine step_r rfl rfl (by decide) ?_
          refine step_g1 rfl h26 ?_
          refine step_r rfl rfl trivial ?_
          refine step_g1 rfl h26 ?_
          refine step_bin rfl rfl rfl rfl rfl trivial ?_
          refine step_pickF rfl h26 rfl rfl ?_
          refine step_r rfl rfl trivial ?_
          refine step_gs rfl (fun h28 => ?_) (fun h28 => ?_)
          ·have h := h28
           rw [hb] at h
           (repeat' split at h) <;> simp_all [IntKind.wrap_i64] <;> omega
          ·have g28 := h28
           try simp at g28
           refine step_g1 rfl h28 ?_
           refine step_r rfl rfl (by decide) ?_
           refine step_g1 rfl h28 ?_
           refine step_r rfl rfl trivial ?_
           refine step_g1 rfl h28 ?_
           refine step_bin rfl rfl rfl rfl rfl trivial ?_
           refine step_pickF rfl h28 rfl rfl ?_
           refine step_nil ?_
           refine seqK_n ?_
           refine sem_cond rfl (fun h30 => ?_) (fun h30 => ?_)
           ·have h := h30
            rw [hb] at h
            (repeat' split at h) <;> simp_all [IntKind.wrap_i64] <;> omega
           ·have g30 := h30
            try simp at g30
            refine sem_skip ?_
            refine seqK_n ?_
            refine sem_region rfl ?_
            refine step_r (v := (.agg [_, _, _, _])) rfl rfl (Nat.le_of_ble_eq_true rfl) ?_
            refine step_store (H' := [(6, .box [_, _, _, _]), (4, .row _ _ _), (5, .row _ _ _), (0, .row _ _ _), (1, .box [_, _, _, _, _, _, _, _]), (2, .row _ _ _), (3, .box [_, _, _, _])]) rfl rfl rfl rfl rfl rfl (Nat.le_of_ble_eq_true rfl) (.inl rfl) rfl ?_
            refine step_nil ?_
            refine blkK_n ?_
            refine seqK_n ?_
            refine sem_region rfl ?_
            refine step_r rfl rfl trivial ?_
            refine step_bin rfl rfl rfl rfl rfl trivial ?_
            refine step_r rfl rfl trivial ?_
            refine step_nil ?_
            exact lup_againT (k+1) (⟨by omega, by omega⟩) (by omega) (Trans.ren [(2, 4)] (by decide +kernel) (by decide +kernel) rfl ⟨⟨rfl, rfl⟩, ⟨rfl, rfl⟩, ⟨rfl, rfl⟩, ⟨rfl, rfl⟩, ⟨rfl, rfl⟩, ⟨rfl, rfl⟩, ⟨congrArg (fun n => some (I n)) (by rw [IntKind.wrap_i64]; omega), rfl⟩, trivial⟩ ⟨⟨rfl, rfl, rfl⟩, ⟨rfl, rfl, rfl⟩, ⟨by rw [hb]; rfl, rfl, rfl⟩, ⟨by rw [hb]; rfl, rfl, rfl⟩, trivial⟩ (by decide))
        ·have g23 := h23
         try simp at g23
         refine sem_skip ?_
         refine seqK_n ?_
         refine sem_seq ?_
         refine sem_seq ?_
         refine sem_region rfl ?_
         refine step_r rfl rfl trivial ?_
         refine step_r rfl rfl trivial ?_
         refine step_r rfl rfl trivial ?_
         refine step_bin rfl rfl rfl rfl rfl trivial ?_
         refine step_r rfl rfl trivial ?_
         refine step_gs rfl (fun h33 => ?_) (fun h33 => ?_)
         ·have h := h33
          rw [hb] at h
          (repeat' split at h) <;> simp_all [IntKind.wrap_i64] <;> omega
         ·have g33 := h33
          try simp at g33
          refine step_g1 rfl h33 ?_
          refine step_r rfl rfl (by decide) ?_
          refine step_g1 rfl h33 ?_
          refine step_r rfl rfl trivial ?_
          refine step_g1 rfl h33 ?_
          refine step_bin rfl rfl rfl rfl rfl trivial ?_
          refine step_pickF rfl h33 rfl rfl ?_
          refine step_r rfl rfl trivial ?_
          refine step_gs rfl (fun h35 => ?_) (fun h35 => ?_)
          ·have h := h35
           rw [hb] at h
           (repeat' split at h) <;> simp_all [IntKind.wrap_i64] <;> omega
          ·have g35 := h35
           try simp at g35
           refine step_g1 rfl h35 ?_
           refine step_r rfl rfl (by decide) ?_
           refine step_g1 rfl h35 ?_
           refine step_r rfl rfl trivial ?_
           refine step_g1 rfl h35 ?_
           refine step_bin rfl rfl rfl rfl rfl trivial ?_
           refine step_pickF rfl h35 rfl rfl ?_
           refine step_nil ?_
           refine seqK_n ?_
           refine sem_cond rfl (fun h37 => ?_) (fun h37 => ?_)
           ·have h := h37
            rw [hb] at h
            (repeat' split at h) <;> simp_all [IntKind.wrap_i64] <;> omega
           ·have g37 := h37
            try simp at g37
            refine sem_skip ?_
            refine seqK_n ?_
            refine sem_region rfl ?_
            refine step_r (v := (.agg [_, _, _, _])) rfl rfl (Nat.le_of_ble_eq_true rfl) ?_
            refine step_store (H' := [(6, .box [_, _, _, _]), (4, .row _ _ _), (5, .row _ _ _), (0, .row _ _ _), (1, .box [_, _, _, _, _, _, _, _]), (2, .row _ _ _), (3, .box [_, _, _, _])]) rfl rfl rfl rfl rfl rfl (Nat.le_of_ble_eq_true rfl) (.inl rfl) rfl ?_
            refine step_nil ?_
            refine blkK_n ?_
            refine seqK_n ?_
            refine sem_region rfl ?_
            refine step_r rfl rfl trivial ?_
            refine step_bin rfl rfl rfl rfl rfl trivial ?_
            refine step_r rfl rfl trivial ?_
            refine step_nil ?_
            exact lup_againT (k+1) (⟨by omega, by omega⟩) (by omega) (Trans.ren [(2, 4)] (by decide +kernel) (by decide +kernel) rfl ⟨⟨rfl, rfl⟩, ⟨rfl, rfl⟩, ⟨rfl, rfl⟩, ⟨rfl, rfl⟩, ⟨rfl, rfl⟩, ⟨rfl, rfl⟩, ⟨congrArg (fun n => some (I n)) (by rw [IntKind.wrap_i64]; omega), rfl⟩, trivial⟩ ⟨⟨rfl, rfl, rfl⟩, ⟨rfl, rfl, rfl⟩, ⟨by rw [hb]; rfl, rfl, rfl⟩, ⟨by rw [hb]; rfl, rfl, rfl⟩, trivial⟩ (by decide))
       ·have g19 := h19
        try simp at g19
        refine sem_skip ?_
        refine seqK_n ?_
        refine sem_seq ?_
        refine sem_seq ?_
        refine sem_region rfl ?_
        refine step_r rfl rfl trivial ?_
        refine step_r rfl rfl trivial ?_
        refine step_bin rfl rfl rfl rfl rfl trivial ?_
        refine step_nil ?_
        refine seqK_n ?_
        refine sem_cond rfl (fun h40 => ?_) (fun h40 => ?_)
        ·have g40 := h40
         try simp at g40
         refine sem_region rfl ?_
         refine step_r rfl rfl trivial ?_
         refine step_bin rfl rfl rfl rfl rfl trivial ?_
         refine step_r rfl rfl trivial ?_
         refine step_nil ?_
         refine seqK_n ?_
         refine sem_seq ?_
         refine sem_seq ?_
         refine sem_region rfl ?_
         refine step_r rfl rfl trivial ?_
         refine step_r rfl rfl trivial ?_
         refine step_r rfl rfl trivial ?_
         refine step_bin rfl rfl rfl rfl rfl trivial ?_
         refine step_r rfl rfl trivial ?_
         refine step_gs rfl (fun h44 => ?_) (fun h44 => ?_)
         ·have h := h44
          rw [hb] at h
          (repeat' split at h) <;> simp_all [IntKind.wrap_i64] <;> omega
         ·have g44 := h44
          try simp at g44
          refine step_g1 rfl h44 ?_
          refine step_r rfl rfl (by decide) ?_
          refine step_g1 rfl h44 ?_
          refine step_r rfl rfl trivial ?_
          refine step_g1 rfl h44 ?_
          refine step_bin rfl rfl rfl rfl rfl trivial ?_
          refine step_pickF rfl h44 rfl rfl ?_
          refine step_r rfl rfl trivial ?_
          refine step_gs rfl (fun h46 => ?_) (fun h46 => ?_)
          ·have h := h46
           rw [hb] at h
           (repeat' split at h) <;> simp_all [IntKind.wrap_i64] <;> omega
          ·have g46 := h46
           try simp at g46
           refine step_g1 rfl h46 ?_
           refine step_r rfl rfl (by decide) ?_
           refine step_g1 rfl h46 ?_
           refine step_r rfl rfl trivial ?_
           refine step_g1 rfl h46 ?_
           refine step_bin rfl rfl rfl rfl rfl trivial ?_
           refine step_pickF rfl h46 rfl rfl ?_
           refine step_nil ?_
           refine seqK_n ?_
           refine sem_cond rfl (fun h48 => ?_) (fun h48 => ?_)
           ·have h := h48
            rw [hb] at h
            (repeat' split at h) <;> simp_all [IntKind.wrap_i64] <;> omega
           ·have g48 := h48
            try simp at g48
            refine sem_skip ?_
            refine seqK_n ?_
            refine sem_region rfl ?_
            refine step_r (v := (.agg [_, _, _, _])) rfl rfl (Nat.le_of_ble_eq_true rfl) ?_
            refine step_store (H' := [(6, .box [_, _, _, _]), (4, .row _ _ _), (5, .row _ _ _), (0, .row _ _ _), (1, .box [_, _, _, _, _, _, _, _]), (2, .row _ _ _), (3, .box [_, _, _, _])]) rfl rfl rfl rfl rfl rfl (Nat.le_of_ble_eq_true rfl) (.inl rfl) rfl ?_
            refine step_nil ?_
            refine blkK_n ?_
            refine seqK_n ?_
            refine sem_region rfl ?_
            refine step_r rfl rfl trivial ?_
            refine step_bin rfl rfl rfl rfl rfl trivial ?_
            refine step_r rfl rfl trivial ?_
            refine step_nil ?_
            exact lup_againT (k+1) (⟨by omega, by omega⟩) (by omega) (Trans.ren [(2, 4)] (by decide +kernel) (by decide +kernel) rfl ⟨⟨rfl, rfl⟩, ⟨rfl, rfl⟩, ⟨rfl, rfl⟩, ⟨rfl, rfl⟩, ⟨rfl, rfl⟩, ⟨rfl, rfl⟩, ⟨congrArg (fun n => some (I n)) (by rw [IntKind.wrap_i64]; omega), rfl⟩, trivial⟩ ⟨⟨rfl, rfl, rfl⟩, ⟨rfl, rfl, rfl⟩, ⟨by rw [hb]; rfl, rfl, rfl⟩, ⟨by rw [hb]; rfl, rfl, rfl⟩, trivial⟩ (by decide))
        ·have g40 := h40
         try simp at g40
         refine sem_skip ?_
         refine seqK_n ?_
         refine sem_seq ?_
         refine sem_seq ?_
         refine sem_region rfl ?_
         refine step_r rfl rfl trivial ?_
         refine step_r rfl rfl trivial ?_
         refine step_r rfl rfl trivial ?_
         refine step_bin rfl rfl rfl rfl rfl trivial ?_
         refine step_r rfl rfl trivial ?_
         refine step_gs rfl (fun h52 => ?_) (fun h52 => ?_)
         ·have h := h52
          rw [hb] at h
          (repeat' split at h) <;> simp_all [IntKind.wrap_i64] <;> omega
         ·have g52 := h52
          try simp at g52
          refine step_g1 rfl h52 ?_
          refine step_r rfl rfl (by decide) ?_
          refine step_g1 rfl h52 ?_
          refine step_r rfl rfl trivial ?_
          refine step_g1 rfl h52 ?_
          refine step_bin rfl rfl rfl rfl rfl trivial ?_
          refine step_pickF rfl h52 rfl rfl ?_
          refine step_r rfl rfl trivial ?_
          refine step_gs rfl (fun h54 => ?_) (fun h54 => ?_)
          ·have h := h54
           rw [hb] at h
           (repeat' split at h) <;> simp_all [IntKind.wrap_i64] <;> omega
          ·have g54 := h54
           try simp at g54
           refine step_g1 rfl h54 ?_
           refine step_r rfl rfl (by decide) ?_
           refine step_g1 rfl h54 ?_
           refine step_r rfl rfl trivial ?_
           refine step_g1 rfl h54 ?_
           refine step_bin rfl rfl rfl rfl rfl trivial ?_
           refine step_pickF rfl h54 rfl rfl ?_
           refine step_nil ?_
           refine seqK_n ?_
           refine sem_cond rfl (fun h56 => ?_) (fun h56 => ?_)
           ·have h := h56
            rw [hb] at h
            (repeat' split at h) <;> simp_all [IntKind.wrap_i64] <;> omega
           ·have g56 := h56
            try simp at g56
            refine sem_skip ?_
            refine seqK_n ?_
            refine sem_region rfl ?_
            refine step_r (v := (.agg [_, _, _, _])) rfl rfl (Nat.le_of_ble_eq_true rfl) ?_
            refine step_store (H' := [(6, .box [_, _, _, _]), (4, .row _ _ _), (5, .row _ _ _), (0, .row _ _ _), (1, .box [_, _, _, _, _, _, _, _]), (2, .row _ _ _), (3, .box [_, _, _, _])]) rfl rfl rfl rfl rfl rfl (Nat.le_of_ble_eq_true rfl) (.inl rfl) rfl ?_
            refine step_nil ?_
            refine blkK_n ?_
            refine seqK_n ?_
            refine sem_region rfl ?_
            refine step_r rfl rfl trivial ?_
            refine step_bin rfl rfl rfl rfl rfl trivial ?_
            refine step_r rfl rfl trivial ?_
            refine step_nil ?_
            exact lup_againT (k+1) (⟨by omega, by omega⟩) (by omega) (Trans.ren [(2, 4)] (by decide +kernel) (by decide +kernel) rfl ⟨⟨rfl, rfl⟩, ⟨rfl, rfl⟩, ⟨rfl, rfl⟩, ⟨rfl, rfl⟩, ⟨rfl, rfl⟩, ⟨rfl, rfl⟩, ⟨congrArg (fun n => some (I n)) (by rw [IntKind.wrap_i64]; omega), rfl⟩, trivial⟩ ⟨⟨rfl, rfl, rfl⟩, ⟨rfl, rfl, rfl⟩, ⟨by rw [hb]; rfl, rfl, rfl⟩, ⟨by rw [hb]; rfl, rfl, rfl⟩, trivial⟩ (by decide))
      ·have g16 := h16
       try simp at g16
       refine step_g0 rfl h16 rfl ?_
       refine step_g0 rfl h16 rfl ?_
       refine step_g0 rfl h16 rfl ?_
       refine step_g0 rfl h16 rfl ?_
       refine step_pickF rfl h16 rfl rfl ?_
       refine step_nil ?_
       refine seqK_n ?_
       refine sem_condF rfl ?_
       refine sem_skip ?_
       refine seqK_n ?_
       refine sem_seq ?_
       refine sem_seq ?_
       refine sem_region rfl ?_
       refine step_r rfl rfl trivial ?_
       refine step_r rfl rfl trivial ?_
       refine step_bin rfl rfl rfl rfl rfl trivial ?_
       refine step_nil ?_
       refine seqK_n ?_
       refine sem_cond rfl (fun h59 => ?_) (fun h59 => ?_)
       ·have g59 := h59
        try simp at g59
        refine sem_region rfl ?_
        refine step_r rfl rfl trivial ?_
        refine step_bin rfl rfl rfl rfl rfl trivial ?_
        refine step_r rfl rfl trivial ?_
        refine step_nil ?_
        refine seqK_n ?_
        refine sem_seq ?_
        refine sem_seq ?_
        refine sem_region rfl ?_
        refine step_r rfl rfl trivial ?_
        refine step_r rfl rfl trivial ?_
        refine step_r rfl rfl trivial ?_
        refine step_bin rfl rfl rfl rfl rfl trivial ?_
        refine step_r rfl rfl trivial ?_
        refine step_gs rfl (fun h63 => ?_) (fun h63 => ?_)
        ·have h := h63
         rw [hb] at h
         (repeat' split at h) <;> simp_all [IntKind.wrap_i64] <;> omega
        ·have g63 := h63
         try simp at g63
         refine step_g1 rfl h63 ?_
         refine step_r rfl rfl (by decide) ?_
         refine step_g1 rfl h63 ?_
         refine step_r rfl rfl trivial ?_
         refine step_g1 rfl h63 ?_
         refine step_bin rfl rfl rfl rfl rfl trivial ?_
         refine step_pickF rfl h63 rfl rfl ?_
         refine step_r rfl rfl trivial ?_
         refine step_gs rfl (fun h65 => ?_) (fun h65 => ?_)
         ·have h := h65
          rw [hb] at h
          (repeat' split at h) <;> simp_all [IntKind.wrap_i64] <;> omega
         ·have g65 := h65
          try simp at g65
          refine step_g1 rfl h65 ?_
          refine step_r rfl rfl (by decide) ?_
          refine step_g1 rfl h65 ?_
          refine step_r rfl rfl trivial ?_
          refine step_g1 rfl h65 ?_
          refine step_bin rfl rfl rfl rfl rfl trivial ?_
          refine step_pickF rfl h65 rfl rfl ?_
          refine step_nil ?_
          refine seqK_n ?_
          refine sem_cond rfl (fun h67 => ?_) (fun h67 => ?_)
          ·have h := h67
           rw [hb] at h
           (repeat' split at h) <;> simp_all [IntKind.wrap_i64] <;> omega
          ·have g67 := h67
           try simp at g67
           refine sem_skip ?_
           refine seqK_n ?_
           refine sem_region rfl ?_
           refine step_r (v := (.agg [_, _, _, _])) rfl rfl (Nat.le_of_ble_eq_true rfl) ?_
           refine step_store (H' := [(6, .box [_, _, _, _]), (4, .row _ _ _), (5, .row _ _ _), (0, .row _ _ _), (1, .box [_, _, _, _, _, _, _, _]), (2, .row _ _ _), (3, .box [_, _, _, _])]) rfl rfl rfl rfl rfl rfl (Nat.le_of_ble_eq_true rfl) (.inl rfl) rfl ?_
           refine step_nil ?_
           refine blkK_n ?_
           refine seqK_n ?_
           refine sem_region rfl ?_
           refine step_r rfl rfl trivial ?_
           refine step_bin rfl rfl rfl rfl rfl trivial ?_
           refine step_r rfl rfl trivial ?_
           refine step_nil ?_
           exact lup_againT (k+1) (⟨by omega, by omega⟩) (by omega) (Trans.ren [(2, 4)] (by decide +kernel) (by decide +kernel) rfl ⟨⟨rfl, rfl⟩, ⟨rfl, rfl⟩, ⟨rfl, rfl⟩, ⟨rfl, rfl⟩, ⟨rfl, rfl⟩, ⟨rfl, rfl⟩, ⟨congrArg (fun n => some (I n)) (by rw [IntKind.wrap_i64]; omega), rfl⟩, trivial⟩ ⟨⟨rfl, rfl, rfl⟩, ⟨rfl, rfl, rfl⟩, ⟨by rw [hb]; rfl, rfl, rfl⟩, ⟨by rw [hb]; rfl, rfl, rfl⟩, trivial⟩ (by decide))
       ·have g59 := h59
        try simp at g59
        refine sem_skip ?_
        refine seqK_n ?_
        refine sem_seq ?_
        refine sem_seq ?_
        refine sem_region rfl ?_
        refine step_r rfl rfl trivial ?_
        refine step_r rfl rfl trivial ?_
        refine step_r rfl rfl trivial ?_
        refine step_bin rfl rfl rfl rfl rfl trivial ?_
        refine step_r rfl rfl trivial ?_
        refine step_gs rfl (fun h71 => ?_) (fun h71 => ?_)
        ·have h := h71
         rw [hb] at h
         (repeat' split at h) <;> simp_all [IntKind.wrap_i64] <;> omega
        ·have g71 := h71
         try simp at g71
         refine step_g1 rfl h71 ?_
         refine step_r rfl rfl (by decide) ?_
         refine step_g1 rfl h71 ?_
         refine step_r rfl rfl trivial ?_
         refine step_g1 rfl h71 ?_
         refine step_bin rfl rfl rfl rfl rfl trivial ?_
         refine step_pickF rfl h71 rfl rfl ?_
         refine step_r rfl rfl trivial ?_
         refine step_gs rfl (fun h73 => ?_) (fun h73 => ?_)
         ·have h := h73
          rw [hb] at h
          (repeat' split at h) <;> simp_all [IntKind.wrap_i64] <;> omega
         ·have g73 := h73
          try simp at g73
          refine step_g1 rfl h73 ?_
          refine step_r rfl rfl (by decide) ?_
          refine step_g1 rfl h73 ?_
          refine step_r rfl rfl trivial ?_
          refine step_g1 rfl h73 ?_
          refine step_bin rfl rfl rfl rfl rfl trivial ?_
          refine step_pickF rfl h73 rfl rfl ?_
          refine step_nil ?_
          refine seqK_n ?_
          refine sem_cond rfl (fun h75 => ?_) (fun h75 => ?_)
          ·have h := h75
           rw [hb] at h
           (repeat' split at h) <;> simp_all [IntKind.wrap_i64] <;> omega
          ·have g75 := h75
           try simp at g75
           refine sem_skip ?_
           refine seqK_n ?_
           refine sem_region rfl ?_
           refine step_r (v := (.agg [_, _, _, _])) rfl rfl (Nat.le_of_ble_eq_true rfl) ?_
           refine step_store (H' := [(6, .box [_, _, _, _]), (4, .row _ _ _), (5, .row _ _ _), (0, .row _ _ _), (1, .box [_, _, _, _, _, _, _, _]), (2, .row _ _ _), (3, .box [_, _, _, _])]) rfl rfl rfl rfl rfl rfl (Nat.le_of_ble_eq_true rfl) (.inl rfl) rfl ?_
           refine step_nil ?_
           refine blkK_n ?_
           refine seqK_n ?_
           refine sem_region rfl ?_
           refine step_r rfl rfl trivial ?_
           refine step_bin rfl rfl rfl rfl rfl trivial ?_
           refine step_r rfl rfl trivial ?_
           refine step_nil ?_
           exact lup_againT (k+1) (⟨by omega, by omega⟩) (by omega) (Trans.ren [(2, 4)] (by decide +kernel) (by decide +kernel) rfl ⟨⟨rfl, rfl⟩, ⟨rfl, rfl⟩, ⟨rfl, rfl⟩, ⟨rfl, rfl⟩, ⟨rfl, rfl⟩, ⟨rfl, rfl⟩, ⟨congrArg (fun n => some (I n)) (by rw [IntKind.wrap_i64]; omega), rfl⟩, trivial⟩ ⟨⟨rfl, rfl, rfl⟩, ⟨rfl, rfl, rfl⟩, ⟨by rw [hb]; rfl, rfl, rfl⟩, ⟨by rw [hb]; rfl, rfl, rfl⟩, trivial⟩ (by decide))
     ·have g14 := h14
      try simp at g14
      refine sem_exit ?_
      refine seqK_e ?_
      refine lupK_e ?_
      refine blkK_t rfl ?_
      refine seqK_n ?_
      refine sem_seq ?_
      refine sem_region rfl ?_
      refine step_r rfl rfl trivial ?_
      refine step_r rfl rfl trivial ?_
      refine step_nil ?_
      refine seqK_n ?_
      refine sem_ret ?_
      exact answersR rfl ⟨trivial, trivial⟩ (rfl) rfl
end Go.Proofs.Ytkncpoaddamlbaa

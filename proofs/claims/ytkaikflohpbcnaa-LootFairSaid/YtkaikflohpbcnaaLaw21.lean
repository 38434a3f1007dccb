import Derived.Test.YtkaikflohpbcnaaLoot
namespace Go.Proofs.Ytkaikflohpbcnaa
open Go Go.RowKit Go.Proofs.YtkaikflohpbcnaaVm
attribute [local irreducible] opsWp AnswersE OpsS
set_option maxHeartbeats 400000
set_option maxRecDepth 100000
set_option linter.all false
theorem few_ok (d : GDrop) : Ok Try.prog 8 [aGDrop d] [] (B (decide (d.Units.length ≤ 100 ∧ d.Choices.length ≤ 100))) [] [] := by
 refine Ok.len fun hlen => ?_
 have hl_d_Units : d.Units.length ≤ maxLen := hlen _ (by simp [lensL, lens, lensP])
 have hl_d_Choices : d.Choices.length ≤ maxLen := hlen _ (by simp [lensL, lens, lensP])
 unfold maxLen at hl_d_Units hl_d_Choices
 refine ok_of_sem Try.func8 rfl ?_
 show Walks Try.prog _ _ ⟨[(0, aGDrop d)], [], 0, [], 13, 0⟩
 refine sem_seq (sem_region rfl (step_n (o := .box [_, _, _, _, _]) (nx' := 1) rfl rfl rfl trivial (step_r rfl rfl trivial (step_nil (seqK_n (sem_seq (sem_region rfl (step_r rfl rfl (by decide) (step_r rfl rfl trivial (step_r rfl rfl trivial (step_bin rfl rfl rfl rfl rfl trivial ?_)))))))))))
 refine step_r rfl rfl trivial ?_
 refine step_gs rfl (fun h2 => ?_) (fun h2 => ?_)
 ·have g2 := h2
  try simp at g2
  refine step_g1 rfl h2 (step_r rfl rfl (by decide) (step_g1 rfl h2 (step_r rfl rfl trivial (step_g1 rfl h2 (step_r rfl rfl trivial (step_g1 rfl h2 (step_bin rfl rfl rfl rfl rfl trivial (step_pickT rfl h2 rfl rfl (step_r rfl rfl trivial (step_nil (seqK_n ?_)))))))))))
  refine sem_ret ?_
  refine answersR (vs := [_]) rfl ⟨trivial, trivial⟩ (congrArg B ?_) rfl
  first
   | rfl
   | (exfalso; omega)
   | (simp [g2]; done)
   | (rw [Bool.eq_iff_iff]; simp [g2]; done)
   | (rw [Bool.eq_iff_iff]; simp [g2]; omega)
   | grind []
 ·have g2 := h2
  try simp at g2
  refine step_g0 rfl h2 rfl (step_g0 rfl h2 rfl (step_g0 rfl h2 rfl (step_g0 rfl h2 rfl (step_pickF rfl h2 rfl rfl (step_r rfl rfl trivial (step_nil (seqK_n (sem_ret ?_))))))))
  refine answersR (vs := [_]) rfl ⟨trivial, trivial⟩ (congrArg B ?_) rfl
  first
   | rfl
   | (exfalso; omega)
   | (simp [g2]; done)
   | (rw [Bool.eq_iff_iff]; simp [g2]; done)
   | (rw [Bool.eq_iff_iff]; simp [g2]; omega)
   | grind []

theorem small21_ok  : Ok Try.prog 7 [] [] (B true) [] [] := by
 refine ok_of_sem Try.func7 rfl ?_
 show Walks Try.prog _ _ ⟨[], [], 0, [], 113, 0⟩
 refine sem_seq (sem_region rfl (step_r rfl rfl trivial (step_nil (seqK_n (sem_seq (sem_region rfl (step_n (o := .row _ _ [_, _, _]) (nx' := 1) rfl rfl rfl (by decide) ?_)))))))
 refine step_callJ (Hin := [.row _ _ _]) (out' := .tup [.agg [_, _, _, .ref 1 _ _ _, .ref 2 _ _ _], _]) (H' := [(1, .row _ _ _), (2, .row _ _ _), (0, _)]) (nx' := 3) [0] rfl rfl rfl rfl rfl rfl rfl rfl rfl (by (repeat' apply And.intro) <;> first | trivial | rfl | exact flat_len (fun _ => rfl) _ | exact encI_len _ | exact Nat.le_of_ble_eq_true rfl | assumption) (open_ok 1 5 10 ([1, 2, 3]) false (by first | omega | assumption | decide +kernel | (simp; done) | (simp; omega) | simp_all)) rfl (by decide) rfl rfl ⟨encI_solid, encI_solid, trivial⟩ rfl rfl rfl rfl ?_
 refine step_r rfl rfl trivial (step_r rfl rfl trivial (step_r rfl rfl trivial (step_n (o := .box [_, _, _, _, _]) (nx' := 4) rfl rfl rfl trivial ?_)))
 refine step_storeB (H' := [(3, .box [_, _, _, _, _]), (1, _), (2, _), (0, _)]) rfl rfl rfl rfl rfl rfl (.inl rfl) rfl ?_
 refine step_r rfl rfl trivial (step_nil (seqK_n (sem_seq (sem_region rfl (step_r (v := (.agg [_, _, _, _, _])) rfl rfl (Nat.le_of_ble_eq_true rfl) ?_)))))
 refine step_callJ (Hin := [.row _ _ _, .row _ _ _]) (out' := .tup [.agg [_, _, _, .ref 4 _ _ _, .ref 5 _ _ _], _]) (H' := [(4, .row _ _ _), (5, .row _ _ _), (3, _), (1, _), (2, _), (0, _)]) (nx' := 6) [1, 2] rfl rfl rfl rfl rfl rfl rfl rfl rfl (by (repeat' apply And.intro) <;> first | trivial | rfl | exact flat_len (fun _ => rfl) _ | exact encI_len _ | exact Nat.le_of_ble_eq_true rfl | assumption) (choose_ok ((openD 1 5 10 ([1, 2, 3])).1) 1 2 0) rfl (by decide) rfl rfl ⟨encI_solid, encI_solid, trivial⟩ rfl rfl rfl rfl ?_
 refine step_r rfl rfl trivial (step_r rfl rfl trivial (step_r rfl rfl trivial ?_))
 refine step_storeB (H' := [(4, _), (5, _), (3, .box [_, _, _, _, _]), (1, _), (2, _), (0, _)]) rfl rfl rfl rfl rfl rfl (.inl rfl) rfl ?_
 refine step_r rfl rfl trivial (step_nil (seqK_n (sem_seq (sem_region rfl (step_r (v := (.agg [_, _, _, _, _])) rfl rfl (Nat.le_of_ble_eq_true rfl) ?_)))))
 refine step_callJ (Hin := [.row _ _ _, .row _ _ _]) (out' := .tup [.agg [_, _, _, .ref 6 _ _ _, .ref 7 _ _ _], _]) (H' := [(6, .row _ _ _), (7, .row _ _ _), (4, _), (5, _), (3, _), (1, _), (2, _), (0, _)]) (nx' := 8) [4, 5] rfl rfl rfl rfl rfl rfl rfl rfl rfl (by (repeat' apply And.intro) <;> first | trivial | rfl | exact flat_len (fun _ => rfl) _ | exact encI_len _ | exact Nat.le_of_ble_eq_true rfl | assumption) (choose_ok ((chooseD ((openD 1 5 10 ([1, 2, 3])).1) 1 2 0).1) 2 3 0) rfl (by decide) rfl rfl ⟨encI_solid, encI_solid, trivial⟩ rfl rfl rfl rfl ?_
 refine step_r rfl rfl trivial (step_r rfl rfl trivial (step_r rfl rfl trivial ?_))
 refine step_storeB (H' := [(6, _), (7, _), (4, _), (5, _), (3, .box [_, _, _, _, _]), (1, _), (2, _), (0, _)]) rfl rfl rfl rfl rfl rfl (.inl rfl) rfl ?_
 refine step_r rfl rfl trivial (step_nil (seqK_n (sem_seq (sem_region rfl (step_r (v := (.agg [_, _, _, _, _])) rfl rfl (Nat.le_of_ble_eq_true rfl) ?_)))))
 refine step_callJ (Hin := [.row _ _ _, .row _ _ _]) (out' := .tup [.agg [_, _, _, .ref 8 _ _ _, .ref 9 _ _ _], _]) (H' := [(8, .row _ _ _), (9, .row _ _ _), (6, _), (7, _), (4, _), (5, _), (3, _), (1, _), (2, _), (0, _)]) (nx' := 10) [6, 7] rfl rfl rfl rfl rfl rfl rfl rfl rfl (by (repeat' apply And.intro) <;> first | trivial | rfl | exact flat_len (fun _ => rfl) _ | exact encI_len _ | exact Nat.le_of_ble_eq_true rfl | assumption) (choose_ok ((chooseD ((chooseD ((openD 1 5 10 ([1, 2, 3])).1) 1 2 0).1) 2 3 0).1) 2 3 0) rfl (by decide) rfl rfl ⟨encI_solid, encI_solid, trivial⟩ rfl rfl rfl rfl ?_
 refine step_r rfl rfl trivial (step_r rfl rfl trivial (step_r rfl rfl trivial (step_n (o := .box [_, _, _, _, _]) (nx' := 11) rfl rfl rfl trivial ?_)))
 refine step_storeB (H' := [(10, .box [_, _, _, _, _]), (8, _), (9, _), (6, _), (7, _), (4, _), (5, _), (3, _), (1, _), (2, _), (0, _)]) rfl rfl rfl rfl rfl rfl (.inl rfl) rfl ?_
 refine step_r rfl rfl trivial (step_nil (seqK_n (sem_seq (sem_region rfl (step_r (v := (.agg [_, _, _, _, _])) rfl rfl (Nat.le_of_ble_eq_true rfl) ?_)))))
 refine step_callJ (Hin := [.row _ _ _, .row _ _ _]) (H' := [(10, _), (8, _), (9, _), (6, _), (7, _), (4, _), (5, _), (3, _), (1, _), (2, _), (0, _)]) (nx' := 11) [6, 7] rfl rfl rfl rfl rfl rfl rfl rfl rfl (by (repeat' apply And.intro) <;> first | trivial | rfl | exact flat_len (fun _ => rfl) _ | exact encI_len _ | exact Nat.le_of_ble_eq_true rfl | assumption) (over_ok ((chooseD ((chooseD ((openD 1 5 10 ([1, 2, 3])).1) 1 2 0).1) 2 3 0).1) 9) rfl (by decide) rfl rfl trivial rfl rfl rfl rfl ?_
 refine step_r rfl rfl trivial (step_nil (seqK_n (sem_seq (sem_region rfl (step_r (v := (.agg [_, _, _, _, _])) rfl rfl (Nat.le_of_ble_eq_true rfl) ?_)))))
 refine step_callJ (Hin := [.row _ _ _, .row _ _ _]) (out' := .tup [.agg [_, _, _, .ref 11 _ _ _, .ref 12 _ _ _], _]) (H' := [(11, .row _ _ _), (12, .row _ _ _), (10, _), (8, _), (9, _), (6, _), (7, _), (4, _), (5, _), (3, _), (1, _), (2, _), (0, _)]) (nx' := 13) [6, 7] rfl rfl rfl rfl rfl rfl rfl rfl rfl (by (repeat' apply And.intro) <;> first | trivial | rfl | exact flat_len (fun _ => rfl) _ | exact encI_len _ | exact Nat.le_of_ble_eq_true rfl | assumption) (choose_ok ((chooseD ((chooseD ((openD 1 5 10 ([1, 2, 3])).1) 1 2 0).1) 2 3 0).1) 3 3 9) rfl (by decide) rfl rfl ⟨encI_solid, encI_solid, trivial⟩ rfl rfl rfl rfl ?_
 refine step_r rfl rfl trivial (step_r rfl rfl trivial (step_r rfl rfl trivial ?_))
 refine step_storeB (H' := [(11, _), (12, _), (10, _), (8, _), (9, _), (6, _), (7, _), (4, _), (5, _), (3, .box [_, _, _, _, _]), (1, _), (2, _), (0, _)]) rfl rfl rfl rfl rfl rfl (.inl rfl) rfl ?_
 refine step_r rfl rfl trivial (step_nil (seqK_n (sem_seq (sem_region rfl (step_r (v := (.agg [_, _, _, _, _])) rfl rfl (Nat.le_of_ble_eq_true rfl) (step_n (o := .row _ _ [_, _]) (nx' := 14) rfl rfl rfl (by decide) ?_))))))
 refine step_callJ (Hin := [.row _ _ _, .row _ _ _, .row _ _ _]) (out' := .tup [_, _, _]) (H' := [(13, _), (11, _), (12, _), (10, _), (8, _), (9, _), (6, _), (7, _), (4, _), (5, _), (3, _), (1, _), (2, _), (0, _)]) (nx' := 14) [11, 12, 13] rfl rfl rfl rfl rfl rfl rfl rfl rfl (by (repeat' apply And.intro) <;> first | trivial | rfl | exact flat_len (fun _ => rfl) _ | exact encI_len _ | exact Nat.le_of_ble_eq_true rfl | assumption) (award_ok ((chooseD ((chooseD ((chooseD ((openD 1 5 10 ([1, 2, 3])).1) 1 2 0).1) 2 3 0).1) 3 3 9).1) ([41, 7]) false) rfl (by decide) rfl rfl trivial rfl rfl rfl rfl ?_
 refine step_r rfl rfl trivial (step_r rfl rfl trivial (step_r rfl rfl trivial (step_r rfl rfl trivial (step_r rfl rfl trivial (step_r rfl rfl trivial (step_r rfl rfl trivial (step_nil (seqK_n (sem_seq (sem_region rfl (step_r (v := (.agg [_, _, _, _, _])) rfl rfl (Nat.le_of_ble_eq_true rfl) ?_)))))))))))
 refine step_n (o := .row _ _ [_]) (nx' := 15) rfl rfl rfl (by decide) ?_
 refine step_callJ (Hin := [.row _ _ _, .row _ _ _, .row _ _ _]) (out' := .tup [_, _, _]) (H' := [(14, _), (13, _), (11, _), (12, _), (10, _), (8, _), (9, _), (6, _), (7, _), (4, _), (5, _), (3, _), (1, _), (2, _), (0, _)]) (nx' := 15) [11, 12, 14] rfl rfl rfl rfl rfl rfl rfl rfl rfl (by (repeat' apply And.intro) <;> first | trivial | rfl | exact flat_len (fun _ => rfl) _ | exact encI_len _ | exact Nat.le_of_ble_eq_true rfl | assumption) (award_ok ((chooseD ((chooseD ((chooseD ((openD 1 5 10 ([1, 2, 3])).1) 1 2 0).1) 2 3 0).1) 3 3 9).1) ([41]) false) rfl (by decide) rfl rfl trivial rfl rfl rfl rfl ?_
 refine step_r rfl rfl trivial (step_r rfl rfl trivial (step_r rfl rfl trivial (step_r rfl rfl trivial (step_r rfl rfl trivial (step_r rfl rfl trivial (step_r rfl rfl trivial (step_nil (seqK_n (sem_seq ?_)))))))))
 refine sem_drawn rfl (by decide +kernel) rfl ?_
 refine step_r rfl rfl trivial (step_bin rfl rfl rfl rfl rfl trivial (step_r rfl rfl trivial ?_))
 refine step_gs rfl (fun h14 => ?_) (fun h14 => ?_)
 ·have g14 := h14
  try simp at g14
  refine step_g1 rfl h14 (step_r rfl rfl trivial (step_g1 rfl h14 (step_bin rfl rfl rfl rfl rfl trivial (step_pickT rfl h14 rfl rfl (step_r rfl rfl trivial ?_)))))
  refine step_gs rfl (fun h16 => ?_) (fun h16 => ?_)
  ·have g16 := h16
   try simp at g16
   refine step_g1 rfl h16 (step_r rfl rfl trivial (step_g1 rfl h16 (step_bin rfl rfl rfl rfl rfl trivial (step_pickT rfl h16 rfl rfl (step_r rfl rfl trivial ?_)))))
   refine step_gs rfl (fun h18 => ?_) (fun h18 => ?_)
   ·have g18 := h18
    try simp at g18
    refine step_g1 rfl h18 (step_r rfl rfl trivial (step_g1 rfl h18 (step_bin rfl rfl rfl rfl rfl trivial (step_pickT rfl h18 rfl rfl (step_r rfl rfl trivial ?_)))))
    refine step_gs rfl (fun h20 => ?_) (fun h20 => ?_)
    ·have g20 := h20
     try simp at g20
     refine step_g1 rfl h20 (step_r rfl rfl trivial (step_g1 rfl h20 (step_r rfl rfl trivial (step_pickT rfl h20 rfl rfl (step_r rfl rfl trivial ?_)))))
     refine step_gs rfl (fun h22 => ?_) (fun h22 => ?_)
     ·have g22 := h22
      try simp at g22
      refine step_g1 rfl h22 (step_r rfl rfl trivial (step_g1 rfl h22 (step_bin rfl rfl rfl rfl rfl trivial (step_pickT rfl h22 rfl rfl (step_r rfl rfl trivial ?_)))))
      refine step_gs rfl (fun h24 => ?_) (fun h24 => ?_)
      ·have g24 := h24
       try simp at g24
       refine step_g1 rfl h24 (step_r (v := (.agg [_, _, _, _, _])) rfl rfl (Nat.le_of_ble_eq_true rfl) (step_g1 rfl h24 ?_))
       refine step_callJ (Hin := [.row _ _ _, .row _ _ _]) (H' := [(14, _), (13, _), (11, _), (12, _), (10, _), (8, _), (9, _), (6, _), (7, _), (4, _), (5, _), (3, _), (1, _), (2, _), (0, _)]) (nx' := 15) [11, 12] rfl rfl rfl rfl rfl rfl rfl rfl rfl (by (repeat' apply And.intro) <;> first | trivial | rfl | exact flat_len (fun _ => rfl) _ | exact encI_len _ | exact Nat.le_of_ble_eq_true rfl | assumption) (over_ok ((chooseD ((chooseD ((chooseD ((openD 1 5 10 ([1, 2, 3])).1) 1 2 0).1) 2 3 0).1) 3 3 9).1) 9) rfl (by decide) rfl rfl trivial rfl rfl rfl rfl ?_
       refine step_pickT rfl h24 rfl rfl (step_r rfl rfl trivial ?_)
       refine step_gs rfl (fun h26 => ?_) (fun h26 => ?_)
       ·have g26 := h26
        try simp at g26
        refine step_g1 rfl h26 (step_r rfl rfl trivial (step_g1 rfl h26 (step_bin rfl rfl rfl rfl rfl trivial (step_pickT rfl h26 rfl rfl (step_r rfl rfl trivial ?_)))))
        refine step_gs rfl (fun h28 => ?_) (fun h28 => ?_)
        ·have g28 := h28
         try simp at g28
         refine step_g1 rfl h28 (step_r rfl rfl trivial (step_g1 rfl h28 (step_bin rfl rfl rfl rfl rfl trivial (step_pickT rfl h28 rfl rfl (step_r rfl rfl trivial ?_)))))
         refine step_gs rfl (fun h30 => ?_) (fun h30 => ?_)
         ·have g30 := h30
          try simp at g30
          refine step_g1 rfl h30 (step_r rfl rfl trivial (step_pickT rfl h30 rfl rfl (step_r rfl rfl trivial ?_)))
          refine step_gs rfl (fun h31 => ?_) (fun h31 => ?_)
          ·have g31 := h31
           try simp at g31
           refine step_g1 rfl h31 (step_r rfl rfl trivial (step_g1 rfl h31 (step_r rfl rfl trivial (step_pickT rfl h31 rfl rfl (step_r rfl rfl trivial ?_)))))
           refine step_gs rfl (fun h33 => ?_) (fun h33 => ?_)
           ·have g33 := h33
            try simp at g33
            refine step_g1 rfl h33 (step_r (v := (.agg [_, _, _, _, _])) rfl rfl (Nat.le_of_ble_eq_true rfl) (step_g1 rfl h33 ?_))
            refine step_callJ (Hin := [.row _ _ _, .row _ _ _]) (out' := .ref 15 _ _ _) (H' := [(15, .row _ _ _), (14, _), (13, _), (11, _), (12, _), (10, _), (8, _), (9, _), (6, _), (7, _), (4, _), (5, _), (3, _), (1, _), (2, _), (0, _)]) (nx' := 16) [11, 12] rfl rfl rfl rfl rfl rfl rfl rfl rfl (by (repeat' apply And.intro) <;> first | trivial | rfl | exact flat_len (fun _ => rfl) _ | exact encI_len _ | exact Nat.le_of_ble_eq_true rfl | assumption) (best_ok ((chooseD ((chooseD ((chooseD ((openD 1 5 10 ([1, 2, 3])).1) 1 2 0).1) 2 3 0).1) 3 3 9).1)) rfl (by decide) rfl rfl ⟨encI_solid, trivial⟩ rfl rfl rfl rfl ?_
            refine step_g1 rfl h33 (step_n (o := .row _ _ [_, _]) (nx' := 17) rfl rfl rfl (by decide) (step_g1 rfl h33 ?_))
            refine step_callJ (Hin := [.row _ _ _, .row _ _ _]) (H' := [(16, _), (15, _), (14, _), (13, _), (11, _), (12, _), (10, _), (8, _), (9, _), (6, _), (7, _), (4, _), (5, _), (3, _), (1, _), (2, _), (0, _)]) (nx' := 17) [15, 16] rfl rfl rfl rfl rfl rfl rfl rfl rfl (by (repeat' apply And.intro) <;> first | trivial | rfl | exact flat_len (fun _ => rfl) _ | exact encI_len _ | exact Nat.le_of_ble_eq_true rfl | assumption) (same02_ok (bestD ((chooseD ((chooseD ((chooseD ((openD 1 5 10 ([1, 2, 3])).1) 1 2 0).1) 2 3 0).1) 3 3 9).1)) false ([2, 3]) false) rfl (by decide) rfl rfl trivial rfl rfl rfl rfl ?_
            refine step_pickT rfl h33 rfl rfl (step_r rfl rfl trivial ?_)
            refine step_gs rfl (fun h35 => ?_) (fun h35 => ?_)
            ·have g35 := h35
             try simp at g35
             refine step_g1 rfl h35 (step_r (v := (.agg [_, _, _, _, _])) rfl rfl (Nat.le_of_ble_eq_true rfl) (step_g1 rfl h35 ?_))
             refine step_callJ (Hin := [.row _ _ _, .row _ _ _]) (H' := [(16, _), (15, _), (14, _), (13, _), (11, _), (12, _), (10, _), (8, _), (9, _), (6, _), (7, _), (4, _), (5, _), (3, _), (1, _), (2, _), (0, _)]) (nx' := 17) [11, 12] rfl rfl rfl rfl rfl rfl rfl rfl rfl (by (repeat' apply And.intro) <;> first | trivial | rfl | exact flat_len (fun _ => rfl) _ | exact encI_len _ | exact Nat.le_of_ble_eq_true rfl | assumption) (rightD_ok ((chooseD ((chooseD ((chooseD ((openD 1 5 10 ([1, 2, 3])).1) 1 2 0).1) 2 3 0).1) 3 3 9).1)) rfl (by decide) rfl rfl trivial rfl rfl rfl rfl ?_
             refine step_pickT rfl h35 rfl rfl (step_r rfl rfl trivial ?_)
             refine step_gs rfl (fun h37 => ?_) (fun h37 => ?_)
             ·have g37 := h37
              try simp at g37
              refine step_g1 rfl h37 (step_r (v := (.agg [_, _, _, _, _])) rfl rfl (Nat.le_of_ble_eq_true rfl) (step_g1 rfl h37 (step_r (v := (.agg [_, _, _, _, _])) rfl rfl (Nat.le_of_ble_eq_true rfl) (step_g1 rfl h37 ?_))))
              refine step_callJ (Hin := [.row _ _ _, .row _ _ _]) (out' := .agg [_, _, _, .ref 17 _ _ _, .ref 18 _ _ _]) (H' := [(17, .row _ _ _), (18, .row _ _ _), (16, _), (15, _), (14, _), (13, _), (11, _), (12, _), (10, _), (8, _), (9, _), (6, _), (7, _), (4, _), (5, _), (3, _), (1, _), (2, _), (0, _)]) (nx' := 19) [11, 12] rfl rfl rfl rfl rfl rfl rfl rfl rfl (by (repeat' apply And.intro) <;> first | trivial | rfl | exact flat_len (fun _ => rfl) _ | exact encI_len _ | exact Nat.le_of_ble_eq_true rfl | assumption) (copyD_ok ((chooseD ((chooseD ((chooseD ((openD 1 5 10 ([1, 2, 3])).1) 1 2 0).1) 2 3 0).1) 3 3 9).1) (by first | omega | assumption | decide +kernel | (simp; done) | (simp; omega) | simp_all) (by first | omega | assumption | decide +kernel | (simp; done) | (simp; omega) | simp_all)) rfl (by decide) rfl rfl ⟨encI_solid, encI_solid, trivial⟩ rfl rfl rfl rfl ?_
              refine step_g1 rfl h37 ?_
              refine step_callJ (Hin := [.row _ _ _, .row _ _ _, .row _ _ _, .row _ _ _]) (H' := [(17, _), (18, _), (16, _), (15, _), (14, _), (13, _), (11, _), (12, _), (10, _), (8, _), (9, _), (6, _), (7, _), (4, _), (5, _), (3, _), (1, _), (2, _), (0, _)]) (nx' := 19) [11, 12, 17, 18] rfl rfl rfl rfl rfl rfl rfl rfl rfl (by (repeat' apply And.intro) <;> first | trivial | rfl | exact flat_len (fun _ => rfl) _ | exact encI_len _ | exact Nat.le_of_ble_eq_true rfl | assumption) (sameD_ok ((chooseD ((chooseD ((chooseD ((openD 1 5 10 ([1, 2, 3])).1) 1 2 0).1) 2 3 0).1) 3 3 9).1) ((chooseD ((chooseD ((chooseD ((openD 1 5 10 ([1, 2, 3])).1) 1 2 0).1) 2 3 0).1) 3 3 9).1)) rfl (by decide) rfl rfl trivial rfl rfl rfl rfl ?_
              refine step_pickT rfl h37 rfl rfl (step_r rfl rfl trivial (step_nil (seqK_n (sem_ret ?_))))
              exact answersR rfl ⟨trivial, trivial⟩ (congrArg B (by decide +kernel)) rfl
             ·exact absurd h37 (by decide +kernel)
            ·exact absurd h35 (by decide +kernel)
           ·exact absurd h33 (by decide +kernel)
          ·exact absurd h31 (by decide +kernel)
         ·exact absurd h30 (by decide +kernel)
        ·exact absurd h28 (by decide +kernel)
       ·exact absurd h26 (by decide +kernel)
      ·exact absurd h24 (by decide +kernel)
     ·exact absurd h22 (by decide +kernel)
    ·exact absurd h20 (by decide +kernel)
   ·exact absurd h18 (by decide +kernel)
  ·exact absurd h16 (by decide +kernel)
 ·exact absurd h14 (by decide +kernel)

theorem choose_len (d : GDrop) (u c n : Int) : (chooseD d u c n).1.Units.length ≤ d.Units.length ∧ (chooseD d u c n).1.Choices.length ≤ d.Choices.length := by
  unfold chooseD
  split
  · simp
  · split
    · simp
    · split
      · simp
      · split <;> simp
theorem open_len (i t u : Int) (l : List Int) : (openD i t u l).1.Units.length ≤ l.length ∧ (openD i t u l).1.Choices.length ≤ l.length := by
  unfold openD
  split <;> simp

theorem lootTells_ok (d : GDrop) (unit : Int) (choice : Int) (now : Int) : Ok Try.prog 3 [aGDrop d, I unit, I choice, I now] [] (B true) [] [] := by
 refine Ok.len fun hlen => ?_
 have hl_d_Units : d.Units.length ≤ maxLen := hlen _ (by simp [lensL, lens, lensP])
 have hl_d_Choices : d.Choices.length ≤ maxLen := hlen _ (by simp [lensL, lens, lensP])
 unfold maxLen at hl_d_Units hl_d_Choices
 refine ok_of_sem Try.func3 rfl ?_
 show Walks Try.prog _ _ ⟨[(0, aGDrop d), (1, I unit), (2, I choice), (3, I now)], [], 0, [], 182, 0⟩
 refine sem_seq (sem_region rfl (step_n (o := .box [_, _, _, _, _]) (nx' := 1) rfl rfl rfl trivial (step_r rfl rfl trivial (step_nil (seqK_n (sem_seq (sem_region rfl (step_call rfl rfl rfl rfl (small21_ok ) rfl rfl rfl (step_r rfl rfl trivial (step_nil (seqK_n ?_)))))))))))
 refine sem_seq (sem_region rfl (step_r (v := (.agg [_, _, _, _, _])) rfl rfl (Nat.le_of_ble_eq_true rfl) (step_call rfl rfl rfl rfl (few_ok d) rfl rfl rfl (step_r rfl rfl trivial (step_nil (seqK_n (sem_seq (sem_seq (sem_region rfl (step_r rfl rfl trivial (step_r rfl rfl trivial ?_)))))))))))
 refine step_nil (seqK_n ?_)
 refine sem_cond rfl (fun h2 => ?_) (fun h2 => ?_)
 ·have g2 := h2
  try simp at g2
  skip
  refine sem_seq (sem_region rfl (step_r rfl rfl trivial (step_r rfl rfl trivial (step_nil (seqK_n (sem_ret (seqK_r ?_)))))))
  exact answersR rfl ⟨trivial, trivial⟩ (rfl) rfl
 ·have g2 := h2
  try simp at g2
  obtain ⟨q1, q2⟩ : d.Units.length ≤ 100 ∧ d.Choices.length ≤ 100 := by simpa using h2
  have q3 := choose_len d unit choice now
  have q4 := open_len d.Id d.Item d.Until d.Units
  refine sem_skip (seqK_n (sem_seq (sem_region rfl (step_r (v := (.agg [_, _, _, _, _])) rfl rfl (Nat.le_of_ble_eq_true rfl) ?_))))
  refine step_callJ (Hin := []) (out' := .agg [_, _, _, .ref 1 _ _ _, .ref 2 _ _ _]) (H' := [(1, .row _ _ _), (2, .row _ _ _), (0, _)]) (nx' := 3) [] rfl rfl rfl rfl rfl rfl rfl rfl rfl (by (repeat' apply And.intro) <;> first | trivial | rfl | exact flat_len (fun _ => rfl) _ | exact encI_len _ | exact Nat.le_of_ble_eq_true rfl | assumption) (copyDR_ok d (by first | omega | assumption | decide +kernel | (simp; done) | (simp; omega) | simp_all) (by first | omega | assumption | decide +kernel | (simp; done) | (simp; omega) | simp_all)) rfl (by decide) rfl rfl ⟨encI_solid, encI_solid, trivial⟩ rfl rfl rfl rfl ?_
  refine step_n (o := .box [_, _, _, _, _]) (nx' := 4) rfl rfl rfl trivial ?_
  refine step_storeB (H' := [(3, .box [_, _, _, _, _]), (1, _), (2, _), (0, _)]) rfl rfl rfl rfl rfl rfl (.inl rfl) rfl ?_
  refine step_nil (seqK_n (sem_seq (sem_region rfl (step_r (v := (.agg [_, _, _, _, _])) rfl rfl (Nat.le_of_ble_eq_true rfl) (step_r rfl rfl trivial (step_r rfl rfl trivial (step_r rfl rfl trivial ?_)))))))
  refine step_callJ (Hin := []) (out' := .tup [.agg [_, _, _, .ref 4 _ _ _, .ref 5 _ _ _], _]) (H' := [(4, .row _ _ _), (5, .row _ _ _), (3, _), (1, _), (2, _), (0, _)]) (nx' := 6) [] rfl rfl rfl rfl rfl rfl rfl rfl rfl (by (repeat' apply And.intro) <;> first | trivial | rfl | exact flat_len (fun _ => rfl) _ | exact encI_len _ | exact Nat.le_of_ble_eq_true rfl | assumption) (choose_ok d unit choice now) rfl (by decide) rfl rfl ⟨encI_solid, encI_solid, trivial⟩ rfl rfl rfl rfl ?_
  refine step_r rfl rfl trivial (step_r rfl rfl trivial (step_r rfl rfl trivial (step_n (o := .box [_, _, _, _, _]) (nx' := 7) rfl rfl rfl trivial ?_)))
  refine step_storeB (H' := [(6, .box [_, _, _, _, _]), (4, _), (5, _), (3, _), (1, _), (2, _), (0, _)]) rfl rfl rfl rfl rfl rfl (.inl rfl) rfl ?_
  refine step_r rfl rfl trivial (step_nil (seqK_n (sem_seq (sem_region rfl (step_r (v := (.agg [_, _, _, _, _])) rfl rfl (Nat.le_of_ble_eq_true rfl) (step_r rfl rfl trivial (step_r rfl rfl trivial (step_r rfl rfl trivial ?_))))))))
  refine step_callJ (Hin := []) (out' := .tup [.agg [_, _, _, .ref 7 _ _ _, .ref 8 _ _ _], _]) (H' := [(7, .row _ _ _), (8, .row _ _ _), (6, _), (4, _), (5, _), (3, _), (1, _), (2, _), (0, _)]) (nx' := 9) [] rfl rfl rfl rfl rfl rfl rfl rfl rfl (by (repeat' apply And.intro) <;> first | trivial | rfl | exact flat_len (fun _ => rfl) _ | exact encI_len _ | exact Nat.le_of_ble_eq_true rfl | assumption) (chooseR_ok d unit choice now) rfl (by decide) rfl rfl ⟨encI_solid, encI_solid, trivial⟩ rfl rfl rfl rfl ?_
  refine step_r rfl rfl trivial (step_r rfl rfl trivial (step_r rfl rfl trivial (step_n (o := .box [_, _, _, _, _]) (nx' := 10) rfl rfl rfl trivial ?_)))
  refine step_storeB (H' := [(9, .box [_, _, _, _, _]), (7, _), (8, _), (6, _), (4, _), (5, _), (3, _), (1, _), (2, _), (0, _)]) rfl rfl rfl rfl rfl rfl (.inl rfl) rfl ?_
  refine step_r rfl rfl trivial (step_nil (seqK_n (sem_seq (sem_region rfl (step_r rfl rfl (by decide) (step_r rfl rfl trivial (step_r rfl rfl (by decide) (step_r rfl rfl trivial (step_r rfl rfl (by decide) (step_r rfl rfl trivial (step_r rfl rfl (by decide) ?_)))))))))))
  refine step_r rfl rfl trivial ?_
  refine step_callJ (Hin := []) (out' := .tup [.agg [_, _, _, .ref 10 _ _ _, .ref 11 _ _ _], _]) (H' := [(10, .row _ _ _), (11, .row _ _ _), (9, _), (7, _), (8, _), (6, _), (4, _), (5, _), (3, _), (1, _), (2, _), (0, _)]) (nx' := 12) [] rfl rfl rfl rfl rfl rfl rfl rfl rfl (by (repeat' apply And.intro) <;> first | trivial | rfl | exact flat_len (fun _ => rfl) _ | exact encI_len _ | exact Nat.le_of_ble_eq_true rfl | assumption) (open_ok d.Id d.Item d.Until d.Units false (by first | omega | assumption | decide +kernel | (simp; done) | (simp; omega) | simp_all)) rfl (by decide) rfl rfl ⟨encI_solid, encI_solid, trivial⟩ rfl rfl rfl rfl ?_
  refine step_r rfl rfl trivial (step_r rfl rfl trivial (step_r rfl rfl trivial (step_n (o := .box [_, _, _, _, _]) (nx' := 13) rfl rfl rfl trivial ?_)))
  refine step_storeB (H' := [(12, .box [_, _, _, _, _]), (10, _), (11, _), (9, _), (7, _), (8, _), (6, _), (4, _), (5, _), (3, _), (1, _), (2, _), (0, _)]) rfl rfl rfl rfl rfl rfl (.inl rfl) rfl ?_
  refine step_r rfl rfl trivial (step_nil (seqK_n (sem_seq (sem_region rfl (step_r rfl rfl (by decide) (step_r rfl rfl trivial (step_r rfl rfl (by decide) (step_r rfl rfl trivial (step_r rfl rfl (by decide) (step_r rfl rfl trivial (step_r rfl rfl (by decide) ?_)))))))))))
  refine step_r rfl rfl trivial ?_
  refine step_callJ (Hin := []) (out' := .tup [.agg [_, _, _, .ref 13 _ _ _, .ref 14 _ _ _], _]) (H' := [(13, .row _ _ _), (14, .row _ _ _), (12, _), (10, _), (11, _), (9, _), (7, _), (8, _), (6, _), (4, _), (5, _), (3, _), (1, _), (2, _), (0, _)]) (nx' := 15) [] rfl rfl rfl rfl rfl rfl rfl rfl rfl (by (repeat' apply And.intro) <;> first | trivial | rfl | exact flat_len (fun _ => rfl) _ | exact encI_len _ | exact Nat.le_of_ble_eq_true rfl | assumption) (openR_ok d.Id d.Item d.Until d.Units false (by first | omega | assumption | decide +kernel | (simp; done) | (simp; omega) | simp_all)) rfl (by decide) rfl rfl ⟨encI_solid, encI_solid, trivial⟩ rfl rfl rfl rfl ?_
  refine step_r rfl rfl trivial (step_r rfl rfl trivial (step_r rfl rfl trivial (step_n (o := .box [_, _, _, _, _]) (nx' := 16) rfl rfl rfl trivial ?_)))
  refine step_storeB (H' := [(15, .box [_, _, _, _, _]), (13, _), (14, _), (12, _), (10, _), (11, _), (9, _), (7, _), (8, _), (6, _), (4, _), (5, _), (3, _), (1, _), (2, _), (0, _)]) rfl rfl rfl rfl rfl rfl (.inl rfl) rfl ?_
  refine step_r rfl rfl trivial (step_nil (seqK_n (sem_seq (sem_region rfl (step_r (v := (.agg [_, _, _, _, _])) rfl rfl (Nat.le_of_ble_eq_true rfl) ?_)))))
  refine step_callJ (Hin := []) (out' := .agg [_, _, _, .ref 16 _ _ _, .ref 17 _ _ _]) (H' := [(16, .row _ _ _), (17, .row _ _ _), (15, _), (13, _), (14, _), (12, _), (10, _), (11, _), (9, _), (7, _), (8, _), (6, _), (4, _), (5, _), (3, _), (1, _), (2, _), (0, _)]) (nx' := 18) [] rfl rfl rfl rfl rfl rfl rfl rfl rfl (by (repeat' apply And.intro) <;> first | trivial | rfl | exact flat_len (fun _ => rfl) _ | exact encI_len _ | exact Nat.le_of_ble_eq_true rfl | assumption) (copyD_ok d (by first | omega | assumption | decide +kernel | (simp; done) | (simp; omega) | simp_all) (by first | omega | assumption | decide +kernel | (simp; done) | (simp; omega) | simp_all)) rfl (by decide) rfl rfl ⟨encI_solid, encI_solid, trivial⟩ rfl rfl rfl rfl ?_
  refine step_n (o := .box [_, _, _, _, _]) (nx' := 19) rfl rfl rfl trivial ?_
  refine step_storeB (H' := [(18, .box [_, _, _, _, _]), (16, _), (17, _), (15, _), (13, _), (14, _), (12, _), (10, _), (11, _), (9, _), (7, _), (8, _), (6, _), (4, _), (5, _), (3, _), (1, _), (2, _), (0, _)]) rfl rfl rfl rfl rfl rfl (.inl rfl) rfl ?_
  refine step_nil (seqK_n (sem_seq (sem_region rfl (step_r (v := (.agg [_, _, _, _, _])) rfl rfl (Nat.le_of_ble_eq_true rfl) (step_r (v := (.agg [_, _, _, _, _])) rfl rfl (Nat.le_of_ble_eq_true rfl) ?_)))))
  refine step_callJ (Hin := [.row _ _ _, .row _ _ _, .row _ _ _, .row _ _ _]) (H' := [(18, _), (16, _), (17, _), (15, _), (13, _), (14, _), (12, _), (10, _), (11, _), (9, _), (7, _), (8, _), (6, _), (4, _), (5, _), (3, _), (1, _), (2, _), (0, _)]) (nx' := 19) [4, 5, 7, 8] rfl rfl rfl rfl rfl rfl rfl rfl rfl (by (repeat' apply And.intro) <;> first | trivial | rfl | exact flat_len (fun _ => rfl) _ | exact encI_len _ | exact Nat.le_of_ble_eq_true rfl | assumption) (sameDR_ok ((chooseD d unit choice now).1) ((chooseD d unit choice now).1)) rfl (by decide) rfl rfl trivial rfl rfl rfl rfl ?_
  refine step_r rfl rfl trivial ?_
  refine step_gs rfl (fun h11 => ?_) (fun h11 => ?_)
  ·have g11 := h11
   try simp at g11
   refine step_g1 rfl h11 (step_r rfl rfl trivial (step_g1 rfl h11 (step_r rfl rfl trivial (step_g1 rfl h11 (step_bin rfl rfl rfl rfl rfl trivial (step_pickT rfl h11 rfl rfl (step_r rfl rfl trivial ?_)))))))
   refine step_gs rfl (fun h13 => ?_) (fun h13 => ?_)
   ·have g13 := h13
    try simp at g13
    refine step_g1 rfl h13 (step_r (v := (.agg [_, _, _, _, _])) rfl rfl (Nat.le_of_ble_eq_true rfl) (step_g1 rfl h13 (step_r (v := (.agg [_, _, _, _, _])) rfl rfl (Nat.le_of_ble_eq_true rfl) (step_g1 rfl h13 ?_))))
    refine step_callJ (Hin := [.row _ _ _, .row _ _ _, .row _ _ _, .row _ _ _]) (H' := [(18, _), (16, _), (17, _), (15, _), (13, _), (14, _), (12, _), (10, _), (11, _), (9, _), (7, _), (8, _), (6, _), (4, _), (5, _), (3, _), (1, _), (2, _), (0, _)]) (nx' := 19) [10, 11, 13, 14] rfl rfl rfl rfl rfl rfl rfl rfl rfl (by (repeat' apply And.intro) <;> first | trivial | rfl | exact flat_len (fun _ => rfl) _ | exact encI_len _ | exact Nat.le_of_ble_eq_true rfl | assumption) (sameDR_ok ((openD d.Id d.Item d.Until d.Units).1) ((openD d.Id d.Item d.Until d.Units).1)) rfl (by decide) rfl rfl trivial rfl rfl rfl rfl ?_
    refine step_pickT rfl h13 rfl rfl (step_r rfl rfl trivial ?_)
    refine step_gs rfl (fun h15 => ?_) (fun h15 => ?_)
    ·have g15 := h15
     try simp at g15
     refine step_g1 rfl h15 (step_r rfl rfl trivial (step_g1 rfl h15 (step_r rfl rfl trivial (step_g1 rfl h15 (step_bin rfl rfl rfl rfl rfl trivial (step_pickT rfl h15 rfl rfl (step_r rfl rfl trivial ?_)))))))
     refine step_gs rfl (fun h17 => ?_) (fun h17 => ?_)
     ·have g17 := h17
      try simp at g17
      refine step_g1 rfl h17 (step_r (v := (.agg [_, _, _, _, _])) rfl rfl (Nat.le_of_ble_eq_true rfl) (step_g1 rfl h17 (step_r (v := (.agg [_, _, _, _, _])) rfl rfl (Nat.le_of_ble_eq_true rfl) (step_g1 rfl h17 ?_))))
      refine step_callJ (Hin := [.row _ _ _, .row _ _ _]) (H' := [(18, _), (16, _), (17, _), (15, _), (13, _), (14, _), (12, _), (10, _), (11, _), (9, _), (7, _), (8, _), (6, _), (4, _), (5, _), (3, _), (1, _), (2, _), (0, _)]) (nx' := 19) [16, 17] rfl rfl rfl rfl rfl rfl rfl rfl rfl (by (repeat' apply And.intro) <;> first | trivial | rfl | exact flat_len (fun _ => rfl) _ | exact encI_len _ | exact Nat.le_of_ble_eq_true rfl | assumption) (sameDR_ok d d) rfl (by decide) rfl rfl trivial rfl rfl rfl rfl ?_
      refine step_pickT rfl h17 rfl rfl (step_r rfl rfl trivial (step_nil (seqK_n (sem_seq (sem_seq (sem_region rfl (step_r rfl rfl trivial (step_nil (seqK_n (sem_block ?_))))))))))
      refine sem_loop_of (fun a : Nat × List Int × List Int => match a with | (k, c1, c2) => (⟨[(3, I now), (4, .ptr 0 0), (9, B true), (11, .ptr 3 0), (12, .ptr 6 0), (14, .ptr 9 0), (16, .ptr 12 0), (20, .ptr 18 0), (21, B true), (22, I k)], [(0, .box [I d.Id, I d.Item, I d.Until, .pv (.slc d.Units.length false (encI d.Units)), .pv (.slc d.Choices.length false (encI d.Choices))]), (1, .row 3 1 (encI d.Units)), (2, .row 3 1 (encI d.Choices)), (3, .box [I d.Id, I d.Item, I d.Until, .ref 1 1 0 d.Units.length, .ref 2 1 0 d.Choices.length]), (4, .row 3 1 (encI c1)), (5, .row 3 1 (encI c2)), (6, .box [I (chooseD d unit choice now).1.Id, I (chooseD d unit choice now).1.Item, I (chooseD d unit choice now).1.Until, .ref 4 1 0 (chooseD d unit choice now).1.Units.length, .ref 5 1 0 (chooseD d unit choice now).1.Choices.length]), (7, .row 3 1 (encI (chooseD d unit choice now).1.Units)), (8, .row 3 1 (encI (chooseD d unit choice now).1.Choices)), (9, .box [I (chooseD d unit choice now).1.Id, I (chooseD d unit choice now).1.Item, I (chooseD d unit choice now).1.Until, .ref 7 1 0 (chooseD d unit choice now).1.Units.length, .ref 8 1 0 (chooseD d unit choice now).1.Choices.length]), (10, .row 3 1 (encI (openD d.Id d.Item d.Until d.Units).1.Units)), (11, .row 3 1 (encI (openD d.Id d.Item d.Until d.Units).1.Choices)), (12, .box [I (openD d.Id d.Item d.Until d.Units).1.Id, I (openD d.Id d.Item d.Until d.Units).1.Item, I (openD d.Id d.Item d.Until d.Units).1.Until, .ref 10 1 0 (openD d.Id d.Item d.Until d.Units).1.Units.length, .ref 11 1 0 (openD d.Id d.Item d.Until d.Units).1.Choices.length]), (16, .row 3 1 (encI d.Units)), (17, .row 3 1 (encI d.Choices)), (18, .box [I d.Id, I d.Item, I d.Until, .ref 16 1 0 d.Units.length, .ref 17 1 0 d.Choices.length])], 19, [], 182, 0⟩ : St)) (fun a : Nat × List Int × List Int => match a with | (k, c1, c2) => k ≤ (chooseD d unit choice now).1.Units.length ∧ c1.length = (chooseD d unit choice now).1.Units.length ∧ c2.length = (chooseD d unit choice now).1.Choices.length) (fun a : Nat × List Int × List Int => match a with | (k, c1, c2) => (chooseD d unit choice now).1.Units.length - k) (0, _, _) (⟨Nat.zero_le _, rfl, rfl⟩) (less_of rfl ⟨⟨rfl, rfl⟩, ⟨rfl, rfl⟩, ⟨rfl, rfl⟩, ⟨rfl, rfl⟩, ⟨rfl, rfl⟩, ⟨rfl, rfl⟩, ⟨rfl, rfl⟩, ⟨rfl, rfl⟩, ⟨congrArg (fun b => some (B b)) (by simp), rfl⟩, ⟨rfl, rfl⟩, trivial⟩ ⟨⟨rfl, rfl, rfl⟩, ⟨rfl, rfl, rfl⟩, ⟨rfl, rfl, rfl⟩, ⟨rfl, rfl, rfl⟩, ⟨rfl, rfl, rfl⟩, ⟨rfl, rfl, rfl⟩, ⟨rfl, rfl, rfl⟩, ⟨rfl, rfl, rfl⟩, ⟨rfl, rfl, rfl⟩, ⟨rfl, rfl, rfl⟩, ⟨rfl, rfl, rfl⟩, ⟨rfl, rfl, rfl⟩, ⟨rfl, rfl, rfl⟩, ⟨rfl, rfl, rfl⟩, ⟨rfl, rfl, rfl⟩, ⟨rfl, rfl, rfl⟩, trivial⟩ (fun _ _ => .inr (Nat.zero_le _))) (fun a hI => ?_)
      obtain ⟨k, c1, c2⟩ := a
      obtain ⟨i1, i2, i3⟩ := hI
      show Walks Try.prog _ _ (⟨[(3, I now), (4, .ptr 0 0), (9, B true), (11, .ptr 3 0), (12, .ptr 6 0), (14, .ptr 9 0), (16, .ptr 12 0), (20, .ptr 18 0), (21, B true), (22, I k)], [(0, .box [I d.Id, I d.Item, I d.Until, .pv (.slc d.Units.length false (encI d.Units)), .pv (.slc d.Choices.length false (encI d.Choices))]), (1, .row 3 1 (encI d.Units)), (2, .row 3 1 (encI d.Choices)), (3, .box [I d.Id, I d.Item, I d.Until, .ref 1 1 0 d.Units.length, .ref 2 1 0 d.Choices.length]), (4, .row 3 1 (encI c1)), (5, .row 3 1 (encI c2)), (6, .box [I (chooseD d unit choice now).1.Id, I (chooseD d unit choice now).1.Item, I (chooseD d unit choice now).1.Until, .ref 4 1 0 (chooseD d unit choice now).1.Units.length, .ref 5 1 0 (chooseD d unit choice now).1.Choices.length]), (7, .row 3 1 (encI (chooseD d unit choice now).1.Units)), (8, .row 3 1 (encI (chooseD d unit choice now).1.Choices)), (9, .box [I (chooseD d unit choice now).1.Id, I (chooseD d unit choice now).1.Item, I (chooseD d unit choice now).1.Until, .ref 7 1 0 (chooseD d unit choice now).1.Units.length, .ref 8 1 0 (chooseD d unit choice now).1.Choices.length]), (10, .row 3 1 (encI (openD d.Id d.Item d.Until d.Units).1.Units)), (11, .row 3 1 (encI (openD d.Id d.Item d.Until d.Units).1.Choices)), (12, .box [I (openD d.Id d.Item d.Until d.Units).1.Id, I (openD d.Id d.Item d.Until d.Units).1.Item, I (openD d.Id d.Item d.Until d.Units).1.Until, .ref 10 1 0 (openD d.Id d.Item d.Until d.Units).1.Units.length, .ref 11 1 0 (openD d.Id d.Item d.Until d.Units).1.Choices.length]), (16, .row 3 1 (encI d.Units)), (17, .row 3 1 (encI d.Choices)), (18, .box [I d.Id, I d.Item, I d.Until, .ref 16 1 0 d.Units.length, .ref 17 1 0 d.Choices.length])], 19, [], 182, 0⟩ : St)
      refine sem_seq (sem_seq (sem_region rfl (step_r rfl rfl trivial (step_r rfl rfl (by decide) (step_r rfl rfl trivial (step_r rfl rfl trivial (step_bin rfl rfl rfl rfl rfl trivial (step_r rfl rfl trivial ?_))))))))
      refine step_gs rfl (fun h21 => ?_) (fun h21 => ?_)
      ·have hkk : k < (chooseD d unit choice now).1.Units.length := by have h := of_decide_eq_true h21; omega
       refine step_g1 rfl h21 (step_r rfl rfl trivial (step_g1 rfl h21 (step_r rfl rfl (by decide) (step_g1 rfl h21 (step_r rfl rfl trivial (step_g1 rfl h21 (step_r rfl rfl trivial (step_g1 rfl h21 (step_bin rfl rfl rfl rfl rfl trivial (step_pickT rfl h21 rfl rfl (step_nil ?_)))))))))))
       refine seqK_n ?_
       refine sem_cond rfl (fun h23 => ?_) (fun h23 => ?_)
       ·have hkc : k < (chooseD d unit choice now).1.Choices.length := by have h := of_decide_eq_true h23; omega
        refine sem_skip (seqK_n (sem_seq (sem_block (sem_seq (sem_region rfl (step_r rfl rfl (by decide) (step_r rfl rfl trivial (step_r rfl rfl trivial ?_))))))))
        have jk24 : k < c1.length := by first | assumption | omega | (simp only [List.length_set]; omega) | (simp; omega) | simp_all
        obtain ⟨y24, jx24⟩ : ∃ z_, c1[k]? = some z_ := ⟨_, List.getElem?_eq_getElem jk24⟩
        refine step_idxR (k := k) rfl rfl rfl rfl (by first | assumption | omega | (have := jk24; simp only [List.length_set] at this ⊢; omega) | (have := jk24; simp at this ⊢; omega)) rfl ?_
        refine step_storeR rfl rfl rfl rfl (by have := jk24; simp [encI]; omega) (encI_set c1 k (-7)) (.inl rfl) rfl ?_
        refine step_nil (seqK_n (sem_region rfl (step_r rfl rfl (by decide) (step_r rfl rfl trivial (step_r rfl rfl trivial ?_)))))
        have jk25 : k < c2.length := by first | assumption | omega | (simp only [List.length_set]; omega) | (simp; omega) | simp_all
        obtain ⟨y25, jx25⟩ : ∃ z_, c2[k]? = some z_ := ⟨_, List.getElem?_eq_getElem jk25⟩
        refine step_idxR (k := k) rfl rfl rfl rfl (by first | assumption | omega | (have := jk25; simp only [List.length_set] at this ⊢; omega) | (have := jk25; simp at this ⊢; omega)) rfl ?_
        refine step_storeR rfl rfl rfl rfl (by have := jk25; simp [encI]; omega) (encI_set c2 k (-7)) (.inl rfl) rfl ?_
        refine step_nil (blkK_n (seqK_n (sem_region rfl (step_r rfl rfl trivial (step_bin rfl rfl rfl rfl rfl trivial (step_r rfl rfl trivial (step_nil ?_)))))))
        exact lup_again (k+1, _, _) (⟨by omega, by rw [List.length_set]; exact i2, by rw [List.length_set]; exact i3⟩) (by show (chooseD d unit choice now).1.Units.length - (k + 1) < (chooseD d unit choice now).1.Units.length - k; omega) (less_of rfl ⟨⟨rfl, rfl⟩, ⟨rfl, rfl⟩, ⟨rfl, rfl⟩, ⟨rfl, rfl⟩, ⟨rfl, rfl⟩, ⟨rfl, rfl⟩, ⟨rfl, rfl⟩, ⟨rfl, rfl⟩, ⟨rfl, rfl⟩, ⟨congrArg (fun n => some (I n)) (wrapK (n := (chooseD d unit choice now).1.Units.length) (by omega) (by unfold maxLen; omega)), rfl⟩, trivial⟩ ⟨⟨rfl, rfl, rfl⟩, ⟨rfl, rfl, rfl⟩, ⟨rfl, rfl, rfl⟩, ⟨rfl, rfl, rfl⟩, ⟨rfl, rfl, rfl⟩, ⟨rfl, rfl, rfl⟩, ⟨rfl, rfl, rfl⟩, ⟨rfl, rfl, rfl⟩, ⟨rfl, rfl, rfl⟩, ⟨rfl, rfl, rfl⟩, ⟨rfl, rfl, rfl⟩, ⟨rfl, rfl, rfl⟩, ⟨rfl, rfl, rfl⟩, ⟨rfl, rfl, rfl⟩, ⟨rfl, rfl, rfl⟩, ⟨rfl, rfl, rfl⟩, trivial⟩ (fun _ _ => .inr (Nat.zero_le _)))
       ·skip
        refine sem_exit (seqK_e (lupK_e (blkK_t rfl (seqK_n (sem_seq (sem_seq (sem_region rfl (step_r rfl rfl trivial (step_nil (seqK_n (sem_block ?_)))))))))))
        refine sem_loop_of (fun a : Nat × List Int × List Int => match a with | (k, c1, c2) => (⟨[(3, I now), (4, .ptr 0 0), (9, B true), (11, .ptr 3 0), (14, .ptr 9 0), (16, .ptr 12 0), (20, .ptr 18 0), (21, B true), (23, I k)], [(0, .box [I d.Id, I d.Item, I d.Until, .pv (.slc d.Units.length false (encI d.Units)), .pv (.slc d.Choices.length false (encI d.Choices))]), (1, .row 3 1 (encI d.Units)), (2, .row 3 1 (encI d.Choices)), (3, .box [I d.Id, I d.Item, I d.Until, .ref 1 1 0 d.Units.length, .ref 2 1 0 d.Choices.length]), (7, .row 3 1 (encI (chooseD d unit choice now).1.Units)), (8, .row 3 1 (encI (chooseD d unit choice now).1.Choices)), (9, .box [I (chooseD d unit choice now).1.Id, I (chooseD d unit choice now).1.Item, I (chooseD d unit choice now).1.Until, .ref 7 1 0 (chooseD d unit choice now).1.Units.length, .ref 8 1 0 (chooseD d unit choice now).1.Choices.length]), (10, .row 3 1 (encI c1)), (11, .row 3 1 (encI (openD d.Id d.Item d.Until d.Units).1.Choices)), (12, .box [I (openD d.Id d.Item d.Until d.Units).1.Id, I (openD d.Id d.Item d.Until d.Units).1.Item, I (openD d.Id d.Item d.Until d.Units).1.Until, .ref 10 1 0 (openD d.Id d.Item d.Until d.Units).1.Units.length, .ref 11 1 0 (openD d.Id d.Item d.Until d.Units).1.Choices.length]), (16, .row 3 1 (encI c2)), (17, .row 3 1 (encI d.Choices)), (18, .box [I d.Id, I d.Item, I d.Until, .ref 16 1 0 d.Units.length, .ref 17 1 0 d.Choices.length])], 19, [], 182, 0⟩ : St)) (fun a : Nat × List Int × List Int => match a with | (k, c1, c2) => k ≤ (openD d.Id d.Item d.Until d.Units).1.Units.length ∧ c1.length = (openD d.Id d.Item d.Until d.Units).1.Units.length ∧ c2.length = d.Units.length) (fun a : Nat × List Int × List Int => match a with | (k, c1, c2) => (openD d.Id d.Item d.Until d.Units).1.Units.length - k) (0, _, _) (⟨Nat.zero_le _, rfl, rfl⟩) (less_of rfl ⟨⟨rfl, rfl⟩, ⟨rfl, rfl⟩, ⟨rfl, rfl⟩, ⟨rfl, rfl⟩, ⟨rfl, rfl⟩, ⟨rfl, rfl⟩, ⟨rfl, rfl⟩, ⟨rfl, rfl⟩, ⟨rfl, rfl⟩, trivial⟩ ⟨⟨rfl, rfl, rfl⟩, ⟨rfl, rfl, rfl⟩, ⟨rfl, rfl, rfl⟩, ⟨rfl, rfl, rfl⟩, ⟨rfl, rfl, rfl⟩, ⟨rfl, rfl, rfl⟩, ⟨rfl, rfl, rfl⟩, ⟨rfl, rfl, rfl⟩, ⟨rfl, rfl, rfl⟩, ⟨rfl, rfl, rfl⟩, ⟨rfl, rfl, rfl⟩, ⟨rfl, rfl, rfl⟩, ⟨rfl, rfl, rfl⟩, trivial⟩ (fun _ _ => .inr (Nat.zero_le _))) (fun a hI => ?_)
        obtain ⟨k, c1, c2⟩ := a
        obtain ⟨i1, i2, i3⟩ := hI
        show Walks Try.prog _ _ (⟨[(3, I now), (4, .ptr 0 0), (9, B true), (11, .ptr 3 0), (14, .ptr 9 0), (16, .ptr 12 0), (20, .ptr 18 0), (21, B true), (23, I k)], [(0, .box [I d.Id, I d.Item, I d.Until, .pv (.slc d.Units.length false (encI d.Units)), .pv (.slc d.Choices.length false (encI d.Choices))]), (1, .row 3 1 (encI d.Units)), (2, .row 3 1 (encI d.Choices)), (3, .box [I d.Id, I d.Item, I d.Until, .ref 1 1 0 d.Units.length, .ref 2 1 0 d.Choices.length]), (7, .row 3 1 (encI (chooseD d unit choice now).1.Units)), (8, .row 3 1 (encI (chooseD d unit choice now).1.Choices)), (9, .box [I (chooseD d unit choice now).1.Id, I (chooseD d unit choice now).1.Item, I (chooseD d unit choice now).1.Until, .ref 7 1 0 (chooseD d unit choice now).1.Units.length, .ref 8 1 0 (chooseD d unit choice now).1.Choices.length]), (10, .row 3 1 (encI c1)), (11, .row 3 1 (encI (openD d.Id d.Item d.Until d.Units).1.Choices)), (12, .box [I (openD d.Id d.Item d.Until d.Units).1.Id, I (openD d.Id d.Item d.Until d.Units).1.Item, I (openD d.Id d.Item d.Until d.Units).1.Until, .ref 10 1 0 (openD d.Id d.Item d.Until d.Units).1.Units.length, .ref 11 1 0 (openD d.Id d.Item d.Until d.Units).1.Choices.length]), (16, .row 3 1 (encI c2)), (17, .row 3 1 (encI d.Choices)), (18, .box [I d.Id, I d.Item, I d.Until, .ref 16 1 0 d.Units.length, .ref 17 1 0 d.Choices.length])], 19, [], 182, 0⟩ : St)
        refine sem_seq (sem_seq (sem_region rfl (step_r rfl rfl trivial (step_r rfl rfl (by decide) (step_r rfl rfl trivial (step_r rfl rfl trivial (step_bin rfl rfl rfl rfl rfl trivial (step_r rfl rfl trivial ?_))))))))
        refine step_gs rfl (fun h29 => ?_) (fun h29 => ?_)
        ·have hkk : k < (openD d.Id d.Item d.Until d.Units).1.Units.length := by have h := of_decide_eq_true h29; omega
         refine step_g1 rfl h29 (step_r rfl rfl trivial (step_g1 rfl h29 (step_r rfl rfl (by decide) (step_g1 rfl h29 (step_r rfl rfl trivial (step_g1 rfl h29 (step_r rfl rfl trivial (step_g1 rfl h29 (step_bin rfl rfl rfl rfl rfl trivial (step_pickT rfl h29 rfl rfl (step_nil ?_)))))))))))
         refine seqK_n ?_
         refine sem_cond rfl (fun h31 => ?_) (fun h31 => ?_)
         ·have hkc : k < d.Units.length := by have h := of_decide_eq_true h31; omega
          refine sem_skip (seqK_n (sem_seq (sem_block (sem_seq (sem_region rfl (step_r rfl rfl (by decide) (step_r rfl rfl trivial (step_r rfl rfl trivial ?_))))))))
          have jk32 : k < c1.length := by first | assumption | omega | (simp only [List.length_set]; omega) | (simp; omega) | simp_all
          obtain ⟨y32, jx32⟩ : ∃ z_, c1[k]? = some z_ := ⟨_, List.getElem?_eq_getElem jk32⟩
          refine step_idxR (k := k) rfl rfl rfl rfl (by first | assumption | omega | (have := jk32; simp only [List.length_set] at this ⊢; omega) | (have := jk32; simp at this ⊢; omega)) rfl ?_
          refine step_storeR rfl rfl rfl rfl (by have := jk32; simp [encI]; omega) (encI_set c1 k (-7)) (.inl rfl) rfl ?_
          refine step_nil (seqK_n (sem_region rfl (step_r rfl rfl (by decide) (step_r rfl rfl trivial (step_r rfl rfl trivial ?_)))))
          have jk33 : k < c2.length := by first | assumption | omega | (simp only [List.length_set]; omega) | (simp; omega) | simp_all
          obtain ⟨y33, jx33⟩ : ∃ z_, c2[k]? = some z_ := ⟨_, List.getElem?_eq_getElem jk33⟩
          refine step_idxR (k := k) rfl rfl rfl rfl (by first | assumption | omega | (have := jk33; simp only [List.length_set] at this ⊢; omega) | (have := jk33; simp at this ⊢; omega)) rfl ?_
          refine step_storeR rfl rfl rfl rfl (by have := jk33; simp [encI]; omega) (encI_set c2 k (-7)) (.inl rfl) rfl ?_
          refine step_nil (blkK_n (seqK_n (sem_region rfl (step_r rfl rfl trivial (step_bin rfl rfl rfl rfl rfl trivial (step_r rfl rfl trivial (step_nil ?_)))))))
          exact lup_again (k+1, _, _) (⟨by omega, by rw [List.length_set]; exact i2, by rw [List.length_set]; exact i3⟩) (by show (openD d.Id d.Item d.Until d.Units).1.Units.length - (k + 1) < (openD d.Id d.Item d.Until d.Units).1.Units.length - k; omega) (less_of rfl ⟨⟨rfl, rfl⟩, ⟨rfl, rfl⟩, ⟨rfl, rfl⟩, ⟨rfl, rfl⟩, ⟨rfl, rfl⟩, ⟨rfl, rfl⟩, ⟨rfl, rfl⟩, ⟨rfl, rfl⟩, ⟨congrArg (fun n => some (I n)) (wrapK (n := (openD d.Id d.Item d.Until d.Units).1.Units.length) (by omega) (by unfold maxLen; omega)), rfl⟩, trivial⟩ ⟨⟨rfl, rfl, rfl⟩, ⟨rfl, rfl, rfl⟩, ⟨rfl, rfl, rfl⟩, ⟨rfl, rfl, rfl⟩, ⟨rfl, rfl, rfl⟩, ⟨rfl, rfl, rfl⟩, ⟨rfl, rfl, rfl⟩, ⟨rfl, rfl, rfl⟩, ⟨rfl, rfl, rfl⟩, ⟨rfl, rfl, rfl⟩, ⟨rfl, rfl, rfl⟩, ⟨rfl, rfl, rfl⟩, ⟨rfl, rfl, rfl⟩, trivial⟩ (fun _ _ => .inr (Nat.zero_le _)))
         ·skip
          refine sem_exit (seqK_e (lupK_e (blkK_t rfl (seqK_n (sem_seq ?_)))))
          refine sem_drawn rfl (by decide +kernel) rfl ?_
          refine step_r rfl rfl trivial (step_r rfl rfl trivial ?_)
          refine step_gs rfl (fun h36 => ?_) (fun h36 => ?_)
          ·have g36 := h36
           try simp at g36
           refine step_g1 rfl h36 (step_r rfl rfl trivial (step_pickT rfl h36 rfl rfl (step_r rfl rfl trivial (step_gt rfl (step_r (v := (.agg [_, _, _, _, _])) rfl rfl (Nat.le_of_ble_eq_true rfl) (step_gt rfl (step_r (v := (.agg [_, _, _, _, _])) rfl rfl (Nat.le_of_ble_eq_true rfl) (step_gt rfl ?_))))))))
           refine step_callJ (Hin := [.row _ _ _, .row _ _ _]) (H' := [(0, _), (1, _), (2, _), (3, _), (7, _), (8, _), (9, _), (10, _), (11, _), (12, _), (16, _), (17, _), (18, _)]) (nx' := 19) [1, 2] rfl rfl rfl rfl rfl rfl rfl rfl rfl (by (repeat' apply And.intro) <;> first | trivial | rfl | exact flat_len (fun _ => rfl) _ | exact encI_len _ | exact Nat.le_of_ble_eq_true rfl | assumption) (sameDR_ok d d) rfl (by decide) rfl rfl trivial rfl rfl rfl rfl ?_
           refine step_r rfl rfl trivial (step_r rfl rfl trivial ?_)
           refine step_gs rfl (fun h38 => ?_) (fun h38 => ?_)
           ·have g38 := h38
            try simp at g38
            refine step_g1 rfl h38 (step_r (v := (.agg [_, _, _, _, _])) rfl rfl (Nat.le_of_ble_eq_true rfl) (step_g1 rfl h38 (step_call rfl rfl rfl rfl (rightD_ok d) rfl rfl rfl (step_g1 rfl h38 (step_r (v := (.agg [_, _, _, _, _])) rfl rfl (Nat.le_of_ble_eq_true rfl) (step_g1 rfl h38 (step_call rfl rfl rfl rfl (rightDR_ok d) rfl rfl rfl (step_g1 rfl h38 (step_bin rfl rfl rfl rfl rfl trivial (step_pickT rfl h38 rfl rfl (step_r rfl rfl trivial ?_)))))))))))
            refine step_gs rfl (fun h40 => ?_) (fun h40 => ?_)
            ·have g40 := h40
             try simp at g40
             refine step_g1 rfl h40 (step_r (v := (.agg [_, _, _, _, _])) rfl rfl (Nat.le_of_ble_eq_true rfl) (step_g1 rfl h40 (step_r rfl rfl trivial (step_g1 rfl h40 (step_call rfl rfl rfl rfl (over_ok d now) rfl rfl rfl (step_g1 rfl h40 (step_r (v := (.agg [_, _, _, _, _])) rfl rfl (Nat.le_of_ble_eq_true rfl) (step_g1 rfl h40 (step_r rfl rfl trivial (step_g1 rfl h40 (step_call rfl rfl rfl rfl (overR_ok d now) rfl rfl rfl ?_)))))))))))
             refine step_g1 rfl h40 (step_bin rfl rfl rfl rfl rfl trivial (step_pickT rfl h40 rfl rfl (step_r rfl rfl trivial ?_)))
             refine step_gs rfl (fun h43 => ?_) (fun h43 => ?_)
             ·have g43 := h43
              try simp at g43
              refine step_g1 rfl h43 (step_r (v := (.agg [_, _, _, _, _])) rfl rfl (Nat.le_of_ble_eq_true rfl) (step_g1 rfl h43 ?_))
              refine step_callJ (Hin := []) (out' := .ref 19 _ _ _) (H' := [(19, .row _ _ _), (0, _), (1, _), (2, _), (3, _), (7, _), (8, _), (9, _), (10, _), (11, _), (12, _), (16, _), (17, _), (18, _)]) (nx' := 20) [] rfl rfl rfl rfl rfl rfl rfl rfl rfl (by (repeat' apply And.intro) <;> first | trivial | rfl | exact flat_len (fun _ => rfl) _ | exact encI_len _ | exact Nat.le_of_ble_eq_true rfl | assumption) (best_ok d) rfl (by decide) rfl rfl ⟨encI_solid, trivial⟩ rfl rfl rfl rfl ?_
              refine step_g1 rfl h43 (step_r (v := (.agg [_, _, _, _, _])) rfl rfl (Nat.le_of_ble_eq_true rfl) (step_g1 rfl h43 ?_))
              refine step_callJ (Hin := []) (out' := .ref 20 _ _ _) (H' := [(20, .row _ _ _), (19, _), (0, _), (1, _), (2, _), (3, _), (7, _), (8, _), (9, _), (10, _), (11, _), (12, _), (16, _), (17, _), (18, _)]) (nx' := 21) [] rfl rfl rfl rfl rfl rfl rfl rfl rfl (by (repeat' apply And.intro) <;> first | trivial | rfl | exact flat_len (fun _ => rfl) _ | exact encI_len _ | exact Nat.le_of_ble_eq_true rfl | assumption) (bestR_ok d) rfl (by decide) rfl rfl ⟨encI_solid, trivial⟩ rfl rfl rfl rfl ?_
              refine step_g1 rfl h43 ?_
              refine step_callJ (Hin := [.row _ _ _, .row _ _ _]) (H' := [(20, _), (19, _), (0, _), (1, _), (2, _), (3, _), (7, _), (8, _), (9, _), (10, _), (11, _), (12, _), (16, _), (17, _), (18, _)]) (nx' := 21) [19, 20] rfl rfl rfl rfl rfl rfl rfl rfl rfl (by (repeat' apply And.intro) <;> first | trivial | rfl | exact flat_len (fun _ => rfl) _ | exact encI_len _ | exact Nat.le_of_ble_eq_true rfl | assumption) (same02_ok (bestD d) false (bestD d) false) rfl (by decide) rfl rfl trivial rfl rfl rfl rfl ?_
              refine step_pickT rfl h43 rfl rfl (step_r rfl rfl trivial ?_)
              refine step_gs rfl (fun h45 => ?_) (fun h45 => ?_)
              ·have g45 := h45
               try simp at g45
               refine step_g1 rfl h45 (step_r (v := (.agg [_, _, _, _, _])) rfl rfl (Nat.le_of_ble_eq_true rfl) (step_g1 rfl h45 (step_r (v := (.agg [_, _, _, _, _])) rfl rfl (Nat.le_of_ble_eq_true rfl) (step_g1 rfl h45 ?_))))
               refine step_callJ (Hin := [.row _ _ _, .row _ _ _]) (H' := [(20, _), (19, _), (0, _), (1, _), (2, _), (3, _), (7, _), (8, _), (9, _), (10, _), (11, _), (12, _), (16, _), (17, _), (18, _)]) (nx' := 21) [7, 8] rfl rfl rfl rfl rfl rfl rfl rfl rfl (by (repeat' apply And.intro) <;> first | trivial | rfl | exact flat_len (fun _ => rfl) _ | exact encI_len _ | exact Nat.le_of_ble_eq_true rfl | assumption) (sameD_ok d ((chooseD d unit choice now).1)) rfl (by decide) rfl rfl trivial rfl rfl rfl rfl ?_
               refine step_g1 rfl h45 (step_r (v := (.agg [_, _, _, _, _])) rfl rfl (Nat.le_of_ble_eq_true rfl) (step_g1 rfl h45 (step_r (v := (.agg [_, _, _, _, _])) rfl rfl (Nat.le_of_ble_eq_true rfl) (step_g1 rfl h45 ?_))))
               refine step_callJ (Hin := [.row _ _ _, .row _ _ _]) (H' := [(20, _), (19, _), (0, _), (1, _), (2, _), (3, _), (7, _), (8, _), (9, _), (10, _), (11, _), (12, _), (16, _), (17, _), (18, _)]) (nx' := 21) [7, 8] rfl rfl rfl rfl rfl rfl rfl rfl rfl (by (repeat' apply And.intro) <;> first | trivial | rfl | exact flat_len (fun _ => rfl) _ | exact encI_len _ | exact Nat.le_of_ble_eq_true rfl | assumption) (sameDR_ok d ((chooseD d unit choice now).1)) rfl (by decide) rfl rfl trivial rfl rfl rfl rfl ?_
               refine step_g1 rfl h45 (step_bin rfl rfl rfl rfl rfl trivial (step_pickT rfl h45 rfl rfl (step_r rfl rfl trivial (step_nil (seqK_n (sem_ret ?_))))))
               exact answersR rfl ⟨trivial, trivial⟩ (congrArg B (by simp)) rfl
              ·have h := h45
               simp at h
             ·have h := h43
              simp at h
            ·have h := h40
             simp at h
           ·have h := h38
            simp at h
          ·have h := h36
           simp at h
        ·skip
         refine step_g0 rfl h29 rfl (step_g0 rfl h29 rfl (step_g0 rfl h29 rfl (step_g0 rfl h29 rfl (step_g0 rfl h29 rfl (step_pickF rfl h29 rfl rfl (step_nil (seqK_n (sem_condF rfl (sem_exit (seqK_e (lupK_e ?_)))))))))))
         refine blkK_t rfl (seqK_n (sem_seq ?_))
         refine sem_drawn rfl (by decide +kernel) rfl ?_
         refine step_r rfl rfl trivial (step_r rfl rfl trivial ?_)
         refine step_gs rfl (fun h48 => ?_) (fun h48 => ?_)
         ·have g48 := h48
          try simp at g48
          refine step_g1 rfl h48 (step_r rfl rfl trivial (step_pickT rfl h48 rfl rfl (step_r rfl rfl trivial (step_gt rfl (step_r (v := (.agg [_, _, _, _, _])) rfl rfl (Nat.le_of_ble_eq_true rfl) (step_gt rfl (step_r (v := (.agg [_, _, _, _, _])) rfl rfl (Nat.le_of_ble_eq_true rfl) (step_gt rfl ?_))))))))
          refine step_callJ (Hin := [.row _ _ _, .row _ _ _]) (H' := [(0, _), (1, _), (2, _), (3, _), (7, _), (8, _), (9, _), (10, _), (11, _), (12, _), (16, _), (17, _), (18, _)]) (nx' := 19) [1, 2] rfl rfl rfl rfl rfl rfl rfl rfl rfl (by (repeat' apply And.intro) <;> first | trivial | rfl | exact flat_len (fun _ => rfl) _ | exact encI_len _ | exact Nat.le_of_ble_eq_true rfl | assumption) (sameDR_ok d d) rfl (by decide) rfl rfl trivial rfl rfl rfl rfl ?_
          refine step_r rfl rfl trivial (step_r rfl rfl trivial ?_)
          refine step_gs rfl (fun h50 => ?_) (fun h50 => ?_)
          ·have g50 := h50
           try simp at g50
           refine step_g1 rfl h50 (step_r (v := (.agg [_, _, _, _, _])) rfl rfl (Nat.le_of_ble_eq_true rfl) (step_g1 rfl h50 (step_call rfl rfl rfl rfl (rightD_ok d) rfl rfl rfl (step_g1 rfl h50 (step_r (v := (.agg [_, _, _, _, _])) rfl rfl (Nat.le_of_ble_eq_true rfl) (step_g1 rfl h50 (step_call rfl rfl rfl rfl (rightDR_ok d) rfl rfl rfl (step_g1 rfl h50 (step_bin rfl rfl rfl rfl rfl trivial (step_pickT rfl h50 rfl rfl (step_r rfl rfl trivial ?_)))))))))))
           refine step_gs rfl (fun h52 => ?_) (fun h52 => ?_)
           ·have g52 := h52
            try simp at g52
            refine step_g1 rfl h52 (step_r (v := (.agg [_, _, _, _, _])) rfl rfl (Nat.le_of_ble_eq_true rfl) (step_g1 rfl h52 (step_r rfl rfl trivial (step_g1 rfl h52 (step_call rfl rfl rfl rfl (over_ok d now) rfl rfl rfl (step_g1 rfl h52 (step_r (v := (.agg [_, _, _, _, _])) rfl rfl (Nat.le_of_ble_eq_true rfl) (step_g1 rfl h52 (step_r rfl rfl trivial (step_g1 rfl h52 (step_call rfl rfl rfl rfl (overR_ok d now) rfl rfl rfl ?_)))))))))))
            refine step_g1 rfl h52 (step_bin rfl rfl rfl rfl rfl trivial (step_pickT rfl h52 rfl rfl (step_r rfl rfl trivial ?_)))
            refine step_gs rfl (fun h55 => ?_) (fun h55 => ?_)
            ·have g55 := h55
             try simp at g55
             refine step_g1 rfl h55 (step_r (v := (.agg [_, _, _, _, _])) rfl rfl (Nat.le_of_ble_eq_true rfl) (step_g1 rfl h55 ?_))
             refine step_callJ (Hin := []) (out' := .ref 19 _ _ _) (H' := [(19, .row _ _ _), (0, _), (1, _), (2, _), (3, _), (7, _), (8, _), (9, _), (10, _), (11, _), (12, _), (16, _), (17, _), (18, _)]) (nx' := 20) [] rfl rfl rfl rfl rfl rfl rfl rfl rfl (by (repeat' apply And.intro) <;> first | trivial | rfl | exact flat_len (fun _ => rfl) _ | exact encI_len _ | exact Nat.le_of_ble_eq_true rfl | assumption) (best_ok d) rfl (by decide) rfl rfl ⟨encI_solid, trivial⟩ rfl rfl rfl rfl ?_
             refine step_g1 rfl h55 (step_r (v := (.agg [_, _, _, _, _])) rfl rfl (Nat.le_of_ble_eq_true rfl) (step_g1 rfl h55 ?_))
             refine step_callJ (Hin := []) (out' := .ref 20 _ _ _) (H' := [(20, .row _ _ _), (19, _), (0, _), (1, _), (2, _), (3, _), (7, _), (8, _), (9, _), (10, _), (11, _), (12, _), (16, _), (17, _), (18, _)]) (nx' := 21) [] rfl rfl rfl rfl rfl rfl rfl rfl rfl (by (repeat' apply And.intro) <;> first | trivial | rfl | exact flat_len (fun _ => rfl) _ | exact encI_len _ | exact Nat.le_of_ble_eq_true rfl | assumption) (bestR_ok d) rfl (by decide) rfl rfl ⟨encI_solid, trivial⟩ rfl rfl rfl rfl ?_
             refine step_g1 rfl h55 ?_
             refine step_callJ (Hin := [.row _ _ _, .row _ _ _]) (H' := [(20, _), (19, _), (0, _), (1, _), (2, _), (3, _), (7, _), (8, _), (9, _), (10, _), (11, _), (12, _), (16, _), (17, _), (18, _)]) (nx' := 21) [19, 20] rfl rfl rfl rfl rfl rfl rfl rfl rfl (by (repeat' apply And.intro) <;> first | trivial | rfl | exact flat_len (fun _ => rfl) _ | exact encI_len _ | exact Nat.le_of_ble_eq_true rfl | assumption) (same02_ok (bestD d) false (bestD d) false) rfl (by decide) rfl rfl trivial rfl rfl rfl rfl ?_
             refine step_pickT rfl h55 rfl rfl (step_r rfl rfl trivial ?_)
             refine step_gs rfl (fun h57 => ?_) (fun h57 => ?_)
             ·have g57 := h57
              try simp at g57
              refine step_g1 rfl h57 (step_r (v := (.agg [_, _, _, _, _])) rfl rfl (Nat.le_of_ble_eq_true rfl) (step_g1 rfl h57 (step_r (v := (.agg [_, _, _, _, _])) rfl rfl (Nat.le_of_ble_eq_true rfl) (step_g1 rfl h57 ?_))))
              refine step_callJ (Hin := [.row _ _ _, .row _ _ _]) (H' := [(20, _), (19, _), (0, _), (1, _), (2, _), (3, _), (7, _), (8, _), (9, _), (10, _), (11, _), (12, _), (16, _), (17, _), (18, _)]) (nx' := 21) [7, 8] rfl rfl rfl rfl rfl rfl rfl rfl rfl (by (repeat' apply And.intro) <;> first | trivial | rfl | exact flat_len (fun _ => rfl) _ | exact encI_len _ | exact Nat.le_of_ble_eq_true rfl | assumption) (sameD_ok d ((chooseD d unit choice now).1)) rfl (by decide) rfl rfl trivial rfl rfl rfl rfl ?_
              refine step_g1 rfl h57 (step_r (v := (.agg [_, _, _, _, _])) rfl rfl (Nat.le_of_ble_eq_true rfl) (step_g1 rfl h57 (step_r (v := (.agg [_, _, _, _, _])) rfl rfl (Nat.le_of_ble_eq_true rfl) (step_g1 rfl h57 ?_))))
              refine step_callJ (Hin := [.row _ _ _, .row _ _ _]) (H' := [(20, _), (19, _), (0, _), (1, _), (2, _), (3, _), (7, _), (8, _), (9, _), (10, _), (11, _), (12, _), (16, _), (17, _), (18, _)]) (nx' := 21) [7, 8] rfl rfl rfl rfl rfl rfl rfl rfl rfl (by (repeat' apply And.intro) <;> first | trivial | rfl | exact flat_len (fun _ => rfl) _ | exact encI_len _ | exact Nat.le_of_ble_eq_true rfl | assumption) (sameDR_ok d ((chooseD d unit choice now).1)) rfl (by decide) rfl rfl trivial rfl rfl rfl rfl ?_
              refine step_g1 rfl h57 (step_bin rfl rfl rfl rfl rfl trivial (step_pickT rfl h57 rfl rfl (step_r rfl rfl trivial (step_nil (seqK_n (sem_ret ?_))))))
              exact answersR rfl ⟨trivial, trivial⟩ (congrArg B (by simp)) rfl
             ·have h := h57
              simp at h
            ·have h := h55
             simp at h
           ·have h := h52
            simp at h
          ·have h := h50
           simp at h
         ·have h := h48
          simp at h
      ·skip
       refine step_g0 rfl h21 rfl (step_g0 rfl h21 rfl (step_g0 rfl h21 rfl (step_g0 rfl h21 rfl (step_g0 rfl h21 rfl (step_pickF rfl h21 rfl rfl (step_nil (seqK_n (sem_condF rfl (sem_exit (seqK_e (lupK_e ?_)))))))))))
       refine blkK_t rfl (seqK_n (sem_seq (sem_seq (sem_region rfl (step_r rfl rfl trivial (step_nil (seqK_n (sem_block ?_))))))))
       refine sem_loop_of (fun a : Nat × List Int × List Int => match a with | (k, c1, c2) => (⟨[(3, I now), (4, .ptr 0 0), (9, B true), (11, .ptr 3 0), (14, .ptr 9 0), (16, .ptr 12 0), (20, .ptr 18 0), (21, B true), (23, I k)], [(0, .box [I d.Id, I d.Item, I d.Until, .pv (.slc d.Units.length false (encI d.Units)), .pv (.slc d.Choices.length false (encI d.Choices))]), (1, .row 3 1 (encI d.Units)), (2, .row 3 1 (encI d.Choices)), (3, .box [I d.Id, I d.Item, I d.Until, .ref 1 1 0 d.Units.length, .ref 2 1 0 d.Choices.length]), (7, .row 3 1 (encI (chooseD d unit choice now).1.Units)), (8, .row 3 1 (encI (chooseD d unit choice now).1.Choices)), (9, .box [I (chooseD d unit choice now).1.Id, I (chooseD d unit choice now).1.Item, I (chooseD d unit choice now).1.Until, .ref 7 1 0 (chooseD d unit choice now).1.Units.length, .ref 8 1 0 (chooseD d unit choice now).1.Choices.length]), (10, .row 3 1 (encI c1)), (11, .row 3 1 (encI (openD d.Id d.Item d.Until d.Units).1.Choices)), (12, .box [I (openD d.Id d.Item d.Until d.Units).1.Id, I (openD d.Id d.Item d.Until d.Units).1.Item, I (openD d.Id d.Item d.Until d.Units).1.Until, .ref 10 1 0 (openD d.Id d.Item d.Until d.Units).1.Units.length, .ref 11 1 0 (openD d.Id d.Item d.Until d.Units).1.Choices.length]), (16, .row 3 1 (encI c2)), (17, .row 3 1 (encI d.Choices)), (18, .box [I d.Id, I d.Item, I d.Until, .ref 16 1 0 d.Units.length, .ref 17 1 0 d.Choices.length])], 19, [], 182, 0⟩ : St)) (fun a : Nat × List Int × List Int => match a with | (k, c1, c2) => k ≤ (openD d.Id d.Item d.Until d.Units).1.Units.length ∧ c1.length = (openD d.Id d.Item d.Until d.Units).1.Units.length ∧ c2.length = d.Units.length) (fun a : Nat × List Int × List Int => match a with | (k, c1, c2) => (openD d.Id d.Item d.Until d.Units).1.Units.length - k) (0, _, _) (⟨Nat.zero_le _, rfl, rfl⟩) (less_of rfl ⟨⟨rfl, rfl⟩, ⟨rfl, rfl⟩, ⟨rfl, rfl⟩, ⟨rfl, rfl⟩, ⟨rfl, rfl⟩, ⟨rfl, rfl⟩, ⟨rfl, rfl⟩, ⟨rfl, rfl⟩, ⟨rfl, rfl⟩, trivial⟩ ⟨⟨rfl, rfl, rfl⟩, ⟨rfl, rfl, rfl⟩, ⟨rfl, rfl, rfl⟩, ⟨rfl, rfl, rfl⟩, ⟨rfl, rfl, rfl⟩, ⟨rfl, rfl, rfl⟩, ⟨rfl, rfl, rfl⟩, ⟨rfl, rfl, rfl⟩, ⟨rfl, rfl, rfl⟩, ⟨rfl, rfl, rfl⟩, ⟨rfl, rfl, rfl⟩, ⟨rfl, rfl, rfl⟩, ⟨rfl, rfl, rfl⟩, trivial⟩ (fun _ _ => .inr (Nat.zero_le _))) (fun a hI => ?_)
       obtain ⟨k, c1, c2⟩ := a
       obtain ⟨i1, i2, i3⟩ := hI
       show Walks Try.prog _ _ (⟨[(3, I now), (4, .ptr 0 0), (9, B true), (11, .ptr 3 0), (14, .ptr 9 0), (16, .ptr 12 0), (20, .ptr 18 0), (21, B true), (23, I k)], [(0, .box [I d.Id, I d.Item, I d.Until, .pv (.slc d.Units.length false (encI d.Units)), .pv (.slc d.Choices.length false (encI d.Choices))]), (1, .row 3 1 (encI d.Units)), (2, .row 3 1 (encI d.Choices)), (3, .box [I d.Id, I d.Item, I d.Until, .ref 1 1 0 d.Units.length, .ref 2 1 0 d.Choices.length]), (7, .row 3 1 (encI (chooseD d unit choice now).1.Units)), (8, .row 3 1 (encI (chooseD d unit choice now).1.Choices)), (9, .box [I (chooseD d unit choice now).1.Id, I (chooseD d unit choice now).1.Item, I (chooseD d unit choice now).1.Until, .ref 7 1 0 (chooseD d unit choice now).1.Units.length, .ref 8 1 0 (chooseD d unit choice now).1.Choices.length]), (10, .row 3 1 (encI c1)), (11, .row 3 1 (encI (openD d.Id d.Item d.Until d.Units).1.Choices)), (12, .box [I (openD d.Id d.Item d.Until d.Units).1.Id, I (openD d.Id d.Item d.Until d.Units).1.Item, I (openD d.Id d.Item d.Until d.Units).1.Until, .ref 10 1 0 (openD d.Id d.Item d.Until d.Units).1.Units.length, .ref 11 1 0 (openD d.Id d.Item d.Until d.Units).1.Choices.length]), (16, .row 3 1 (encI c2)), (17, .row 3 1 (encI d.Choices)), (18, .box [I d.Id, I d.Item, I d.Until, .ref 16 1 0 d.Units.length, .ref 17 1 0 d.Choices.length])], 19, [], 182, 0⟩ : St)
       refine sem_seq (sem_seq (sem_region rfl (step_r rfl rfl trivial (step_r rfl rfl (by decide) (step_r rfl rfl trivial (step_r rfl rfl trivial (step_bin rfl rfl rfl rfl rfl trivial (step_r rfl rfl trivial ?_))))))))
       refine step_gs rfl (fun h61 => ?_) (fun h61 => ?_)
       ·have hkk : k < (openD d.Id d.Item d.Until d.Units).1.Units.length := by have h := of_decide_eq_true h61; omega
        refine step_g1 rfl h61 (step_r rfl rfl trivial (step_g1 rfl h61 (step_r rfl rfl (by decide) (step_g1 rfl h61 (step_r rfl rfl trivial (step_g1 rfl h61 (step_r rfl rfl trivial (step_g1 rfl h61 (step_bin rfl rfl rfl rfl rfl trivial (step_pickT rfl h61 rfl rfl (step_nil ?_)))))))))))
        refine seqK_n ?_
        refine sem_cond rfl (fun h63 => ?_) (fun h63 => ?_)
        ·have hkc : k < d.Units.length := by have h := of_decide_eq_true h63; omega
         refine sem_skip (seqK_n (sem_seq (sem_block (sem_seq (sem_region rfl (step_r rfl rfl (by decide) (step_r rfl rfl trivial (step_r rfl rfl trivial ?_))))))))
         have jk64 : k < c1.length := by first | assumption | omega | (simp only [List.length_set]; omega) | (simp; omega) | simp_all
         obtain ⟨y64, jx64⟩ : ∃ z_, c1[k]? = some z_ := ⟨_, List.getElem?_eq_getElem jk64⟩
         refine step_idxR (k := k) rfl rfl rfl rfl (by first | assumption | omega | (have := jk64; simp only [List.length_set] at this ⊢; omega) | (have := jk64; simp at this ⊢; omega)) rfl ?_
         refine step_storeR rfl rfl rfl rfl (by have := jk64; simp [encI]; omega) (encI_set c1 k (-7)) (.inl rfl) rfl ?_
         refine step_nil (seqK_n (sem_region rfl (step_r rfl rfl (by decide) (step_r rfl rfl trivial (step_r rfl rfl trivial ?_)))))
         have jk65 : k < c2.length := by first | assumption | omega | (simp only [List.length_set]; omega) | (simp; omega) | simp_all
         obtain ⟨y65, jx65⟩ : ∃ z_, c2[k]? = some z_ := ⟨_, List.getElem?_eq_getElem jk65⟩
         refine step_idxR (k := k) rfl rfl rfl rfl (by first | assumption | omega | (have := jk65; simp only [List.length_set] at this ⊢; omega) | (have := jk65; simp at this ⊢; omega)) rfl ?_
         refine step_storeR rfl rfl rfl rfl (by have := jk65; simp [encI]; omega) (encI_set c2 k (-7)) (.inl rfl) rfl ?_
         refine step_nil (blkK_n (seqK_n (sem_region rfl (step_r rfl rfl trivial (step_bin rfl rfl rfl rfl rfl trivial (step_r rfl rfl trivial (step_nil ?_)))))))
         exact lup_again (k+1, _, _) (⟨by omega, by rw [List.length_set]; exact i2, by rw [List.length_set]; exact i3⟩) (by show (openD d.Id d.Item d.Until d.Units).1.Units.length - (k + 1) < (openD d.Id d.Item d.Until d.Units).1.Units.length - k; omega) (less_of rfl ⟨⟨rfl, rfl⟩, ⟨rfl, rfl⟩, ⟨rfl, rfl⟩, ⟨rfl, rfl⟩, ⟨rfl, rfl⟩, ⟨rfl, rfl⟩, ⟨rfl, rfl⟩, ⟨rfl, rfl⟩, ⟨congrArg (fun n => some (I n)) (wrapK (n := (openD d.Id d.Item d.Until d.Units).1.Units.length) (by omega) (by unfold maxLen; omega)), rfl⟩, trivial⟩ ⟨⟨rfl, rfl, rfl⟩, ⟨rfl, rfl, rfl⟩, ⟨rfl, rfl, rfl⟩, ⟨rfl, rfl, rfl⟩, ⟨rfl, rfl, rfl⟩, ⟨rfl, rfl, rfl⟩, ⟨rfl, rfl, rfl⟩, ⟨rfl, rfl, rfl⟩, ⟨rfl, rfl, rfl⟩, ⟨rfl, rfl, rfl⟩, ⟨rfl, rfl, rfl⟩, ⟨rfl, rfl, rfl⟩, ⟨rfl, rfl, rfl⟩, trivial⟩ (fun _ _ => .inr (Nat.zero_le _)))
        ·skip
         refine sem_exit (seqK_e (lupK_e (blkK_t rfl (seqK_n (sem_seq ?_)))))
         refine sem_drawn rfl (by decide +kernel) rfl ?_
         refine step_r rfl rfl trivial (step_r rfl rfl trivial ?_)
         refine step_gs rfl (fun h68 => ?_) (fun h68 => ?_)
         ·have g68 := h68
          try simp at g68
          refine step_g1 rfl h68 (step_r rfl rfl trivial (step_pickT rfl h68 rfl rfl (step_r rfl rfl trivial (step_gt rfl (step_r (v := (.agg [_, _, _, _, _])) rfl rfl (Nat.le_of_ble_eq_true rfl) (step_gt rfl (step_r (v := (.agg [_, _, _, _, _])) rfl rfl (Nat.le_of_ble_eq_true rfl) (step_gt rfl ?_))))))))
          refine step_callJ (Hin := [.row _ _ _, .row _ _ _]) (H' := [(0, _), (1, _), (2, _), (3, _), (7, _), (8, _), (9, _), (10, _), (11, _), (12, _), (16, _), (17, _), (18, _)]) (nx' := 19) [1, 2] rfl rfl rfl rfl rfl rfl rfl rfl rfl (by (repeat' apply And.intro) <;> first | trivial | rfl | exact flat_len (fun _ => rfl) _ | exact encI_len _ | exact Nat.le_of_ble_eq_true rfl | assumption) (sameDR_ok d d) rfl (by decide) rfl rfl trivial rfl rfl rfl rfl ?_
          refine step_r rfl rfl trivial (step_r rfl rfl trivial ?_)
          refine step_gs rfl (fun h70 => ?_) (fun h70 => ?_)
          ·have g70 := h70
           try simp at g70
           refine step_g1 rfl h70 (step_r (v := (.agg [_, _, _, _, _])) rfl rfl (Nat.le_of_ble_eq_true rfl) (step_g1 rfl h70 (step_call rfl rfl rfl rfl (rightD_ok d) rfl rfl rfl (step_g1 rfl h70 (step_r (v := (.agg [_, _, _, _, _])) rfl rfl (Nat.le_of_ble_eq_true rfl) (step_g1 rfl h70 (step_call rfl rfl rfl rfl (rightDR_ok d) rfl rfl rfl (step_g1 rfl h70 (step_bin rfl rfl rfl rfl rfl trivial (step_pickT rfl h70 rfl rfl (step_r rfl rfl trivial ?_)))))))))))
           refine step_gs rfl (fun h72 => ?_) (fun h72 => ?_)
           ·have g72 := h72
            try simp at g72
            refine step_g1 rfl h72 (step_r (v := (.agg [_, _, _, _, _])) rfl rfl (Nat.le_of_ble_eq_true rfl) (step_g1 rfl h72 (step_r rfl rfl trivial (step_g1 rfl h72 (step_call rfl rfl rfl rfl (over_ok d now) rfl rfl rfl (step_g1 rfl h72 (step_r (v := (.agg [_, _, _, _, _])) rfl rfl (Nat.le_of_ble_eq_true rfl) (step_g1 rfl h72 (step_r rfl rfl trivial (step_g1 rfl h72 (step_call rfl rfl rfl rfl (overR_ok d now) rfl rfl rfl ?_)))))))))))
            refine step_g1 rfl h72 (step_bin rfl rfl rfl rfl rfl trivial (step_pickT rfl h72 rfl rfl (step_r rfl rfl trivial ?_)))
            refine step_gs rfl (fun h75 => ?_) (fun h75 => ?_)
            ·have g75 := h75
             try simp at g75
             refine step_g1 rfl h75 (step_r (v := (.agg [_, _, _, _, _])) rfl rfl (Nat.le_of_ble_eq_true rfl) (step_g1 rfl h75 ?_))
             refine step_callJ (Hin := []) (out' := .ref 19 _ _ _) (H' := [(19, .row _ _ _), (0, _), (1, _), (2, _), (3, _), (7, _), (8, _), (9, _), (10, _), (11, _), (12, _), (16, _), (17, _), (18, _)]) (nx' := 20) [] rfl rfl rfl rfl rfl rfl rfl rfl rfl (by (repeat' apply And.intro) <;> first | trivial | rfl | exact flat_len (fun _ => rfl) _ | exact encI_len _ | exact Nat.le_of_ble_eq_true rfl | assumption) (best_ok d) rfl (by decide) rfl rfl ⟨encI_solid, trivial⟩ rfl rfl rfl rfl ?_
             refine step_g1 rfl h75 (step_r (v := (.agg [_, _, _, _, _])) rfl rfl (Nat.le_of_ble_eq_true rfl) (step_g1 rfl h75 ?_))
             refine step_callJ (Hin := []) (out' := .ref 20 _ _ _) (H' := [(20, .row _ _ _), (19, _), (0, _), (1, _), (2, _), (3, _), (7, _), (8, _), (9, _), (10, _), (11, _), (12, _), (16, _), (17, _), (18, _)]) (nx' := 21) [] rfl rfl rfl rfl rfl rfl rfl rfl rfl (by (repeat' apply And.intro) <;> first | trivial | rfl | exact flat_len (fun _ => rfl) _ | exact encI_len _ | exact Nat.le_of_ble_eq_true rfl | assumption) (bestR_ok d) rfl (by decide) rfl rfl ⟨encI_solid, trivial⟩ rfl rfl rfl rfl ?_
             refine step_g1 rfl h75 ?_
             refine step_callJ (Hin := [.row _ _ _, .row _ _ _]) (H' := [(20, _), (19, _), (0, _), (1, _), (2, _), (3, _), (7, _), (8, _), (9, _), (10, _), (11, _), (12, _), (16, _), (17, _), (18, _)]) (nx' := 21) [19, 20] rfl rfl rfl rfl rfl rfl rfl rfl rfl (by (repeat' apply And.intro) <;> first | trivial | rfl | exact flat_len (fun _ => rfl) _ | exact encI_len _ | exact Nat.le_of_ble_eq_true rfl | assumption) (same02_ok (bestD d) false (bestD d) false) rfl (by decide) rfl rfl trivial rfl rfl rfl rfl ?_
             refine step_pickT rfl h75 rfl rfl (step_r rfl rfl trivial ?_)
             refine step_gs rfl (fun h77 => ?_) (fun h77 => ?_)
             ·have g77 := h77
              try simp at g77
              refine step_g1 rfl h77 (step_r (v := (.agg [_, _, _, _, _])) rfl rfl (Nat.le_of_ble_eq_true rfl) (step_g1 rfl h77 (step_r (v := (.agg [_, _, _, _, _])) rfl rfl (Nat.le_of_ble_eq_true rfl) (step_g1 rfl h77 ?_))))
              refine step_callJ (Hin := [.row _ _ _, .row _ _ _]) (H' := [(20, _), (19, _), (0, _), (1, _), (2, _), (3, _), (7, _), (8, _), (9, _), (10, _), (11, _), (12, _), (16, _), (17, _), (18, _)]) (nx' := 21) [7, 8] rfl rfl rfl rfl rfl rfl rfl rfl rfl (by (repeat' apply And.intro) <;> first | trivial | rfl | exact flat_len (fun _ => rfl) _ | exact encI_len _ | exact Nat.le_of_ble_eq_true rfl | assumption) (sameD_ok d ((chooseD d unit choice now).1)) rfl (by decide) rfl rfl trivial rfl rfl rfl rfl ?_
              refine step_g1 rfl h77 (step_r (v := (.agg [_, _, _, _, _])) rfl rfl (Nat.le_of_ble_eq_true rfl) (step_g1 rfl h77 (step_r (v := (.agg [_, _, _, _, _])) rfl rfl (Nat.le_of_ble_eq_true rfl) (step_g1 rfl h77 ?_))))
              refine step_callJ (Hin := [.row _ _ _, .row _ _ _]) (H' := [(20, _), (19, _), (0, _), (1, _), (2, _), (3, _), (7, _), (8, _), (9, _), (10, _), (11, _), (12, _), (16, _), (17, _), (18, _)]) (nx' := 21) [7, 8] rfl rfl rfl rfl rfl rfl rfl rfl rfl (by (repeat' apply And.intro) <;> first | trivial | rfl | exact flat_len (fun _ => rfl) _ | exact encI_len _ | exact Nat.le_of_ble_eq_true rfl | assumption) (sameDR_ok d ((chooseD d unit choice now).1)) rfl (by decide) rfl rfl trivial rfl rfl rfl rfl ?_
              refine step_g1 rfl h77 (step_bin rfl rfl rfl rfl rfl trivial (step_pickT rfl h77 rfl rfl (step_r rfl rfl trivial (step_nil (seqK_n (sem_ret ?_))))))
              exact answersR rfl ⟨trivial, trivial⟩ (congrArg B (by simp)) rfl
             ·have h := h77
              simp at h
            ·have h := h75
             simp at h
           ·have h := h72
            simp at h
          ·have h := h70
           simp at h
         ·have h := h68
          simp at h
       ·skip
        refine step_g0 rfl h61 rfl (step_g0 rfl h61 rfl (step_g0 rfl h61 rfl (step_g0 rfl h61 rfl (step_g0 rfl h61 rfl (step_pickF rfl h61 rfl rfl (step_nil (seqK_n (sem_condF rfl (sem_exit (seqK_e (lupK_e ?_)))))))))))
        refine blkK_t rfl (seqK_n (sem_seq ?_))
        refine sem_drawn rfl (by decide +kernel) rfl ?_
        refine step_r rfl rfl trivial (step_r rfl rfl trivial ?_)
        refine step_gs rfl (fun h80 => ?_) (fun h80 => ?_)
        ·have g80 := h80
         try simp at g80
         refine step_g1 rfl h80 (step_r rfl rfl trivial (step_pickT rfl h80 rfl rfl (step_r rfl rfl trivial (step_gt rfl (step_r (v := (.agg [_, _, _, _, _])) rfl rfl (Nat.le_of_ble_eq_true rfl) (step_gt rfl (step_r (v := (.agg [_, _, _, _, _])) rfl rfl (Nat.le_of_ble_eq_true rfl) (step_gt rfl ?_))))))))
         refine step_callJ (Hin := [.row _ _ _, .row _ _ _]) (H' := [(0, _), (1, _), (2, _), (3, _), (7, _), (8, _), (9, _), (10, _), (11, _), (12, _), (16, _), (17, _), (18, _)]) (nx' := 19) [1, 2] rfl rfl rfl rfl rfl rfl rfl rfl rfl (by (repeat' apply And.intro) <;> first | trivial | rfl | exact flat_len (fun _ => rfl) _ | exact encI_len _ | exact Nat.le_of_ble_eq_true rfl | assumption) (sameDR_ok d d) rfl (by decide) rfl rfl trivial rfl rfl rfl rfl ?_
         refine step_r rfl rfl trivial (step_r rfl rfl trivial ?_)
         refine step_gs rfl (fun h82 => ?_) (fun h82 => ?_)
         ·have g82 := h82
          try simp at g82
          refine step_g1 rfl h82 (step_r (v := (.agg [_, _, _, _, _])) rfl rfl (Nat.le_of_ble_eq_true rfl) (step_g1 rfl h82 (step_call rfl rfl rfl rfl (rightD_ok d) rfl rfl rfl (step_g1 rfl h82 (step_r (v := (.agg [_, _, _, _, _])) rfl rfl (Nat.le_of_ble_eq_true rfl) (step_g1 rfl h82 (step_call rfl rfl rfl rfl (rightDR_ok d) rfl rfl rfl (step_g1 rfl h82 (step_bin rfl rfl rfl rfl rfl trivial (step_pickT rfl h82 rfl rfl (step_r rfl rfl trivial ?_)))))))))))
          refine step_gs rfl (fun h84 => ?_) (fun h84 => ?_)
          ·have g84 := h84
           try simp at g84
           refine step_g1 rfl h84 (step_r (v := (.agg [_, _, _, _, _])) rfl rfl (Nat.le_of_ble_eq_true rfl) (step_g1 rfl h84 (step_r rfl rfl trivial (step_g1 rfl h84 (step_call rfl rfl rfl rfl (over_ok d now) rfl rfl rfl (step_g1 rfl h84 (step_r (v := (.agg [_, _, _, _, _])) rfl rfl (Nat.le_of_ble_eq_true rfl) (step_g1 rfl h84 (step_r rfl rfl trivial (step_g1 rfl h84 (step_call rfl rfl rfl rfl (overR_ok d now) rfl rfl rfl ?_)))))))))))
           refine step_g1 rfl h84 (step_bin rfl rfl rfl rfl rfl trivial (step_pickT rfl h84 rfl rfl (step_r rfl rfl trivial ?_)))
           refine step_gs rfl (fun h87 => ?_) (fun h87 => ?_)
           ·have g87 := h87
            try simp at g87
            refine step_g1 rfl h87 (step_r (v := (.agg [_, _, _, _, _])) rfl rfl (Nat.le_of_ble_eq_true rfl) (step_g1 rfl h87 ?_))
            refine step_callJ (Hin := []) (out' := .ref 19 _ _ _) (H' := [(19, .row _ _ _), (0, _), (1, _), (2, _), (3, _), (7, _), (8, _), (9, _), (10, _), (11, _), (12, _), (16, _), (17, _), (18, _)]) (nx' := 20) [] rfl rfl rfl rfl rfl rfl rfl rfl rfl (by (repeat' apply And.intro) <;> first | trivial | rfl | exact flat_len (fun _ => rfl) _ | exact encI_len _ | exact Nat.le_of_ble_eq_true rfl | assumption) (best_ok d) rfl (by decide) rfl rfl ⟨encI_solid, trivial⟩ rfl rfl rfl rfl ?_
            refine step_g1 rfl h87 (step_r (v := (.agg [_, _, _, _, _])) rfl rfl (Nat.le_of_ble_eq_true rfl) (step_g1 rfl h87 ?_))
            refine step_callJ (Hin := []) (out' := .ref 20 _ _ _) (H' := [(20, .row _ _ _), (19, _), (0, _), (1, _), (2, _), (3, _), (7, _), (8, _), (9, _), (10, _), (11, _), (12, _), (16, _), (17, _), (18, _)]) (nx' := 21) [] rfl rfl rfl rfl rfl rfl rfl rfl rfl (by (repeat' apply And.intro) <;> first | trivial | rfl | exact flat_len (fun _ => rfl) _ | exact encI_len _ | exact Nat.le_of_ble_eq_true rfl | assumption) (bestR_ok d) rfl (by decide) rfl rfl ⟨encI_solid, trivial⟩ rfl rfl rfl rfl ?_
            refine step_g1 rfl h87 ?_
            refine step_callJ (Hin := [.row _ _ _, .row _ _ _]) (H' := [(20, _), (19, _), (0, _), (1, _), (2, _), (3, _), (7, _), (8, _), (9, _), (10, _), (11, _), (12, _), (16, _), (17, _), (18, _)]) (nx' := 21) [19, 20] rfl rfl rfl rfl rfl rfl rfl rfl rfl (by (repeat' apply And.intro) <;> first | trivial | rfl | exact flat_len (fun _ => rfl) _ | exact encI_len _ | exact Nat.le_of_ble_eq_true rfl | assumption) (same02_ok (bestD d) false (bestD d) false) rfl (by decide) rfl rfl trivial rfl rfl rfl rfl ?_
            refine step_pickT rfl h87 rfl rfl (step_r rfl rfl trivial ?_)
            refine step_gs rfl (fun h89 => ?_) (fun h89 => ?_)
            ·have g89 := h89
             try simp at g89
             refine step_g1 rfl h89 (step_r (v := (.agg [_, _, _, _, _])) rfl rfl (Nat.le_of_ble_eq_true rfl) (step_g1 rfl h89 (step_r (v := (.agg [_, _, _, _, _])) rfl rfl (Nat.le_of_ble_eq_true rfl) (step_g1 rfl h89 ?_))))
             refine step_callJ (Hin := [.row _ _ _, .row _ _ _]) (H' := [(20, _), (19, _), (0, _), (1, _), (2, _), (3, _), (7, _), (8, _), (9, _), (10, _), (11, _), (12, _), (16, _), (17, _), (18, _)]) (nx' := 21) [7, 8] rfl rfl rfl rfl rfl rfl rfl rfl rfl (by (repeat' apply And.intro) <;> first | trivial | rfl | exact flat_len (fun _ => rfl) _ | exact encI_len _ | exact Nat.le_of_ble_eq_true rfl | assumption) (sameD_ok d ((chooseD d unit choice now).1)) rfl (by decide) rfl rfl trivial rfl rfl rfl rfl ?_
             refine step_g1 rfl h89 (step_r (v := (.agg [_, _, _, _, _])) rfl rfl (Nat.le_of_ble_eq_true rfl) (step_g1 rfl h89 (step_r (v := (.agg [_, _, _, _, _])) rfl rfl (Nat.le_of_ble_eq_true rfl) (step_g1 rfl h89 ?_))))
             refine step_callJ (Hin := [.row _ _ _, .row _ _ _]) (H' := [(20, _), (19, _), (0, _), (1, _), (2, _), (3, _), (7, _), (8, _), (9, _), (10, _), (11, _), (12, _), (16, _), (17, _), (18, _)]) (nx' := 21) [7, 8] rfl rfl rfl rfl rfl rfl rfl rfl rfl (by (repeat' apply And.intro) <;> first | trivial | rfl | exact flat_len (fun _ => rfl) _ | exact encI_len _ | exact Nat.le_of_ble_eq_true rfl | assumption) (sameDR_ok d ((chooseD d unit choice now).1)) rfl (by decide) rfl rfl trivial rfl rfl rfl rfl ?_
             refine step_g1 rfl h89 (step_bin rfl rfl rfl rfl rfl trivial (step_pickT rfl h89 rfl rfl (step_r rfl rfl trivial (step_nil (seqK_n (sem_ret ?_))))))
             exact answersR rfl ⟨trivial, trivial⟩ (congrArg B (by simp)) rfl
            ·have h := h89
             simp at h
           ·have h := h87
            simp at h
          ·have h := h84
           simp at h
         ·have h := h82
          simp at h
        ·have h := h80
         simp at h
     ·have h := h17
      simp at h
    ·have h := h15
     simp at h
   ·have h := h13
    simp at h
  ·have h := h11
   simp at h

theorem lootRolls_ok (d : GDrop) (words : List Int) (words_f : Bool) (n : Int) : Ok Try.prog 4 [aGDrop d, .pv (.slc words.length words_f (encI words)), I n] [] (B true) [] [] := by
 refine Ok.len fun hlen => ?_
 have hl_d_Units : d.Units.length ≤ maxLen := hlen _ (by simp [lensL, lens, lensP])
 have hl_d_Choices : d.Choices.length ≤ maxLen := hlen _ (by simp [lensL, lens, lensP])
 have hl_words : words.length ≤ maxLen := hlen _ (by simp [lensL, lens, lensP])
 unfold maxLen at hl_d_Units hl_d_Choices hl_words
 refine ok_of_sem Try.func4 rfl ?_
 show Walks Try.prog _ _ ⟨[(0, aGDrop d), (1, .pv (.slc words.length words_f (encI words))), (2, I n)], [], 0, [], 90, 0⟩
 refine sem_seq (sem_region rfl (step_n (o := .box [_, _, _, _, _]) (nx' := 1) rfl rfl rfl trivial (step_r rfl rfl trivial (step_nil (seqK_n (sem_seq (sem_region rfl (step_call rfl rfl rfl rfl (small21_ok ) rfl rfl rfl (step_r rfl rfl trivial (step_nil (seqK_n ?_)))))))))))
 refine sem_seq (sem_region rfl (step_r (v := (.agg [_, _, _, _, _])) rfl rfl (Nat.le_of_ble_eq_true rfl) (step_call rfl rfl rfl rfl (few_ok d) rfl rfl rfl (step_r rfl rfl trivial (step_nil (seqK_n (sem_seq (sem_seq (sem_region rfl (step_r rfl rfl trivial (step_r rfl rfl trivial ?_)))))))))))
 refine step_r rfl rfl trivial ?_
 refine step_gs rfl (fun h3 => ?_) (fun h3 => ?_)
 ·have g3 := h3
  try simp at g3
  refine step_g0 rfl h3 rfl (step_g0 rfl h3 rfl (step_g0 rfl h3 rfl (step_pickT rfl h3 rfl rfl (step_nil (seqK_n (sem_condT rfl (sem_seq (sem_region rfl (step_r rfl rfl trivial (step_r rfl rfl trivial (step_nil ?_)))))))))))
  refine seqK_n (sem_ret (seqK_r ?_))
  exact answersR rfl ⟨trivial, trivial⟩ (rfl) rfl
 ·have g3 := h3
  try simp at g3
  obtain ⟨q1, q2⟩ : d.Units.length ≤ 100 ∧ d.Choices.length ≤ 100 := by simpa using h3
  refine step_g1 rfl h3 (step_r rfl rfl trivial (step_g1 rfl h3 (step_r rfl rfl trivial (step_g1 rfl h3 (step_bin rfl rfl rfl rfl rfl trivial (step_pickF rfl h3 rfl rfl (step_nil (seqK_n ?_))))))))
  refine sem_cond rfl (fun h5 => ?_) (fun h5 => ?_)
  ·have g5 := h5
   try simp at g5
   refine sem_seq (sem_region rfl (step_r rfl rfl trivial (step_r rfl rfl trivial (step_nil (seqK_n (sem_ret (seqK_r ?_)))))))
   exact answersR rfl ⟨trivial, trivial⟩ (rfl) rfl
  ·have g5 := h5
   try simp at g5
   have qw := g5
   refine sem_skip (seqK_n (sem_seq (sem_region rfl (step_r rfl rfl trivial (step_r rfl rfl trivial ?_)))))
   refine step_callJ (Hin := []) (out' := .tup [.ref 1 _ _ _, _, _]) (H' := [(1, .row _ _ _), (0, _)]) (nx' := 2) [] rfl rfl rfl rfl rfl rfl rfl rfl rfl (by (repeat' apply And.intro) <;> first | trivial | rfl | exact flat_len (fun _ => rfl) _ | exact encI_len _ | exact Nat.le_of_ble_eq_true rfl | assumption) (roll_ok words false n) rfl (by decide) rfl rfl ⟨encI_solid, trivial⟩ rfl rfl rfl rfl ?_
   refine step_r rfl rfl trivial (step_r rfl rfl trivial (step_r rfl rfl trivial (step_r rfl rfl trivial (step_r rfl rfl trivial (step_r rfl rfl trivial (step_r rfl rfl trivial (step_nil (seqK_n (sem_seq (sem_region rfl (step_r rfl rfl trivial ?_)))))))))))
   refine step_r rfl rfl trivial ?_
   refine step_callJ (Hin := []) (out' := .tup [.ref 2 _ _ _, _, _]) (H' := [(2, .row _ _ _), (1, _), (0, _)]) (nx' := 3) [] rfl rfl rfl rfl rfl rfl rfl rfl rfl (by (repeat' apply And.intro) <;> first | trivial | rfl | exact flat_len (fun _ => rfl) _ | exact encI_len _ | exact Nat.le_of_ble_eq_true rfl | assumption) (rollR_ok words false n) rfl (by decide) rfl rfl ⟨encI_solid, trivial⟩ rfl rfl rfl rfl ?_
   refine step_r rfl rfl trivial (step_r rfl rfl trivial (step_r rfl rfl trivial (step_r rfl rfl trivial (step_r rfl rfl trivial (step_r rfl rfl trivial (step_r rfl rfl trivial (step_nil (seqK_n (sem_seq (sem_region rfl (step_r (v := (.agg [_, _, _, _, _])) rfl rfl (Nat.le_of_ble_eq_true rfl) ?_)))))))))))
   refine step_r rfl rfl trivial (step_call rfl rfl rfl rfl (award_ok d words words_f) rfl rfl rfl (step_r rfl rfl trivial (step_r rfl rfl trivial (step_r rfl rfl trivial (step_r rfl rfl trivial (step_r rfl rfl trivial (step_r rfl rfl trivial (step_r rfl rfl trivial (step_nil (seqK_n (sem_seq ?_)))))))))))
   refine sem_region rfl (step_r (v := (.agg [_, _, _, _, _])) rfl rfl (Nat.le_of_ble_eq_true rfl) (step_r rfl rfl trivial (step_call rfl rfl rfl rfl (awardR_ok d words words_f) rfl rfl rfl (step_r rfl rfl trivial (step_r rfl rfl trivial (step_r rfl rfl trivial (step_r rfl rfl trivial (step_r rfl rfl trivial (step_r rfl rfl trivial (step_r rfl rfl trivial (step_nil ?_)))))))))))
   refine seqK_n (sem_seq (sem_region rfl (step_r rfl rfl trivial (step_r rfl rfl trivial (step_gt rfl (step_r rfl rfl trivial (step_gt rfl (step_r rfl rfl trivial (step_gt rfl ?_)))))))))
   refine step_callJ (Hin := [.row _ _ _, .row _ _ _]) (H' := [(2, _), (1, _), (0, _)]) (nx' := 3) [1, 2] rfl rfl rfl rfl rfl rfl rfl rfl rfl (by (repeat' apply And.intro) <;> first | trivial | rfl | exact flat_len (fun _ => rfl) _ | exact encI_len _ | exact Nat.le_of_ble_eq_true rfl | assumption) (same02_ok ((rollM words n).1) false ((rollM words n).1) false) rfl (by decide) rfl rfl trivial rfl rfl rfl rfl ?_
   refine step_r rfl rfl trivial (step_r rfl rfl trivial ?_)
   refine step_gs rfl (fun h18 => ?_) (fun h18 => ?_)
   ·have g18 := h18
    try simp at g18
    refine step_g1 rfl h18 (step_r rfl rfl trivial (step_g1 rfl h18 (step_r rfl rfl trivial (step_g1 rfl h18 (step_bin rfl rfl rfl rfl rfl trivial (step_pickT rfl h18 rfl rfl (step_r rfl rfl trivial ?_)))))))
    refine step_gs rfl (fun h20 => ?_) (fun h20 => ?_)
    ·have g20 := h20
     try simp at g20
     refine step_g1 rfl h20 (step_r rfl rfl trivial (step_g1 rfl h20 (step_r rfl rfl trivial (step_g1 rfl h20 (step_bin rfl rfl rfl rfl rfl trivial (step_pickT rfl h20 rfl rfl (step_r rfl rfl trivial ?_)))))))
     refine step_gs rfl (fun h22 => ?_) (fun h22 => ?_)
     ·have g22 := h22
      try simp at g22
      refine step_g1 rfl h22 (step_r rfl rfl trivial (step_g1 rfl h22 (step_r rfl rfl trivial (step_g1 rfl h22 (step_bin rfl rfl rfl rfl rfl trivial (step_pickT rfl h22 rfl rfl (step_r rfl rfl trivial ?_)))))))
      refine step_gs rfl (fun h24 => ?_) (fun h24 => ?_)
      ·have g24 := h24
       try simp at g24
       refine step_g1 rfl h24 (step_r rfl rfl trivial (step_g1 rfl h24 (step_r rfl rfl trivial (step_g1 rfl h24 (step_bin rfl rfl rfl rfl rfl trivial (step_pickT rfl h24 rfl rfl (step_r rfl rfl trivial ?_)))))))
       refine step_gs rfl (fun h26 => ?_) (fun h26 => ?_)
       ·have g26 := h26
        try simp at g26
        refine step_g1 rfl h26 (step_r rfl rfl trivial (step_g1 rfl h26 (step_r rfl rfl trivial (step_g1 rfl h26 (step_bin rfl rfl rfl rfl rfl trivial (step_pickT rfl h26 rfl rfl (step_r rfl rfl trivial (step_nil (seqK_n (sem_ret ?_))))))))))
        exact answersR rfl ⟨trivial, trivial⟩ (congrArg B (by simp)) rfl
       ·have h := h26
        simp at h
      ·have h := h24
       simp at h
     ·have h := h22
      simp at h
    ·have h := h20
     simp at h
   ·have h := h18
    simp at h

def nz (l : List Int) : Nat := (l.filter fun x => decide (x ≠ 0)).length
theorem nz_le (l : List Int) : nz l ≤ l.length := List.length_filter_le _ _
theorem nz_set : ∀ {l : List Int} {k : Nat} {c : Int}, l[k]? = some 0 → c ≠ 0 → nz (l.set k c) = nz l + 1
  | [], _, _, h, _ => by simp at h
  | x :: l, 0, c, h, hc => by simp at h; subst h; simp [nz, hc]
  | x :: l, k + 1, c, h, hc => by
    have ih := nz_set (l := l) (k := k) (by simpa using h) hc
    unfold nz at ih ⊢
    simp only [List.set_cons_succ, List.filter_cons]
    split
    · rw [List.length_cons, List.length_cons, ih]
    · exact ih
theorem nz_all (l : List Int) : nz l = l.length ↔ ∀ x ∈ l, x ≠ 0 := by
  unfold nz
  rw [List.length_filter_eq_length_iff]
  simp
theorem rises_set : ∀ {us cs : List Int} {last : Int} {k : Nat} {v : Int}, rises last us cs = true → 0 ≤ v → v ≤ 3 → rises last us (cs.set k v) = true
  | [], _, _, _, _, _, _, _ => by simp [rises]
  | _ :: _, [], _, _, _, h, _, _ => by simp [rises]
  | u :: us, c :: cs, last, 0, v, h, h0, h1 => by
    simp only [rises, Bool.and_eq_true, decide_eq_true_eq, List.set_cons_zero] at h ⊢
    exact ⟨⟨h.1.1, by omega⟩, h.2⟩
  | u :: us, c :: cs, last, k + 1, v, h, h0, h1 => by
    simp only [rises, Bool.and_eq_true, List.set_cons_succ] at h ⊢
    exact ⟨h.1, rises_set h.2 h0 h1⟩
theorem choose_done {d : GDrop} {u c n : Int} (h : (chooseD d u c n).2 = 0) : rightD d ∧ 1 ≤ c ∧ c ≤ 3 ∧ n < d.Until ∧ ∃ k, fidx (fun x => u == x) d.Units = ((k : Nat) : Int) ∧ d.Choices[k]? = some 0 ∧ (chooseD d u c n).1 = { d with Choices := d.Choices.set k c } := by
  unfold chooseD at h ⊢
  split at h
  · cases h
  · rename_i h1
    split at h
    · cases h
    · rename_i h2
      split at h
      · cases h
      · rename_i h3
        split at h
        · cases h
        · rename_i h4
          rw [if_neg h1, if_neg h2, if_neg h3, if_neg h4]
          simp only [not_or, Decidable.not_not] at h1
          refine ⟨h1.1, by omega, by omega, by omega, (fidx (fun x => u == x) d.Units).toNat, (Int.toNat_of_nonneg (by omega)).symm, ?_, rfl⟩
          rcases fidx_cases (fun x => u == x) d.Units with ⟨h5, _⟩ | ⟨k, x, h5, h6, _⟩
          · omega
          · have hk : k < d.Choices.length := by have := (List.getElem?_eq_some_iff.1 h6).1; have := h1.1.2.2.2.1; omega
            rw [h5, Int.toNat_natCast] at h4 ⊢
            simp only [List.getD, List.getElem?_eq_getElem hk, Option.getD_some, Decidable.not_not] at h4
            rw [List.getElem?_eq_getElem hk, h4]
theorem choose_right {d : GDrop} {u c n : Int} (h : (chooseD d u c n).2 = 0) : rightD (chooseD d u c n).1 ∧ (chooseD d u c n).1 ≠ d ∧ (chooseD d u c n).1.Units = d.Units ∧ (chooseD d u c n).1.Until = d.Until ∧ nz (chooseD d u c n).1.Choices = nz d.Choices + 1 ∧ (0 < d.Until → (chooseD (chooseD d u c n).1 u 3 0).2 = 7) := by
  obtain ⟨hr, h1, h2, h3, k, h4, h5, h6⟩ := choose_done h
  have hk : k < d.Choices.length := (List.getElem?_eq_some_iff.1 h5).1
  have hr' : rightD (chooseD d u c n).1 := by
    rw [h6]
    obtain ⟨a1, a2, a3, a4, a5⟩ := hr
    exact ⟨a1, a2, a3, by simp only [List.length_set]; exact a4, rises_set a5 (by omega) h2⟩
  refine ⟨hr', ?_, by rw [h6], by rw [h6], by rw [h6]; exact nz_set h5 (by omega), fun hu => ?_⟩
  · intro e
    have e2 := congrArg GDrop.Choices e
    rw [h6] at e2
    have this : (d.Choices.set k c)[k]? = d.Choices[k]? := congrArg (fun x => x[k]?) e2
    rw [h5, List.getElem?_set_self hk] at this
    cases this; omega
  · generalize hX : (chooseD d u c n).1 = X at *
    unfold chooseD
    have e1 : X.Units = d.Units := by rw [h6]
    have e2 : X.Until = d.Until := by rw [h6]
    have e3 : X.Choices.getD k 0 = c := by rw [h6]; simp [List.getD, List.getElem?_set_self hk]
    rw [if_neg (by simp only [not_or, Decidable.not_not]; exact ⟨hr', by omega, by omega⟩), e1, h4, if_neg (by omega), if_neg (by omega), Int.toNat_natCast, e3, if_pos (by omega)]
theorem over_nz {d : GDrop} {now : Int} (hl : d.Choices.length = d.Units.length) : overD d now = (decide (now ≥ d.Until) || decide (nz d.Choices = d.Units.length)) := by
  unfold overD
  congr 1
  rw [Bool.eq_iff_iff, List.all_eq_true, decide_eq_true_eq, ← hl, nz_all]
  constructor
  · intro h x hx
    obtain ⟨i, hi, rfl⟩ := List.getElem_of_mem hx
    have := h i (by simpa using hi)
    simpa [List.getD, List.getElem?_eq_getElem hi, hi] using this
  · intro h i hi
    have hi' : i < d.Choices.length := by simpa using hi
    have := h _ (List.getElem_mem hi')
    simpa [List.getD, List.getElem?_eq_getElem hi', hi'] using this
theorem who_nz {w : Int} (hw : w ≠ 0) : ∀ us cs : List Int, (whoGo w us cs).length ≤ nz cs
  | [], cs => by simp [whoGo]
  | _ :: _, [] => by simp [whoGo]
  | u :: us, c :: cs => by
    have ih := who_nz hw us cs
    unfold nz at ih ⊢
    simp only [whoGo, List.filter_cons]
    split
    · rename_i h
      have hc : decide (c ≠ 0) = true := decide_eq_true (by omega)
      rw [if_pos hc]
      simp only [List.length_cons]; omega
    · split
      · simp only [List.length_cons]; omega
      · exact ih
theorem best_nz (d : GDrop) : (bestD d).length ≤ nz d.Choices := by
  unfold bestD
  split
  · simp
  · split
    · exact who_nz (by decide) _ _
    · exact who_nz (by decide) _ _
theorem open_done {i t u : Int} {l : List Int} (h : (openD i t u l).2 = 0) : (openD i t u l).1 = ⟨i, t, u, l, List.replicate l.length 0⟩ ∧ rightD (openD i t u l).1 ∧ nz (openD i t u l).1.Choices = 0 := by
  unfold openD at h ⊢
  split at h
  · rename_i h1
    rw [if_pos h1]
    exact ⟨rfl, h1, by simp [nz]⟩
  · cases h
theorem open_not {i t u : Int} {l : List Int} (h : (openD i t u l).2 ≠ 0) : (openD i t u l).1 = d0 := by
  unfold openD at h ⊢
  split at h
  · exact absurd rfl h
  · rename_i h1; rw [if_neg h1]

structure A3int where
  (f0 : Int)
  (f1 : Int)
  (f2 : Int)
  deriving DecidableEq, Inhabited
def encA3int (x : A3int) : List PV := [i64 x.f0, i64 x.f1, i64 x.f2]
abbrev aA3int (x : A3int) : AV := .agg [I x.f0, I x.f1, I x.f2]
def wfA3int (x : A3int) : Prop := (InR x.f0) ∧ (InR x.f1) ∧ (InR x.f2)
theorem encA3int_solid {l : List A3int} : ∀ p ∈ l.flatMap encA3int, solidP p = true := flat_solid (fun x p h => by simp only [encA3int, List.mem_cons, List.mem_nil_iff, or_false] at h; rcases h with rfl | rfl | rfl <;> rfl)

theorem lootOnce_ok (units : List Int) (units_f : Bool) (steps : List A3int) (steps_f : Bool) : Ok Try.prog 6 [.pv (.slc units.length units_f (encI units)), .pv (.slc steps.length steps_f (steps.flatMap encA3int))] [] (B true) [] [] := by
 refine Ok.len fun hlen => ?_
 have hl_units : units.length ≤ maxLen := hlen _ (by simp [lensL, lens, lensP])
 have hl_steps : steps.length ≤ maxLen := hlen _ (by simp [lensL, lens, lensP])
 unfold maxLen at hl_units hl_steps
 refine ok_of_sem Try.func6 rfl ?_
 show Walks Try.prog _ _ ⟨[(0, .pv (.slc units.length units_f (encI units))), (1, .pv (.slc steps.length steps_f (steps.flatMap encA3int)))], [], 0, [], 123, 0⟩
 refine sem_seq (sem_region rfl (step_r rfl rfl trivial (step_nil (seqK_n (sem_seq (sem_region rfl (step_call rfl rfl rfl rfl (small21_ok ) rfl rfl rfl (step_r rfl rfl trivial (step_nil (seqK_n (sem_seq ?_)))))))))))
 refine sem_seq (sem_region rfl (step_r rfl rfl trivial (step_r rfl rfl trivial (step_bin rfl rfl rfl rfl rfl trivial (step_r rfl rfl trivial ?_)))))
 refine step_gs rfl (fun h2 => ?_) (fun h2 => ?_)
 ·have g2 := h2
  try simp at g2
  refine step_g0 rfl h2 rfl (step_g0 rfl h2 rfl (step_g0 rfl h2 rfl (step_pickT rfl h2 rfl rfl (step_nil (seqK_n (sem_condT rfl (sem_seq (sem_region rfl (step_r rfl rfl trivial (step_r rfl rfl trivial (step_nil ?_)))))))))))
  refine seqK_n (sem_ret (seqK_r ?_))
  exact answersR rfl ⟨trivial, trivial⟩ (rfl) rfl
 ·have g2 := h2
  try simp at g2
  have qu : units.length ≤ 60 := by simp at h2; omega
  refine step_g1 rfl h2 (step_r rfl rfl trivial (step_g1 rfl h2 (step_r rfl rfl trivial (step_g1 rfl h2 (step_bin rfl rfl rfl rfl rfl trivial (step_pickF rfl h2 rfl rfl (step_nil (seqK_n ?_))))))))
  refine sem_cond rfl (fun h4 => ?_) (fun h4 => ?_)
  ·have g4 := h4
   try simp at g4
   refine sem_seq (sem_region rfl (step_r rfl rfl trivial (step_r rfl rfl trivial (step_nil (seqK_n (sem_ret (seqK_r ?_)))))))
   exact answersR rfl ⟨trivial, trivial⟩ (rfl) rfl
  ·have g4 := h4
   try simp at g4
   refine sem_skip (seqK_n (sem_seq (sem_region rfl (step_r rfl rfl trivial ?_))))
   refine step_callJ (Hin := []) (out' := .tup [.agg [_, _, _, .ref 0 _ _ _, .ref 1 _ _ _], _]) (H' := [(0, .row _ _ _), (1, .row _ _ _)]) (nx' := 2) [] rfl rfl rfl rfl rfl rfl rfl rfl rfl (by (repeat' apply And.intro) <;> first | trivial | rfl | exact flat_len (fun _ => rfl) _ | exact encI_len _ | exact Nat.le_of_ble_eq_true rfl | assumption) (open_ok 1 1 50 units false (by first | omega | assumption | decide +kernel | (simp; done) | (simp; omega) | simp_all)) rfl (by decide) rfl rfl ⟨encI_solid, encI_solid, trivial⟩ rfl rfl rfl rfl ?_
   refine step_r rfl rfl trivial (step_r rfl rfl trivial (step_r rfl rfl trivial (step_n (o := .box [_, _, _, _, _]) (nx' := 3) rfl rfl rfl trivial ?_)))
   refine step_storeB (H' := [(2, .box [_, _, _, _, _]), (0, _), (1, _)]) rfl rfl rfl rfl rfl rfl (.inl rfl) rfl ?_
   refine step_r rfl rfl trivial (step_nil (seqK_n (sem_seq (sem_seq (sem_region rfl (step_r rfl rfl trivial (step_bin rfl rfl rfl rfl rfl trivial (step_nil (seqK_n ?_)))))))))
   refine sem_cond rfl (fun h6 => ?_) (fun h6 => ?_)
   ·have g6 := h6
    try simp at g6
    have ho : (openD 1 1 50 units).2 ≠ 0 := by simpa using h6
    rw [open_not ho]
    refine sem_seq (sem_region rfl (step_r rfl rfl trivial (step_r rfl rfl trivial (step_gt rfl (step_r rfl rfl (by decide) (step_gt rfl (step_r rfl rfl trivial (step_gt rfl (step_r rfl rfl trivial (step_gt rfl (step_bin rfl rfl rfl rfl rfl trivial ?_)))))))))))
    refine step_r rfl rfl trivial (step_r rfl rfl trivial (step_nil (seqK_n (sem_ret (seqK_r ?_)))))
    exact answersR rfl ⟨trivial, trivial⟩ (rfl) rfl
   ·have g6 := h6
    try simp at g6
    have ho : (openD 1 1 50 units).2 = 0 := by simpa using h6
    obtain ⟨o1, o2, o3⟩ := open_done ho
    have q4 := open_len 1 1 50 units
    refine sem_skip (seqK_n (sem_seq (sem_region rfl (step_r rfl rfl trivial (step_nil (seqK_n (sem_seq (sem_seq (sem_region rfl (step_r rfl rfl trivial (step_nil ?_)))))))))))
    refine seqK_n (sem_block ?_)
    refine sem_loop_of (fun a : Nat × GDrop => match a with | (k, D) => (⟨[(0, .pv (.slc units.length units_f (encI units))), (1, .pv (.slc steps.length steps_f (steps.flatMap encA3int))), (5, B true), (6, .ptr 2 0), (8, I (nz D.Choices)), (9, I k)], [(0, .row 3 1 (encI D.Units)), (1, .row 3 1 (encI D.Choices)), (2, .box [I D.Id, I D.Item, I D.Until, .ref 0 1 0 D.Units.length, .ref 1 1 0 D.Choices.length])], 3, [], 123, 0⟩ : St)) (fun a : Nat × GDrop => match a with | (k, D) => k ≤ steps.length ∧ rightD D ∧ D.Units = units ∧ D.Until = 50) (fun a : Nat × GDrop => match a with | (k, D) => steps.length - k) (0, (openD 1 1 50 units).1) (⟨Nat.zero_le _, o2, by rw [o1], by rw [o1]⟩) (less_of rfl ⟨⟨rfl, rfl⟩, ⟨rfl, rfl⟩, ⟨rfl, rfl⟩, ⟨rfl, rfl⟩, ⟨congrArg (fun n => some (I n)) (by rw [o3]; rfl), rfl⟩, ⟨rfl, rfl⟩, trivial⟩ ⟨⟨rfl, rfl, rfl⟩, ⟨rfl, rfl, rfl⟩, ⟨rfl, rfl, rfl⟩, trivial⟩ (fun _ _ => .inr (Nat.zero_le _))) (fun a hI => ?_)
    obtain ⟨k, D⟩ := a
    show Walks Try.prog _ _ (⟨[(0, .pv (.slc units.length units_f (encI units))), (1, .pv (.slc steps.length steps_f (steps.flatMap encA3int))), (5, B true), (6, .ptr 2 0), (8, I (nz D.Choices)), (9, I k)], [(0, .row 3 1 (encI D.Units)), (1, .row 3 1 (encI D.Choices)), (2, .box [I D.Id, I D.Item, I D.Until, .ref 0 1 0 D.Units.length, .ref 1 1 0 D.Choices.length])], 3, [], 123, 0⟩ : St)
    refine sem_seq (sem_seq (sem_region rfl (step_r rfl rfl trivial (step_r rfl rfl trivial (step_r rfl rfl trivial (step_bin rfl rfl rfl rfl rfl trivial (step_nil (seqK_n ?_))))))))
    refine sem_cond rfl (fun h9 => ?_) (fun h9 => ?_)
    ·have hk : k < steps.length := by simpa using h9
     obtain ⟨x, hx⟩ : ∃ z_, steps[k]? = some z_ := ⟨_, List.getElem?_eq_getElem hk⟩
     obtain ⟨i1, hr, hU, hT⟩ := hI
     have hrl := hr.2.2.1
     have hrc := hr.2.2.2.1
     have hnl := nz_le D.Choices
     have q3 := choose_len D x.f0 x.f1 x.f2
     refine sem_skip (seqK_n (sem_seq (sem_block (sem_seq ?_))))
     refine sem_drawnE [(21, 19)] rfl (by decide +kernel) (by decide +kernel) rfl ?_
     refine step_r (v := (.agg [_, _, _, _, _])) rfl rfl (Nat.le_of_ble_eq_true rfl) (step_r rfl rfl trivial (step_r rfl rfl trivial (step_idxS (k := k) rfl rfl rfl rfl hk (flat_ne (s := 3) (enc := encA3int) (fun _ => rfl) (by decide) hk) rfl (step_r rfl rfl ⟨by decide, by decide⟩ (step_load_one rfl rfl rfl (flat_get (s := 3) (enc := encA3int) (fun _ => rfl) hx (o := 0) rfl (by decide)) rfl (step_r rfl rfl trivial (step_r rfl rfl trivial (step_idxS (k := k) rfl rfl rfl rfl hk (flat_ne (s := 3) (enc := encA3int) (fun _ => rfl) (by decide) hk) rfl (step_r rfl rfl ⟨by decide, by decide⟩ (step_load_one rfl rfl rfl (flat_get (s := 3) (enc := encA3int) (fun _ => rfl) hx (o := 1) rfl (by decide)) rfl (step_r rfl rfl trivial ?_)))))))))))
     refine step_r rfl rfl trivial (step_idxS (k := k) rfl rfl rfl rfl hk (flat_ne (s := 3) (enc := encA3int) (fun _ => rfl) (by decide) hk) rfl (step_r rfl rfl ⟨by decide, by decide⟩ (step_load_one rfl rfl rfl (flat_get (s := 3) (enc := encA3int) (fun _ => rfl) hx (o := 2) rfl (by decide)) rfl ?_)))
     refine step_callJ (Hin := [.row _ _ _, .row _ _ _]) (out' := .tup [.agg [_, _, _, .ref 3 _ _ _, .ref 4 _ _ _], _]) (H' := [(3, .row _ _ _), (4, .row _ _ _), (0, _), (1, _), (2, _)]) (nx' := 5) [0, 1] rfl rfl rfl rfl rfl rfl rfl rfl rfl (by (repeat' apply And.intro) <;> first | trivial | rfl | exact flat_len (fun _ => rfl) _ | exact encI_len _ | exact Nat.le_of_ble_eq_true rfl | assumption) (choose_ok D x.f0 x.f1 x.f2) rfl (by decide) rfl rfl ⟨encI_solid, encI_solid, trivial⟩ rfl rfl rfl rfl ?_
     refine step_r rfl rfl trivial (step_r rfl rfl trivial (step_r rfl rfl trivial (step_n (o := .box [_, _, _, _, _]) (nx' := 6) rfl rfl rfl trivial ?_)))
     refine step_storeB (H' := [(5, .box [_, _, _, _, _]), (3, _), (4, _), (0, _), (1, _), (2, _)]) rfl rfl rfl rfl rfl rfl (.inr (by decide +kernel)) rfl ?_
     refine step_r rfl rfl trivial (step_nil (seqK_n (sem_seq (sem_seq (sem_region rfl (step_r rfl rfl trivial (step_bin rfl rfl rfl rfl rfl trivial (step_nil (seqK_n ?_)))))))))
     refine sem_cond rfl (fun h11 => ?_) (fun h11 => ?_)
     ·have g11 := h11
      try simp at g11
      have hc0 : (chooseD D x.f0 x.f1 x.f2).2 = 0 := by simpa using h11
      obtain ⟨r1, r2, r3, r4, r5, r6⟩ := choose_right hc0
      have r6 := r6 (by omega)
      obtain ⟨_, _, _, r7, _⟩ := choose_done hc0
      have hnl1 := nz_le (chooseD D x.f0 x.f1 x.f2).1.Choices
      have hlc := r1.2.2.2.1
      have hlu := r1.2.2.1
      have hwz : IntKind.i64.wrap ((nz D.Choices : Int) + 1) = (nz (chooseD D x.f0 x.f1 x.f2).1.Choices : Int) := by rw [IntKind.wrap_i64, r5]; push_cast; omega
      have hDl : (chooseD D x.f0 x.f1 x.f2).1.Units.length = units.length := (by rw [r3, hU])
      have hTl : (chooseD D x.f0 x.f1 x.f2).1.Until = 50 := (by rw [r4]; exact hT)
      have hcl : (chooseD D x.f0 x.f1 x.f2).1.Choices.length = (chooseD D x.f0 x.f1 x.f2).1.Units.length := by assumption
      have hvD : 0 = 0 := rfl
      have hv0 : overD (chooseD D x.f0 x.f1 x.f2).1 0 = decide ((nz (chooseD D x.f0 x.f1 x.f2).1.Choices : Int) = (units.length : Int)) := by rw [over_nz hcl, hTl, hDl, Bool.eq_iff_iff]; simp; omega
      have hv5 : overD (chooseD D x.f0 x.f1 x.f2).1 50 = true := by rw [over_nz hcl, hTl]; simp
      refine sem_seq (sem_region rfl (step_r rfl rfl trivial (step_bin rfl rfl rfl rfl rfl trivial (step_r rfl rfl trivial (step_nil (seqK_n (sem_seq (sem_seq (sem_region rfl (step_r rfl rfl trivial (step_r rfl rfl trivial ?_)))))))))))
      refine step_idxS (k := k) rfl rfl rfl rfl hk (flat_ne (s := 3) (enc := encA3int) (fun _ => rfl) (by decide) hk) rfl (step_r rfl rfl ⟨by decide, by decide⟩ (step_load_one rfl rfl rfl (flat_get (s := 3) (enc := encA3int) (fun _ => rfl) hx (o := 2) rfl (by decide)) rfl (step_bin rfl rfl rfl rfl rfl trivial (step_r rfl rfl trivial ?_))))
      refine step_gs rfl (fun h15 => ?_) (fun h15 => ?_)
      ·have h := h15
       simp at h; omega
      ·have g15 := h15
       try simp at g15
       refine step_g1 rfl h15 (step_r (v := (.agg [_, _, _, _, _])) rfl rfl (Nat.le_of_ble_eq_true rfl) (step_g1 rfl h15 ?_))
       refine step_callJ (Hin := [.row _ _ _, .row _ _ _]) (H' := [(5, _), (3, _), (4, _), (0, _), (1, _), (2, _)]) (nx' := 6) [3, 4] rfl rfl rfl rfl rfl rfl rfl rfl rfl (by (repeat' apply And.intro) <;> first | trivial | rfl | exact flat_len (fun _ => rfl) _ | exact encI_len _ | exact Nat.le_of_ble_eq_true rfl | assumption) (rightD_ok ((chooseD D x.f0 x.f1 x.f2).1)) rfl (by decide) rfl rfl trivial rfl rfl rfl rfl ?_
       refine step_g1 rfl h15 (step_r rfl rfl trivial (step_pickF rfl h15 rfl rfl (step_r rfl rfl trivial ?_)))
       refine step_gs rfl (fun h17 => ?_) (fun h17 => ?_)
       ·have h := h17
        simp [r1] at h
       ·have g17 := h17
        try simp at g17
        refine step_g1 rfl h17 (step_r (v := (.agg [_, _, _, _, _])) rfl rfl (Nat.le_of_ble_eq_true rfl) (step_g1 rfl h17 (step_r (v := (.agg [_, _, _, _, _])) rfl rfl (Nat.le_of_ble_eq_true rfl) (step_g1 rfl h17 ?_))))
        refine step_callJ (Hin := [.row _ _ _, .row _ _ _, .row _ _ _, .row _ _ _]) (H' := [(5, _), (3, _), (4, _), (0, _), (1, _), (2, _)]) (nx' := 6) [3, 4, 0, 1] rfl rfl rfl rfl rfl rfl rfl rfl rfl (by (repeat' apply And.intro) <;> first | trivial | rfl | exact flat_len (fun _ => rfl) _ | exact encI_len _ | exact Nat.le_of_ble_eq_true rfl | assumption) (sameD_ok ((chooseD D x.f0 x.f1 x.f2).1) D) rfl (by decide) rfl rfl trivial rfl rfl rfl rfl ?_
        refine step_pickF rfl h17 rfl rfl (step_nil (seqK_n ?_))
        refine sem_cond rfl (fun h19 => ?_) (fun h19 => ?_)
        ·have h := h19
         simp at h; exact absurd h r2
        ·have g19 := h19
         try simp at g19
         refine sem_skip (seqK_n (sem_seq ?_))
         refine sem_drawnE [(11, 9)] rfl (by decide +kernel) (by decide +kernel) rfl ?_
         refine step_r (v := (.agg [_, _, _, _, _])) rfl rfl (Nat.le_of_ble_eq_true rfl) (step_r rfl rfl trivial (step_r rfl rfl trivial (step_idxS (k := k) rfl rfl rfl rfl hk (flat_ne (s := 3) (enc := encA3int) (fun _ => rfl) (by decide) hk) rfl (step_r rfl rfl ⟨by decide, by decide⟩ (step_load_one rfl rfl rfl (flat_get (s := 3) (enc := encA3int) (fun _ => rfl) hx (o := 0) rfl (by decide)) rfl ?_)))))
         refine step_callJ (Hin := [.row _ _ _, .row _ _ _]) (out' := .tup [.agg [_, _, _, .ref 6 _ _ _, .ref 7 _ _ _], _]) (H' := [(6, .row _ _ _), (7, .row _ _ _), (5, _), (3, _), (4, _), (0, _), (1, _), (2, _)]) (nx' := 8) [3, 4] rfl rfl rfl rfl rfl rfl rfl rfl rfl (by (repeat' apply And.intro) <;> first | trivial | rfl | exact flat_len (fun _ => rfl) _ | exact encI_len _ | exact Nat.le_of_ble_eq_true rfl | assumption) (choose_ok ((chooseD D x.f0 x.f1 x.f2).1) x.f0 3 0) rfl (by decide) rfl rfl ⟨encI_solid, encI_solid, trivial⟩ rfl rfl rfl rfl ?_
         refine step_r rfl rfl trivial (step_r rfl rfl trivial (step_r rfl rfl trivial (step_n (o := .box [_, _, _, _, _]) (nx' := 9) rfl rfl rfl trivial ?_)))
         refine step_storeB (H' := [(8, .box [_, _, _, _, _]), (6, _), (7, _), (5, _), (3, _), (4, _), (0, _), (1, _), (2, _)]) rfl rfl rfl rfl rfl rfl (.inr (by decide +kernel)) rfl ?_
         refine step_r rfl rfl trivial (step_nil (seqK_n (sem_seq (sem_seq (sem_region rfl (step_r rfl rfl trivial (step_bin rfl rfl rfl rfl rfl trivial (step_nil (seqK_n ?_)))))))))
         refine sem_cond rfl (fun h21 => ?_) (fun h21 => ?_)
         ·have h := h21
          rw [r6] at h; simp at h
         ·have g21 := h21
          try simp at g21
          refine sem_skip (seqK_n (sem_region rfl (step_r (v := (.agg [_, _, _, _, _])) rfl rfl (Nat.le_of_ble_eq_true rfl) ?_)))
          refine step_storeB (H' := [(8, _), (6, _), (7, _), (5, _), (3, _), (4, _), (0, _), (1, _), (2, .box [_, _, _, _, _])]) rfl rfl rfl rfl rfl rfl (.inl rfl) rfl ?_
          refine step_nil (seqK_n (sem_seq (sem_region rfl (step_r rfl rfl trivial (step_r rfl rfl trivial (step_r rfl rfl trivial (step_bin rfl rfl rfl rfl rfl trivial (step_r rfl rfl trivial ?_))))))))
          refine step_gs rfl (fun h23 => ?_) (fun h23 => ?_)
          ·have h := h23
           rw [hwz] at h
           simp at h; omega
          ·have g23 := h23
           try simp at g23
           refine step_g1 rfl h23 (step_r (v := (.agg [_, _, _, _, _])) rfl rfl (Nat.le_of_ble_eq_true rfl) (step_g1 rfl h23 ?_))
           refine step_callJ (Hin := [.row _ _ _, .row _ _ _]) (H' := [(8, _), (6, _), (7, _), (5, _), (3, _), (4, _), (0, _), (1, _), (2, _)]) (nx' := 9) [3, 4] rfl rfl rfl rfl rfl rfl rfl rfl rfl (by (repeat' apply And.intro) <;> first | trivial | rfl | exact flat_len (fun _ => rfl) _ | exact encI_len _ | exact Nat.le_of_ble_eq_true rfl | assumption) (over_ok ((chooseD D x.f0 x.f1 x.f2).1) 0) rfl (by decide) rfl rfl trivial rfl rfl rfl rfl ?_
           refine step_g1 rfl h23 (step_r rfl rfl trivial (step_g1 rfl h23 (step_r rfl rfl trivial (step_g1 rfl h23 (step_r rfl rfl trivial (step_g1 rfl h23 (step_bin rfl rfl rfl rfl rfl trivial (step_g1 rfl h23 (step_bin rfl rfl rfl rfl rfl trivial (step_pickF rfl h23 rfl rfl (step_r rfl rfl trivial ?_)))))))))))
           refine step_gs rfl (fun h25 => ?_) (fun h25 => ?_)
           ·have h := h25
            rw [hv0, hwz] at h
            simp at h
            replace h := h (by rw [Bool.eq_iff_iff]; simp)
            exact h.elim
           ·have g25 := h25
            try simp at g25
            refine step_g1 rfl h25 (step_r (v := (.agg [_, _, _, _, _])) rfl rfl (Nat.le_of_ble_eq_true rfl) (step_g1 rfl h25 ?_))
            refine step_callJ (Hin := [.row _ _ _, .row _ _ _]) (H' := [(8, _), (6, _), (7, _), (5, _), (3, _), (4, _), (0, _), (1, _), (2, _)]) (nx' := 9) [3, 4] rfl rfl rfl rfl rfl rfl rfl rfl rfl (by (repeat' apply And.intro) <;> first | trivial | rfl | exact flat_len (fun _ => rfl) _ | exact encI_len _ | exact Nat.le_of_ble_eq_true rfl | assumption) (over_ok ((chooseD D x.f0 x.f1 x.f2).1) 50) rfl (by decide) rfl rfl trivial rfl rfl rfl rfl ?_
            refine step_g1 rfl h25 (step_r rfl rfl trivial (step_pickF rfl h25 rfl rfl (step_nil (seqK_n ?_))))
            refine sem_cond rfl (fun h27 => ?_) (fun h27 => ?_)
            ·have h := h27
             rw [hv5] at h
             simp at h
            ·have g27 := h27
             try simp at g27
             refine sem_skip (blkK_n (seqK_n (sem_region rfl (step_r rfl rfl trivial (step_bin rfl rfl rfl rfl rfl trivial (step_r rfl rfl trivial (step_nil ?_)))))))
             exact lup_againT (k+1, (chooseD D x.f0 x.f1 x.f2).1) (⟨hk, r1, by rw [r3]; exact hU, by rw [r4]; exact hT⟩) (by show steps.length - (k + 1) < steps.length - k; omega) (Trans.ren [(0, 3), (1, 4)] (by decide +kernel) (by decide +kernel) rfl ⟨⟨rfl, rfl⟩, ⟨rfl, rfl⟩, ⟨rfl, rfl⟩, ⟨rfl, rfl⟩, ⟨congrArg (fun n => some (I n)) (by rw [IntKind.wrap_i64, r5]; push_cast; omega), rfl⟩, ⟨congrArg (fun n => some (I n)) (wrapK hk (by assumption)), rfl⟩, trivial⟩ ⟨⟨rfl, rfl, rfl⟩, ⟨rfl, rfl, rfl⟩, ⟨rfl, rfl, rfl⟩, trivial⟩ (by decide))
     ·have g11 := h11
      try simp at g11
      have hDl : D.Units.length = units.length := (by rw [hU])
      have hTl : D.Until = 50 := hT
      have hcl : D.Choices.length = D.Units.length := by assumption
      have hvD : 0 = 0 := rfl
      have hv0 : overD D 0 = decide ((nz D.Choices : Int) = (units.length : Int)) := by rw [over_nz hcl, hTl, hDl, Bool.eq_iff_iff]; simp; omega
      have hv5 : overD D 50 = true := by rw [over_nz hcl, hTl]; simp
      refine sem_skip (seqK_n (sem_seq (sem_region rfl (step_r rfl rfl trivial (step_r rfl rfl trivial (step_r rfl rfl trivial (step_bin rfl rfl rfl rfl rfl trivial (step_r rfl rfl trivial ?_))))))))
      refine step_gs rfl (fun h31 => ?_) (fun h31 => ?_)
      ·have h := h31
       simp at h; omega
      ·have g31 := h31
       try simp at g31
       refine step_g1 rfl h31 (step_r (v := (.agg [_, _, _, _, _])) rfl rfl (Nat.le_of_ble_eq_true rfl) (step_g1 rfl h31 ?_))
       refine step_callJ (Hin := [.row _ _ _, .row _ _ _]) (H' := [(5, _), (3, _), (4, _), (0, _), (1, _), (2, _)]) (nx' := 6) [0, 1] rfl rfl rfl rfl rfl rfl rfl rfl rfl (by (repeat' apply And.intro) <;> first | trivial | rfl | exact flat_len (fun _ => rfl) _ | exact encI_len _ | exact Nat.le_of_ble_eq_true rfl | assumption) (over_ok D 0) rfl (by decide) rfl rfl trivial rfl rfl rfl rfl ?_
       refine step_g1 rfl h31 (step_r rfl rfl trivial (step_g1 rfl h31 (step_r rfl rfl trivial (step_g1 rfl h31 (step_r rfl rfl trivial (step_g1 rfl h31 (step_bin rfl rfl rfl rfl rfl trivial (step_g1 rfl h31 (step_bin rfl rfl rfl rfl rfl trivial (step_pickF rfl h31 rfl rfl (step_r rfl rfl trivial ?_)))))))))))
       refine step_gs rfl (fun h33 => ?_) (fun h33 => ?_)
       ·have h := h33
        rw [hv0] at h
        simp at h
        replace h := h (by rw [Bool.eq_iff_iff]; simp)
        exact h.elim
       ·have g33 := h33
        try simp at g33
        refine step_g1 rfl h33 (step_r (v := (.agg [_, _, _, _, _])) rfl rfl (Nat.le_of_ble_eq_true rfl) (step_g1 rfl h33 ?_))
        refine step_callJ (Hin := [.row _ _ _, .row _ _ _]) (H' := [(5, _), (3, _), (4, _), (0, _), (1, _), (2, _)]) (nx' := 6) [0, 1] rfl rfl rfl rfl rfl rfl rfl rfl rfl (by (repeat' apply And.intro) <;> first | trivial | rfl | exact flat_len (fun _ => rfl) _ | exact encI_len _ | exact Nat.le_of_ble_eq_true rfl | assumption) (over_ok D 50) rfl (by decide) rfl rfl trivial rfl rfl rfl rfl ?_
        refine step_g1 rfl h33 (step_r rfl rfl trivial (step_pickF rfl h33 rfl rfl (step_nil (seqK_n ?_))))
        refine sem_cond rfl (fun h35 => ?_) (fun h35 => ?_)
        ·have h := h35
         rw [hv5] at h
         simp at h
        ·have g35 := h35
         try simp at g35
         refine sem_skip (blkK_n (seqK_n (sem_region rfl (step_r rfl rfl trivial (step_bin rfl rfl rfl rfl rfl trivial (step_r rfl rfl trivial (step_nil ?_)))))))
         exact lup_again (k+1, D) (⟨hk, hr, hU, hT⟩) (by show steps.length - (k + 1) < steps.length - k; omega) (less_of rfl ⟨⟨rfl, rfl⟩, ⟨rfl, rfl⟩, ⟨rfl, rfl⟩, ⟨rfl, rfl⟩, ⟨rfl, rfl⟩, ⟨congrArg (fun n => some (I n)) (wrapK hk (by assumption)), rfl⟩, trivial⟩ ⟨⟨rfl, rfl, rfl⟩, ⟨rfl, rfl, rfl⟩, ⟨rfl, rfl, rfl⟩, trivial⟩ (fun _ _ => .inr (Nat.zero_le _)))
    ·obtain ⟨i1, hr, hU, hT⟩ := hI
     have hrl := hr.2.2.1
     have hrc := hr.2.2.2.1
     have hnl := nz_le D.Choices
     refine sem_exit (seqK_e (lupK_e (blkK_t rfl (seqK_n (sem_seq (sem_region rfl (step_r rfl rfl trivial (step_r rfl rfl trivial ?_))))))))
     refine step_gs rfl (fun h38 => ?_) (fun h38 => ?_)
     ·have g38 := h38
      try simp at g38
      refine step_g1 rfl h38 (step_r (v := (.agg [_, _, _, _, _])) rfl rfl (Nat.le_of_ble_eq_true rfl) (step_g1 rfl h38 ?_))
      refine step_callJ (Hin := [.row _ _ _, .row _ _ _]) (out' := .ref 3 _ _ _) (H' := [(3, .row _ _ _), (0, _), (1, _), (2, _)]) (nx' := 4) [0, 1] rfl rfl rfl rfl rfl rfl rfl rfl rfl (by (repeat' apply And.intro) <;> first | trivial | rfl | exact flat_len (fun _ => rfl) _ | exact encI_len _ | exact Nat.le_of_ble_eq_true rfl | assumption) (best_ok D) rfl (by decide) rfl rfl ⟨encI_solid, trivial⟩ rfl rfl rfl rfl ?_
      refine step_g1 rfl h38 (step_r rfl rfl trivial (step_g1 rfl h38 (step_r rfl rfl trivial (step_g1 rfl h38 (step_bin rfl rfl rfl rfl rfl trivial (step_pickT rfl h38 rfl rfl (step_r rfl rfl trivial (step_nil (seqK_n (sem_ret ?_))))))))))
      exact answersR rfl ⟨trivial, trivial⟩ (congrArg B (decide_eq_true (by have := best_nz D; omega))) rfl
     ·have h := h38
      simp at h
end Go.Proofs.Ytkaikflohpbcnaa

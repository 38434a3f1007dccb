import Derived.Test.YtghnjjbhcmcocaaDoorCommand
namespace Go.Proofs.YtghnjjbhcmcocaaDoor
open Go Go.RowKit Go.Proofs.YtghnjjbhcmcocaaDoorVm
attribute [local irreducible] opsWp AnswersE OpsS
set_option maxHeartbeats 400000
set_option maxRecDepth 100000
set_option linter.all false
def small11 : Bool :=
  if ((encC (⟨2, [], 3, (-1)⟩ : GCommand)).2 : Int) = 0 then (if ((encC (⟨2, [], 3, (-1)⟩ : GCommand)).1) = ([2, 6, 1]) then (if ((decC ([(1 : UInt8), (97 : UInt8), (98 : UInt8)])).2 : Int) = 0 then (if (((((decC ([(1 : UInt8), (97 : UInt8), (98 : UInt8)])).1).Do) == 1) && (((((decC ([(1 : UInt8), (97 : UInt8), (98 : UInt8)])).1).Text) == ([97, 98])) && (((((decC ([(1 : UInt8), (97 : UInt8), (98 : UInt8)])).1).A) == 0) && (((((decC ([(1 : UInt8), (97 : UInt8), (98 : UInt8)])).1).B) == 0) && true)))) = true then (if ((decC ([(4 : UInt8), (0 : UInt8)])).2 : Int) = 2 then (if nameC ([97, 45, 66, 57]) = true then (!(nameC ([97, 32, 98]))) else false) else false) else false) else false) else false) else false
theorem small11_ok  : Ok Tryd.prog 6 [] [] (B (small11)) [] [] := by
 refine ok_of_sem Tryd.func6 rfl ?_
 show Walks Tryd.prog _ _ ⟨[], [], 0, [], 49, 0⟩
 refine sem_seq (sem_region rfl (step_r rfl rfl trivial (step_nil (seqK_n (sem_seq (sem_region rfl (step_r (v := (.agg [_, _, _, _])) rfl rfl trivial ?_)))))))
 refine step_callN (out' := .tup [.ref 0 _ _ _, _]) (H' := [(0, .row _ _ _)]) (nx' := 1) rfl rfl rfl rfl rfl rfl rfl (by (repeat' apply And.intro) <;> first | trivial | rfl | exact flat_len (fun _ => rfl) _ | exact encI_len _ | exact encB_len _ | exact encY_len _ | exact Nat.le_of_ble_eq_true rfl | assumption) (encC_ok (⟨2, [], 3, (-1)⟩ : GCommand)) rfl rfl rfl rfl ?_
 have p1 := encC_len (⟨2, [], 3, (-1)⟩ : GCommand)
 refine step_r rfl rfl trivial (step_r rfl rfl trivial (step_r rfl rfl trivial (step_r rfl rfl trivial (step_r rfl rfl trivial (step_nil (seqK_n (sem_seq (sem_region rfl (step_n (o := .row _ _ [_, _, _]) (nx' := 2) rfl rfl rfl (by decide) ?_)))))))))
 refine step_callJ (Hin := [.row _ _ _]) (out' := .tup [(.agg [_, _, _, _]), _]) (H' := [(1, _), (0, _)]) (nx' := 2) [1] rfl rfl rfl rfl rfl rfl rfl rfl rfl (by (repeat' apply And.intro) <;> first | trivial | rfl | exact flat_len (fun _ => rfl) _ | exact encI_len _ | exact encB_len _ | exact encY_len _ | exact Nat.le_of_ble_eq_true rfl | assumption) (decC_ok ([(1 : UInt8), (97 : UInt8), (98 : UInt8)]) false) rfl (by decide) rfl rfl trivial rfl rfl rfl rfl ?_
 refine step_r rfl rfl trivial (step_r rfl rfl trivial (step_r rfl rfl trivial (step_n (o := .box [_, _, _, _]) (nx' := 3) rfl rfl rfl trivial ?_)))
 refine step_storeB (H' := [(2, .box [_, _, _, _]), (1, _), (0, _)]) rfl rfl rfl rfl rfl rfl (.inl rfl) rfl ?_
 refine step_r rfl rfl trivial (step_nil (seqK_n (sem_seq (sem_region rfl (step_n (o := .row _ _ [_, _]) (nx' := 4) rfl rfl rfl (by decide) ?_)))))
 refine step_callJ (Hin := [.row _ _ _]) (out' := .tup [(.agg [_, _, _, _]), _]) (H' := [(3, _), (2, _), (1, _), (0, _)]) (nx' := 4) [3] rfl rfl rfl rfl rfl rfl rfl rfl rfl (by (repeat' apply And.intro) <;> first | trivial | rfl | exact flat_len (fun _ => rfl) _ | exact encI_len _ | exact encB_len _ | exact encY_len _ | exact Nat.le_of_ble_eq_true rfl | assumption) (decC_ok ([(4 : UInt8), (0 : UInt8)]) false) rfl (by decide) rfl rfl trivial rfl rfl rfl rfl ?_
 refine step_r rfl rfl trivial (step_r rfl rfl trivial (step_r rfl rfl trivial (step_n (o := .box [_, _, _, _]) (nx' := 5) rfl rfl rfl trivial ?_)))
 refine step_storeB (H' := [(4, .box [_, _, _, _]), (3, _), (2, _), (1, _), (0, _)]) rfl rfl rfl rfl rfl rfl (.inl rfl) rfl ?_
 refine step_r rfl rfl trivial (step_nil (seqK_n (sem_seq (sem_region rfl (step_r rfl rfl trivial (step_bin rfl rfl rfl rfl rfl trivial (step_r rfl rfl trivial ?_)))))))
 refine step_gs rfl (fun h6 => ?_) (fun h6 => ?_)
 ·have g6 : ((encC (⟨2, [], 3, (-1)⟩ : GCommand)).2 : Int) = 0 := beq_t h6
  refine step_g1 rfl h6 (step_r rfl rfl trivial (step_g1 rfl h6 ?_))
  refine step_cstrR (l := (encC (⟨2, [], 3, (-1)⟩ : GCommand)).1) rfl rfl rfl rfl rfl rfl ?_
  refine step_g1 rfl h6 (step_bin rfl rfl rfl rfl rfl trivial (step_pickT rfl h6 rfl rfl (step_r rfl rfl trivial ?_)))
  refine step_gs rfl (fun h8 => ?_) (fun h8 => ?_)
  ·have g8 : ((encC (⟨2, [], 3, (-1)⟩ : GCommand)).1) = ([2, 6, 1]) := beq_t h8
   refine step_g1 rfl h8 (step_r rfl rfl trivial (step_g1 rfl h8 (step_bin rfl rfl rfl rfl rfl trivial (step_pickT rfl h8 rfl rfl (step_r rfl rfl trivial ?_)))))
   refine step_gs rfl (fun h10 => ?_) (fun h10 => ?_)
   ·have g10 : ((decC ([(1 : UInt8), (97 : UInt8), (98 : UInt8)])).2 : Int) = 0 := beq_t h10
    refine step_g1 rfl h10 (step_r (v := (.agg [_, _, _, _])) rfl rfl (Nat.le_of_ble_eq_true rfl) (step_g1 rfl h10 (step_r (v := (.agg [_, _, _, _])) rfl rfl trivial (step_g1 rfl h10 ?_))))
    refine step_eqlA rfl rfl rfl (by kernel_rfl) rfl rfl rfl rfl rfl ?_
    refine step_pickT rfl h10 rfl rfl (step_r rfl rfl trivial ?_)
    refine step_gs rfl (fun h12 => ?_) (fun h12 => ?_)
    ·have g12 : (((((decC ([(1 : UInt8), (97 : UInt8), (98 : UInt8)])).1).Do) == 1) && (((((decC ([(1 : UInt8), (97 : UInt8), (98 : UInt8)])).1).Text) == ([97, 98])) && (((((decC ([(1 : UInt8), (97 : UInt8), (98 : UInt8)])).1).A) == 0) && (((((decC ([(1 : UInt8), (97 : UInt8), (98 : UInt8)])).1).B) == 0) && true)))) = true := h12
     refine step_g1 rfl h12 (step_r rfl rfl trivial (step_g1 rfl h12 (step_bin rfl rfl rfl rfl rfl trivial (step_pickT rfl h12 rfl rfl (step_r rfl rfl trivial ?_)))))
     refine step_gs rfl (fun h14 => ?_) (fun h14 => ?_)
     ·have g14 : ((decC ([(4 : UInt8), (0 : UInt8)])).2 : Int) = 2 := beq_t h14
      refine step_g1 rfl h14 (step_call rfl rfl rfl rfl (nameC_ok ([97, 45, 66, 57])) rfl rfl rfl (step_pickT rfl h14 rfl rfl (step_r rfl rfl trivial ?_)))
      refine step_gs rfl (fun h16 => ?_) (fun h16 => ?_)
      ·have g16 : nameC ([97, 45, 66, 57]) = true := h16
       refine step_g1 rfl h16 (step_call rfl rfl rfl rfl (nameC_ok ([97, 32, 98])) rfl rfl rfl (step_g1 rfl h16 (step_r rfl rfl trivial (step_pickT rfl h16 rfl rfl (step_r rfl rfl trivial (step_nil (seqK_n (sem_ret ?_))))))))
       have e18 : small11 = (!(nameC ([97, 32, 98]))) := by
        unfold small11
        try dsimp only
        rewrite [if_pos g6, if_pos g8, if_pos g10, if_pos g12, if_pos g14, if_pos g16]
        all_goals rfl
       rw [e18]
       exact answersR rfl ⟨trivial, trivial⟩ (rfl) rfl
      ·have g16 : ¬ (nameC ([97, 45, 66, 57]) = true) := boo_f h16
       refine step_g0 rfl h16 rfl (step_g0 rfl h16 rfl (step_pickF rfl h16 rfl rfl (step_r rfl rfl trivial (step_nil (seqK_n (sem_ret ?_))))))
       have e19 : small11 = false := by
        unfold small11
        try dsimp only
        rewrite [if_pos g6, if_pos g8, if_pos g10, if_pos g12, if_pos g14, if_neg g16]
        all_goals rfl
       rw [e19]
       exact answersR rfl ⟨trivial, trivial⟩ (rfl) rfl
     ·have g14 : ¬ (((decC ([(4 : UInt8), (0 : UInt8)])).2 : Int) = 2) := beq_f h14
      refine step_g0 rfl h14 rfl (step_pickF rfl h14 rfl rfl (step_r rfl rfl trivial (step_gf rfl rfl (step_gf rfl rfl (step_r rfl rfl trivial (step_r rfl rfl trivial (step_nil (seqK_n (sem_ret ?_)))))))))
      have e20 : small11 = false := by
       unfold small11
       try dsimp only
       rewrite [if_pos g6, if_pos g8, if_pos g10, if_pos g12, if_neg g14]
       all_goals rfl
      rw [e20]
      exact answersR rfl ⟨trivial, trivial⟩ (rfl) rfl
    ·have g12 : ¬ ((((((decC ([(1 : UInt8), (97 : UInt8), (98 : UInt8)])).1).Do) == 1) && (((((decC ([(1 : UInt8), (97 : UInt8), (98 : UInt8)])).1).Text) == ([97, 98])) && (((((decC ([(1 : UInt8), (97 : UInt8), (98 : UInt8)])).1).A) == 0) && (((((decC ([(1 : UInt8), (97 : UInt8), (98 : UInt8)])).1).B) == 0) && true)))) = true) := boo_f h12
     refine step_g0 rfl h12 rfl (step_g0 rfl h12 rfl (step_pickF rfl h12 rfl rfl (step_r rfl rfl trivial (step_gf rfl rfl (step_r rfl rfl trivial (step_r rfl rfl trivial (step_gf rfl rfl (step_gf rfl rfl (step_r rfl rfl trivial (step_r rfl rfl trivial (step_nil ?_)))))))))))
     refine seqK_n (sem_ret ?_)
     have e21 : small11 = false := by
      unfold small11
      try dsimp only
      rewrite [if_pos g6, if_pos g8, if_pos g10, if_neg g12]
      all_goals rfl
     rw [e21]
     exact answersR rfl ⟨trivial, trivial⟩ (rfl) rfl
   ·have g10 : ¬ (((decC ([(1 : UInt8), (97 : UInt8), (98 : UInt8)])).2 : Int) = 0) := beq_f h10
    refine step_g0 rfl h10 rfl (step_g0 rfl h10 rfl (step_g0 rfl h10 rfl (step_pickF rfl h10 rfl rfl (step_r rfl rfl trivial (step_gf rfl rfl (step_gf rfl rfl (step_r rfl rfl trivial (step_r rfl rfl trivial (step_gf rfl rfl (step_r rfl rfl trivial (step_r rfl rfl trivial ?_)))))))))))
    refine step_gf rfl rfl (step_gf rfl rfl (step_r rfl rfl trivial (step_r rfl rfl trivial (step_nil (seqK_n (sem_ret ?_))))))
    have e22 : small11 = false := by
     unfold small11
     try dsimp only
     rewrite [if_pos g6, if_pos g8, if_neg g10]
     all_goals rfl
    rw [e22]
    exact answersR rfl ⟨trivial, trivial⟩ (rfl) rfl
  ·have g8 : ¬ (((encC (⟨2, [], 3, (-1)⟩ : GCommand)).1) = ([2, 6, 1])) := beq_f h8
   refine step_g0 rfl h8 rfl (step_g0 rfl h8 rfl (step_pickF rfl h8 rfl rfl (step_r rfl rfl trivial (step_gf rfl rfl (step_gf rfl rfl (step_gf rfl rfl (step_r rfl rfl trivial (step_r rfl rfl trivial (step_gf rfl rfl (step_gf rfl rfl (step_r rfl rfl trivial ?_)))))))))))
   refine step_r rfl rfl trivial (step_gf rfl rfl (step_r rfl rfl trivial (step_r rfl rfl trivial (step_gf rfl rfl (step_gf rfl rfl (step_r rfl rfl trivial (step_r rfl rfl trivial (step_nil (seqK_n (sem_ret ?_))))))))))
   have e23 : small11 = false := by
    unfold small11
    try dsimp only
    rewrite [if_pos g6, if_neg g8]
    all_goals rfl
   rw [e23]
   exact answersR rfl ⟨trivial, trivial⟩ (rfl) rfl
 ·have g6 : ¬ (((encC (⟨2, [], 3, (-1)⟩ : GCommand)).2 : Int) = 0) := beq_f h6
  refine step_g0 rfl h6 rfl (step_g0 rfl h6 rfl (step_g0 rfl h6 rfl (step_pickF rfl h6 rfl rfl (step_r rfl rfl trivial (step_gf rfl rfl (step_gf rfl rfl (step_r rfl rfl trivial (step_r rfl rfl trivial (step_gf rfl rfl (step_gf rfl rfl (step_gf rfl rfl ?_)))))))))))
  refine step_r rfl rfl trivial (step_r rfl rfl trivial (step_gf rfl rfl (step_gf rfl rfl (step_r rfl rfl trivial (step_r rfl rfl trivial (step_gf rfl rfl (step_r rfl rfl trivial (step_r rfl rfl trivial (step_gf rfl rfl (step_gf rfl rfl (step_r rfl rfl trivial ?_)))))))))))
  refine step_r rfl rfl trivial (step_nil (seqK_n (sem_ret ?_)))
  have e24 : small11 = false := by
   unfold small11
   try dsimp only
   rewrite [if_neg g6]
   all_goals rfl
  rw [e24]
  exact answersR rfl ⟨trivial, trivial⟩ (rfl) rfl

def reads11 (load : List UInt8) : Bool :=
  if (load.length : Int) > 2048 then (small11) else if small11 = true then (if (((((decC load).1).Do) == (((decR load).1).Do)) && (((((decC load).1).Text) == (((decR load).1).Text)) && (((((decC load).1).A) == (((decR load).1).A)) && (((((decC load).1).B) == (((decR load).1).B)) && true)))) = true then (if ((decC load).2 : Int) = ((decR load).2) then (load == load) else false) else false) else false
theorem reads11_ok (load : List UInt8) (load_f : Bool) : Ok Tryd.prog 4 [.pv (.slc load.length load_f (encY load))] [] (B (reads11 load)) [] [] := by
 refine Ok.len fun hlen => ?_
 have hl_load : load.length ≤ maxLen := hlen _ (by simp [lensL, lens, lensP])
 unfold maxLen at hl_load
 refine ok_of_sem Tryd.func4 rfl ?_
 show Walks Tryd.prog _ _ ⟨[(0, .pv (.slc load.length load_f (encY load)))], [], 0, [], 45, 0⟩
 refine sem_seq (sem_region rfl (step_r rfl rfl trivial (step_nil (seqK_n (sem_seq (sem_region rfl (step_call rfl rfl rfl rfl (small11_ok ) rfl rfl rfl (step_r rfl rfl trivial (step_nil (seqK_n (sem_seq ?_)))))))))))
 refine sem_seq (sem_region rfl (step_r rfl rfl trivial (step_r rfl rfl trivial (step_bin rfl rfl rfl rfl rfl trivial (step_nil (seqK_n ?_))))))
 refine sem_cond rfl (fun h2 => ?_) (fun h2 => ?_)
 ·have g2 : (load.length : Int) > 2048 := of_decide_eq_true h2
  refine sem_seq (sem_region rfl (step_r rfl rfl trivial (step_r rfl rfl trivial (step_nil (seqK_n (sem_ret (seqK_r ?_)))))))
  have e3 : reads11 load = (small11) := by
   unfold reads11
   try dsimp only
   rewrite [if_pos g2]
   all_goals rfl
  rw [e3]
  exact answersR rfl ⟨trivial, trivial⟩ (rfl) rfl
 ·have g2 : ¬ ((load.length : Int) > 2048) := of_decide_eq_false h2
  refine sem_skip (seqK_n (sem_seq (sem_region rfl (step_r rfl rfl ⟨by decide, rfl⟩ (step_r rfl rfl trivial ?_)))))
  refine step_appendN (m := load.length) (new := encY load) (cs' := encY load) (n' := load.length) rfl rfl (rfl) rfl rfl rfl rfl rfl rfl (encY_len load) (by first | decide | (unfold maxGrow; omega) | (unfold maxGrow; simp; omega) | (unfold maxGrow; simp only [List.length_append, List.length_take, List.length_drop, List.length_cons, List.length_nil, IntKind.wrap_i64] at *; omega)) rfl rfl rfl rfl ?_
  refine step_r rfl rfl trivial (step_nil (seqK_n (sem_seq (sem_region rfl (step_r rfl rfl trivial ?_)))))
  refine step_callJ (Hin := [.row _ _ _]) (out' := .tup [(.agg [_, _, _, _]), _]) (H' := [(0, _)]) (nx' := 1) [0] rfl rfl rfl rfl rfl rfl rfl rfl rfl (by (repeat' apply And.intro) <;> first | trivial | rfl | exact flat_len (fun _ => rfl) _ | exact encI_len _ | exact encB_len _ | exact encY_len _ | exact Nat.le_of_ble_eq_true rfl | assumption) (decC_ok load false) rfl (by decide) rfl rfl trivial rfl rfl rfl rfl ?_
  refine step_r rfl rfl trivial (step_r rfl rfl trivial (step_r rfl rfl trivial (step_n (o := .box [_, _, _, _]) (nx' := 2) rfl rfl rfl trivial ?_)))
  refine step_storeB (H' := [(1, .box [_, _, _, _]), (0, _)]) rfl rfl rfl rfl rfl rfl (.inl rfl) rfl ?_
  refine step_r rfl rfl trivial (step_nil (seqK_n (sem_seq (sem_region rfl (step_r rfl rfl trivial (step_call rfl rfl rfl rfl (decR_ok load load_f (by first | assumption | omega | (simp only [IntKind.wrap_i64] at *; omega) | (simp; omega))) rfl rfl rfl (step_r rfl rfl trivial (step_r rfl rfl trivial (step_r rfl rfl trivial (step_n (o := .box [_, _, _, _]) (nx' := 3) rfl rfl rfl trivial ?_))))))))))
  refine step_storeB (H' := [(2, .box [_, _, _, _]), (1, _), (0, _)]) rfl rfl rfl rfl rfl rfl (.inl rfl) rfl ?_
  refine step_r rfl rfl trivial (step_nil (seqK_n (sem_seq (sem_region rfl (step_r rfl rfl trivial (step_r rfl rfl trivial ?_))))))
  refine step_gs rfl (fun h6 => ?_) (fun h6 => ?_)
  ·have g6 : small11 = true := h6
   refine step_g1 rfl h6 (step_r (v := (.agg [_, _, _, _])) rfl rfl (Nat.le_of_ble_eq_true rfl) (step_g1 rfl h6 (step_r (v := (.agg [_, _, _, _])) rfl rfl (Nat.le_of_ble_eq_true rfl) (step_g1 rfl h6 ?_))))
   refine step_eqlA rfl rfl rfl (by kernel_rfl) rfl rfl rfl rfl rfl ?_
   refine step_pickT rfl h6 rfl rfl (step_r rfl rfl trivial ?_)
   refine step_gs rfl (fun h8 => ?_) (fun h8 => ?_)
   ·have g8 : (((((decC load).1).Do) == (((decR load).1).Do)) && (((((decC load).1).Text) == (((decR load).1).Text)) && (((((decC load).1).A) == (((decR load).1).A)) && (((((decC load).1).B) == (((decR load).1).B)) && true)))) = true := h8
    refine step_g1 rfl h8 (step_r rfl rfl trivial (step_g1 rfl h8 (step_r rfl rfl trivial (step_g1 rfl h8 (step_bin rfl rfl rfl rfl rfl trivial (step_pickT rfl h8 rfl rfl (step_r rfl rfl trivial ?_)))))))
    refine step_gs rfl (fun h10 => ?_) (fun h10 => ?_)
    ·have g10 : ((decC load).2 : Int) = ((decR load).2) := beq_t h10
     refine step_g1 rfl h10 (step_r rfl rfl trivial (step_g1 rfl h10 ?_))
     refine step_cstrR (l := load) rfl rfl rfl rfl rfl rfl ?_
     refine step_g1 rfl h10 (step_r rfl rfl trivial (step_g1 rfl h10 ?_))
     refine step_cstr (l := load) rfl rfl rfl rfl rfl ?_
     refine step_g1 rfl h10 (step_bin rfl rfl rfl rfl rfl trivial (step_pickT rfl h10 rfl rfl (step_r rfl rfl trivial (step_nil (seqK_n (sem_ret ?_))))))
     have e12 : reads11 load = (load == load) := by
      unfold reads11
      try dsimp only
      rewrite [if_neg g2, if_pos g6, if_pos g8, if_pos g10]
      all_goals rfl
     rw [e12]
     exact answersR rfl ⟨trivial, trivial⟩ (rfl) rfl
    ·have g10 : ¬ (((decC load).2 : Int) = ((decR load).2)) := beq_f h10
     refine step_g0 rfl h10 rfl (step_g0 rfl h10 rfl (step_g0 rfl h10 rfl (step_g0 rfl h10 rfl (step_g0 rfl h10 rfl (step_pickF rfl h10 rfl rfl (step_r rfl rfl trivial (step_nil (seqK_n (sem_ret ?_)))))))))
     have e13 : reads11 load = false := by
      unfold reads11
      try dsimp only
      rewrite [if_neg g2, if_pos g6, if_pos g8, if_neg g10]
      all_goals rfl
     rw [e13]
     exact answersR rfl ⟨trivial, trivial⟩ (rfl) rfl
   ·have g8 : ¬ ((((((decC load).1).Do) == (((decR load).1).Do)) && (((((decC load).1).Text) == (((decR load).1).Text)) && (((((decC load).1).A) == (((decR load).1).A)) && (((((decC load).1).B) == (((decR load).1).B)) && true)))) = true) := boo_f h8
    refine step_g0 rfl h8 rfl (step_g0 rfl h8 rfl (step_g0 rfl h8 rfl (step_pickF rfl h8 rfl rfl (step_r rfl rfl trivial (step_gf rfl rfl (step_gf rfl rfl (step_gf rfl rfl (step_gf rfl rfl (step_gf rfl rfl (step_r rfl rfl trivial (step_r rfl rfl trivial ?_)))))))))))
    refine step_nil (seqK_n (sem_ret ?_))
    have e14 : reads11 load = false := by
     unfold reads11
     try dsimp only
     rewrite [if_neg g2, if_pos g6, if_neg g8]
     all_goals rfl
    rw [e14]
    exact answersR rfl ⟨trivial, trivial⟩ (rfl) rfl
  ·have g6 : ¬ (small11 = true) := boo_f h6
   refine step_g0 rfl h6 rfl (step_g0 rfl h6 rfl (step_g0 rfl h6 rfl (step_pickF rfl h6 rfl rfl (step_r rfl rfl trivial (step_gf rfl rfl (step_gf rfl rfl (step_gf rfl rfl (step_r rfl rfl trivial (step_r rfl rfl trivial (step_gf rfl rfl (step_gf rfl rfl ?_)))))))))))
   refine step_gf rfl rfl (step_gf rfl rfl (step_gf rfl rfl (step_r rfl rfl trivial (step_r rfl rfl trivial (step_nil (seqK_n (sem_ret ?_)))))))
   have e15 : reads11 load = false := by
    unfold reads11
    try dsimp only
    rewrite [if_neg g2, if_neg g6]
    all_goals rfl
   rw [e15]
   exact answersR rfl ⟨trivial, trivial⟩ (rfl) rfl

def writes11 (c : GCommand) (s : List UInt8) : Bool :=
  if (IntKind.i64.wrap (c.Text.length + s.length) : Int) > 2048 then (small11) else if small11 = true then (if ((encC c).1) = ((encR c).1) then (if ((encC c).2 : Int) = ((encR c).2) then (if (rightC c) = (rightR c) then ((nameC s) == (nameR s)) else false) else false) else false) else false
theorem writes11_ok (c : GCommand) (s : List UInt8) (wc : c.Text.length ≤ 9223372036854775807) (ws : s.length ≤ 9223372036854775807) : Ok Tryd.prog 3 [aGCommand c, .pv (.str s)] [] (B (writes11 c s)) [] [] := by
 refine ok_of_sem Tryd.func3 rfl ?_
 show Walks Tryd.prog _ _ ⟨[(0, aGCommand c), (1, .pv (.str s))], [], 0, [], 56, 0⟩
 refine sem_seq (sem_region rfl (step_n (o := .box [_, _, _, _]) (nx' := 1) rfl rfl rfl trivial (step_r rfl rfl trivial (step_nil (seqK_n (sem_seq (sem_region rfl (step_call rfl rfl rfl rfl (small11_ok ) rfl rfl rfl (step_r rfl rfl trivial (step_nil (seqK_n ?_)))))))))))
 refine sem_seq (sem_seq (sem_region rfl (step_r rfl rfl (by decide) (step_r rfl rfl trivial (step_r rfl rfl trivial (step_r rfl rfl trivial (step_r rfl rfl trivial (step_bin rfl rfl rfl rfl rfl trivial (step_bin rfl rfl rfl rfl rfl trivial (step_nil (seqK_n ?_)))))))))))
 refine sem_cond rfl (fun h3 => ?_) (fun h3 => ?_)
 ·have g3 : (IntKind.i64.wrap (c.Text.length + s.length) : Int) > 2048 := of_decide_eq_true h3
  refine sem_seq (sem_region rfl (step_r rfl rfl trivial (step_r rfl rfl trivial (step_nil (seqK_n (sem_ret (seqK_r ?_)))))))
  have e4 : writes11 c s = (small11) := by
   unfold writes11
   try dsimp only
   rewrite [if_pos g3]
   all_goals rfl
  rw [e4]
  exact answersR rfl ⟨trivial, trivial⟩ (rfl) rfl
 ·have g3 : ¬ ((IntKind.i64.wrap (c.Text.length + s.length) : Int) > 2048) := of_decide_eq_false h3
  refine sem_skip (seqK_n (sem_seq (sem_region rfl (step_r (v := (.agg [_, _, _, _])) rfl rfl (Nat.le_of_ble_eq_true rfl) ?_))))
  refine step_callN (out' := .tup [.ref 1 _ _ _, _]) (H' := [(1, .row _ _ _), (0, _)]) (nx' := 2) rfl rfl rfl rfl rfl rfl rfl (by (repeat' apply And.intro) <;> first | trivial | rfl | exact flat_len (fun _ => rfl) _ | exact encI_len _ | exact encB_len _ | exact encY_len _ | exact Nat.le_of_ble_eq_true rfl | assumption) (encC_ok c) rfl rfl rfl rfl ?_
  have p5 := encC_len c
  refine step_r rfl rfl trivial (step_r rfl rfl trivial (step_r rfl rfl trivial (step_r rfl rfl trivial (step_r rfl rfl trivial (step_nil (seqK_n (sem_seq (sem_region rfl (step_r (v := (.agg [_, _, _, _])) rfl rfl (Nat.le_of_ble_eq_true rfl) ?_)))))))))
  refine step_callN (out' := .tup [.ref 2 _ _ _, _]) (H' := [(2, .row _ _ _), (1, _), (0, _)]) (nx' := 3) rfl rfl rfl rfl rfl rfl rfl (by (repeat' apply And.intro) <;> first | trivial | rfl | exact flat_len (fun _ => rfl) _ | exact encI_len _ | exact encB_len _ | exact encY_len _ | exact Nat.le_of_ble_eq_true rfl | assumption) (encR_ok c (by first | assumption | omega | (simp only [IntKind.wrap_i64] at *; omega) | (simp; omega))) rfl rfl rfl rfl ?_
  refine step_r rfl rfl trivial (step_r rfl rfl trivial (step_r rfl rfl trivial (step_r rfl rfl trivial (step_r rfl rfl trivial (step_nil (seqK_n (sem_seq ?_)))))))
  refine sem_drawn rfl (by decide +kernel) rfl ?_
  refine step_r rfl rfl trivial (step_r rfl rfl trivial ?_)
  refine step_gs rfl (fun h8 => ?_) (fun h8 => ?_)
  ·have g8 : small11 = true := h8
   refine step_g1 rfl h8 (step_r rfl rfl trivial (step_g1 rfl h8 ?_))
   refine step_cstrR (l := (encC c).1) rfl rfl rfl rfl rfl rfl ?_
   refine step_g1 rfl h8 (step_r rfl rfl trivial (step_g1 rfl h8 ?_))
   refine step_cstrR (l := (encR c).1) rfl rfl rfl rfl rfl rfl ?_
   refine step_g1 rfl h8 (step_bin rfl rfl rfl rfl rfl trivial (step_pickT rfl h8 rfl rfl (step_r rfl rfl trivial ?_)))
   refine step_gs rfl (fun h10 => ?_) (fun h10 => ?_)
   ·have g10 : ((encC c).1) = ((encR c).1) := beq_t h10
    refine step_g1 rfl h10 (step_r rfl rfl trivial (step_g1 rfl h10 (step_r rfl rfl trivial (step_g1 rfl h10 (step_bin rfl rfl rfl rfl rfl trivial (step_pickT rfl h10 rfl rfl (step_r rfl rfl trivial ?_)))))))
    refine step_gs rfl (fun h12 => ?_) (fun h12 => ?_)
    ·have g12 : ((encC c).2 : Int) = ((encR c).2) := beq_t h12
     refine step_g1 rfl h12 (step_r (v := (.agg [_, _, _, _])) rfl rfl (Nat.le_of_ble_eq_true rfl) (step_g1 rfl h12 (step_call rfl rfl rfl rfl (rightC_ok c) rfl rfl rfl (step_g1 rfl h12 (step_r (v := (.agg [_, _, _, _])) rfl rfl (Nat.le_of_ble_eq_true rfl) (step_g1 rfl h12 (step_call rfl rfl rfl rfl (rightR_ok c (by first | assumption | omega | (simp only [IntKind.wrap_i64] at *; omega) | (simp; omega))) rfl rfl rfl (step_g1 rfl h12 (step_bin rfl rfl rfl rfl rfl trivial (step_pickT rfl h12 rfl rfl (step_r rfl rfl trivial ?_)))))))))))
     refine step_gs rfl (fun h14 => ?_) (fun h14 => ?_)
     ·have g14 : (rightC c) = (rightR c) := beq_t h14
      refine step_g1 rfl h14 (step_r rfl rfl trivial (step_g1 rfl h14 (step_call rfl rfl rfl rfl (nameC_ok s) rfl rfl rfl (step_g1 rfl h14 (step_r rfl rfl trivial (step_g1 rfl h14 (step_call rfl rfl rfl rfl (nameR_ok s (by first | assumption | omega | (simp only [IntKind.wrap_i64] at *; omega) | (simp; omega))) rfl rfl rfl (step_g1 rfl h14 (step_bin rfl rfl rfl rfl rfl trivial (step_pickT rfl h14 rfl rfl (step_r rfl rfl trivial ?_)))))))))))
      refine step_nil (seqK_n (sem_ret ?_))
      have e16 : writes11 c s = ((nameC s) == (nameR s)) := by
       unfold writes11
       try dsimp only
       rewrite [if_neg g3, if_pos g8, if_pos g10, if_pos g12, if_pos g14]
       all_goals rfl
      rw [e16]
      exact answersR rfl ⟨trivial, trivial⟩ (rfl) rfl
     ·have g14 : ¬ ((rightC c) = (rightR c)) := beq_f h14
      refine step_g0 rfl h14 rfl (step_g0 rfl h14 rfl (step_g0 rfl h14 rfl (step_g0 rfl h14 rfl (step_g0 rfl h14 rfl (step_pickF rfl h14 rfl rfl (step_r rfl rfl trivial (step_nil (seqK_n (sem_ret ?_)))))))))
      have e17 : writes11 c s = false := by
       unfold writes11
       try dsimp only
       rewrite [if_neg g3, if_pos g8, if_pos g10, if_pos g12, if_neg g14]
       all_goals rfl
      rw [e17]
      exact answersR rfl ⟨trivial, trivial⟩ (rfl) rfl
    ·have g12 : ¬ (((encC c).2 : Int) = ((encR c).2)) := beq_f h12
     refine step_g0 rfl h12 rfl (step_g0 rfl h12 rfl (step_g0 rfl h12 rfl (step_g0 rfl h12 rfl (step_g0 rfl h12 rfl (step_pickF rfl h12 rfl rfl (step_r rfl rfl trivial (step_gf rfl rfl (step_gf rfl rfl (step_gf rfl rfl (step_gf rfl rfl (step_gf rfl rfl ?_)))))))))))
     refine step_r rfl rfl trivial (step_r rfl rfl trivial (step_nil (seqK_n (sem_ret ?_))))
     have e18 : writes11 c s = false := by
      unfold writes11
      try dsimp only
      rewrite [if_neg g3, if_pos g8, if_pos g10, if_neg g12]
      all_goals rfl
     rw [e18]
     exact answersR rfl ⟨trivial, trivial⟩ (rfl) rfl
   ·have g10 : ¬ (((encC c).1) = ((encR c).1)) := beq_f h10
    refine step_g0 rfl h10 rfl (step_g0 rfl h10 rfl (step_g0 rfl h10 rfl (step_pickF rfl h10 rfl rfl (step_r rfl rfl trivial (step_gf rfl rfl (step_gf rfl rfl (step_gf rfl rfl (step_gf rfl rfl (step_gf rfl rfl (step_r rfl rfl trivial (step_r rfl rfl trivial ?_)))))))))))
    refine step_gf rfl rfl (step_gf rfl rfl (step_gf rfl rfl (step_gf rfl rfl (step_gf rfl rfl (step_r rfl rfl trivial (step_r rfl rfl trivial (step_nil (seqK_n (sem_ret ?_)))))))))
    have e19 : writes11 c s = false := by
     unfold writes11
     try dsimp only
     rewrite [if_neg g3, if_pos g8, if_neg g10]
     all_goals rfl
    rw [e19]
    exact answersR rfl ⟨trivial, trivial⟩ (rfl) rfl
  ·have g8 : ¬ (small11 = true) := boo_f h8
   refine step_g0 rfl h8 rfl (step_g0 rfl h8 rfl (step_g0 rfl h8 rfl (step_g0 rfl h8 rfl (step_g0 rfl h8 rfl (step_pickF rfl h8 rfl rfl (step_r rfl rfl trivial (step_gf rfl rfl (step_gf rfl rfl (step_gf rfl rfl (step_r rfl rfl trivial (step_r rfl rfl trivial ?_)))))))))))
   refine step_gf rfl rfl (step_gf rfl rfl (step_gf rfl rfl (step_gf rfl rfl (step_gf rfl rfl (step_r rfl rfl trivial (step_r rfl rfl trivial (step_gf rfl rfl (step_gf rfl rfl (step_gf rfl rfl (step_gf rfl rfl (step_gf rfl rfl ?_)))))))))))
   refine step_r rfl rfl trivial (step_r rfl rfl trivial (step_nil (seqK_n (sem_ret ?_))))
   have e20 : writes11 c s = false := by
    unfold writes11
    try dsimp only
    rewrite [if_neg g3, if_neg g8]
    all_goals rfl
   rw [e20]
   exact answersR rfl ⟨trivial, trivial⟩ (rfl) rfl

def back11_J43 (c : GCommand) (d : GCommand) : Sum Bool Unit :=
  if (((encC c).2 : Int) == 0) = (rightC c) then (if ((encC c).2 : Int) = 0 then (if ((encC d).2 : Int) = 0 then (if ((((encC c).1) == ((encC d).1)) == ((c.Do == d.Do) && ((c.Text == d.Text) && ((c.A == d.A) && ((c.B == d.B) && true))))) = true then .inr () else .inl false) else .inr ()) else .inr ()) else .inl false
def back11_J67 (c : GCommand) : Sum Bool Unit :=
  if ((encC c).2 : Int) = 0 then (if ((decC ((encC c).1)).2 : Int) = 0 then (if (((((decC ((encC c).1)).1).Do) == c.Do) && (((((decC ((encC c).1)).1).Text) == c.Text) && (((((decC ((encC c).1)).1).A) == c.A) && (((((decC ((encC c).1)).1).B) == c.B) && true)))) = true then (if ((decC ((encC c).1 ++ [(0 : UInt8)])).2 : Int) = 2 then (if ((encC c).1.length : Int) > 4096 then .inl false else .inr ()) else .inl false) else .inl false) else .inl false) else .inr ()
def back11_J106 (load : List UInt8) : Bool :=
  if small11 = true then (((((decC load).1).Do) == 0) && (((((decC load).1).Text) == ([])) && (((((decC load).1).A) == 0) && (((((decC load).1).B) == 0) && true)))) else false
def back11 (c : GCommand) (d : GCommand) (load : List UInt8) : Bool :=
  if (IntKind.i64.wrap ((IntKind.i64.wrap (c.Text.length + d.Text.length)) + load.length) : Int) > 2048 then (small11) else (match back11_J43 c d with
    | .inl r_ => r_
    | .inr () => (match back11_J67 c with
    | .inl r_ => r_
    | .inr () => if ((decC load).2 : Int) = 0 then (if small11 = true then (if ((encC ((decC load).1)).2 : Int) = 0 then (((encC ((decC load).1)).1) == load) else false) else false) else (let t6_106 := back11_J106 load; t6_106)))
theorem back11_ok (c : GCommand) (d : GCommand) (load : List UInt8) (load_f : Bool) (wc : c.Text.length ≤ 9223372036854775807) (wd : d.Text.length ≤ 9223372036854775807) : Ok Tryd.prog 5 [aGCommand c, aGCommand d, .pv (.slc load.length load_f (encY load))] [] (B (back11 c d load)) [] [] := by
 refine Ok.len fun hlen => ?_
 have hl_load : load.length ≤ maxLen := hlen _ (by simp [lensL, lens, lensP])
 unfold maxLen at hl_load
 refine ok_of_sem Tryd.func5 rfl ?_
 show Walks Tryd.prog _ _ ⟨[(0, aGCommand c), (1, aGCommand d), (2, .pv (.slc load.length load_f (encY load)))], [], 0, [], 129, 0⟩
 refine sem_seq (sem_region rfl (step_n (o := .box [_, _, _, _]) (nx' := 1) rfl rfl rfl trivial (step_n (o := .box [_, _, _, _]) (nx' := 2) rfl rfl rfl trivial (step_r rfl rfl trivial (step_nil (seqK_n (sem_seq (sem_region rfl (step_call rfl rfl rfl rfl (small11_ok ) rfl rfl rfl (step_r rfl rfl trivial (step_nil ?_)))))))))))
 refine seqK_n (sem_seq (sem_seq (sem_region rfl (step_r rfl rfl (by decide) (step_r rfl rfl trivial (step_r rfl rfl trivial (step_r rfl rfl (by decide) (step_r rfl rfl trivial (step_r rfl rfl trivial (step_bin rfl rfl rfl rfl rfl trivial (step_r rfl rfl trivial ?_)))))))))))
 refine step_r rfl rfl trivial (step_bin rfl rfl rfl rfl rfl trivial (step_bin rfl rfl rfl rfl rfl trivial (step_nil (seqK_n ?_))))
 refine sem_cond rfl (fun h2 => ?_) (fun h2 => ?_)
 ·have g2 : (IntKind.i64.wrap ((IntKind.i64.wrap (c.Text.length + d.Text.length)) + load.length) : Int) > 2048 := of_decide_eq_true h2
  refine sem_seq (sem_region rfl (step_r rfl rfl trivial (step_r rfl rfl trivial (step_nil (seqK_n (sem_ret (seqK_r ?_)))))))
  have e3 : back11 c d load = (small11) := by
   unfold back11
   try dsimp only
   rewrite [if_pos g2]
   all_goals rfl
  rw [e3]
  exact answersR rfl ⟨trivial, trivial⟩ (rfl) rfl
 ·have g2 : ¬ ((IntKind.i64.wrap ((IntKind.i64.wrap (c.Text.length + d.Text.length)) + load.length) : Int) > 2048) := of_decide_eq_false h2
  refine sem_skip (seqK_n (sem_seq (sem_region rfl (step_r (v := (.agg [_, _, _, _])) rfl rfl (Nat.le_of_ble_eq_true rfl) ?_))))
  refine step_callN (out' := .tup [.ref 2 _ _ _, _]) (H' := [(2, .row _ _ _), (1, _), (0, _)]) (nx' := 3) rfl rfl rfl rfl rfl rfl rfl (by (repeat' apply And.intro) <;> first | trivial | rfl | exact flat_len (fun _ => rfl) _ | exact encI_len _ | exact encB_len _ | exact encY_len _ | exact Nat.le_of_ble_eq_true rfl | assumption) (encC_ok c) rfl rfl rfl rfl ?_
  have p4 := encC_len c
  refine step_r rfl rfl trivial (step_r rfl rfl trivial (step_r rfl rfl trivial (step_r rfl rfl trivial (step_r rfl rfl trivial (step_nil (seqK_n (sem_seq (sem_region rfl (step_r (v := (.agg [_, _, _, _])) rfl rfl (Nat.le_of_ble_eq_true rfl) ?_)))))))))
  refine step_callN (out' := .tup [.ref 3 _ _ _, _]) (H' := [(3, .row _ _ _), (2, _), (1, _), (0, _)]) (nx' := 4) rfl rfl rfl rfl rfl rfl rfl (by (repeat' apply And.intro) <;> first | trivial | rfl | exact flat_len (fun _ => rfl) _ | exact encI_len _ | exact encB_len _ | exact encY_len _ | exact Nat.le_of_ble_eq_true rfl | assumption) (encC_ok d) rfl rfl rfl rfl ?_
  have p6 := encC_len d
  refine step_r rfl rfl trivial (step_r rfl rfl trivial (step_r rfl rfl trivial (step_r rfl rfl trivial (step_r rfl rfl trivial (step_nil (seqK_n (sem_seq ?_)))))))
  refine sem_cutW (fun w_ : Unit => match w_ with | () => (⟨[(2, .pv (.slc load.length load_f (encY load))), (3, .ptr 0 0), (7, B (small11)), (8, .ref 1 1 0 (encC c).1.length), (9, I (encC c).2)], [(0, .box [I c.Do, .pv (.str c.Text), I c.A, I c.B]), (1, .row 5 1 (encY (encC c).1))], 2, [], 129, 0⟩ : St)) (fun w_ => back11_J43 c d = .inr w_) ?_ ?_
  ·refine sem_seq ?_
   refine sem_drawn rfl (by decide +kernel) rfl ?_
   refine step_r rfl rfl trivial (step_bin rfl rfl rfl rfl rfl trivial (step_r (v := (.agg [_, _, _, _])) rfl rfl (Nat.le_of_ble_eq_true rfl) (step_call rfl rfl rfl rfl (rightC_ok c) rfl rfl rfl (step_bin rfl rfl rfl rfl rfl trivial (step_r rfl rfl trivial ?_)))))
   refine step_gs rfl (fun h10 => ?_) (fun h10 => ?_)
   ·have g10 : ¬ ((((encC c).2 : Int) == 0) = (rightC c)) := beq_f (not_t h10)
    refine step_g0 rfl h10 rfl (step_g0 rfl h10 rfl (step_g0 rfl h10 rfl (step_gf rfl rfl (step_gf rfl rfl (step_g0 rfl h10 rfl (step_g0 rfl h10 rfl (step_gf rfl rfl (step_gf rfl rfl (step_gf rfl rfl (step_gf rfl rfl (step_gf rfl rfl ?_)))))))))))
    refine step_gf rfl rfl (step_gf rfl rfl (step_gf rfl rfl (step_gf rfl rfl (step_g0 rfl h10 rfl (step_pickT rfl h10 rfl rfl (step_nil (seqK_n (sem_condT rfl (sem_seq (sem_region rfl (step_r rfl rfl trivial ?_)))))))))))
    refine step_nil (seqK_n (sem_ret (cutW_r (seqK_r ?_))))
    have e11 : back11_J43 c d = .inl false := by
     unfold back11_J43
     try dsimp only
     rewrite [if_neg g10]
     all_goals rfl
    have e12 : back11 c d load = false := by
     unfold back11
     try dsimp only
     rewrite [if_neg g2, e11]
     try dsimp only
     all_goals rfl
    rw [e12]
    exact answersR rfl ⟨trivial, trivial⟩ (rfl) rfl
   ·have g10 : (((encC c).2 : Int) == 0) = (rightC c) := beq_t (not_f h10)
    refine step_g1 rfl h10 (step_r rfl rfl trivial (step_g1 rfl h10 (step_bin rfl rfl rfl rfl rfl trivial (step_g1 rfl h10 (step_r rfl rfl trivial ?_)))))
    refine step_gs rfl (fun h14 => ?_) (fun h14 => ?_)
    ·have g14 : ((encC c).2 : Int) = 0 := beq_t h14
     refine step_g1 rfl h14 (step_r rfl rfl trivial (step_g1 rfl h14 (step_bin rfl rfl rfl rfl rfl trivial (step_g1 rfl h10 (step_pickT rfl h14 rfl rfl (step_g1 rfl h10 (step_r rfl rfl trivial ?_)))))))
     refine step_gs rfl (fun h16 => ?_) (fun h16 => ?_)
     ·have g16 : ((encC d).2 : Int) = 0 := beq_t h16
      refine step_g1 rfl h16 (step_r rfl rfl trivial (step_g1 rfl h16 ?_))
      refine step_cstrR (l := (encC c).1) rfl rfl rfl rfl rfl rfl ?_
      refine step_g1 rfl h16 (step_r rfl rfl trivial (step_g1 rfl h16 ?_))
      refine step_cstrR (l := (encC d).1) rfl rfl rfl rfl rfl rfl ?_
      refine step_g1 rfl h16 (step_bin rfl rfl rfl rfl rfl trivial (step_g1 rfl h16 (step_r (v := (.agg [_, _, _, _])) rfl rfl (Nat.le_of_ble_eq_true rfl) (step_g1 rfl h16 (step_r (v := (.agg [_, _, _, _])) rfl rfl (Nat.le_of_ble_eq_true rfl) (step_g1 rfl h16 ?_))))))
      refine step_eqlA rfl rfl rfl (by kernel_rfl) rfl rfl rfl rfl rfl ?_
      refine step_g1 rfl h16 (step_bin rfl rfl rfl rfl rfl trivial (step_g1 rfl h10 (step_pickT rfl h16 rfl rfl (step_pickF rfl h10 rfl rfl (step_nil (seqK_n ?_))))))
      refine sem_cond rfl (fun h18 => ?_) (fun h18 => ?_)
      ·have g18 : ¬ (((((encC c).1) == ((encC d).1)) == ((c.Do == d.Do) && ((c.Text == d.Text) && ((c.A == d.A) && ((c.B == d.B) && true))))) = true) := boo_f (not_t h18)
       refine sem_seq (sem_region rfl (step_r rfl rfl trivial (step_nil (seqK_n (sem_ret (cutW_r (seqK_r ?_)))))))
       have e19 : back11_J43 c d = .inl false := by
        unfold back11_J43
        try dsimp only
        rewrite [if_pos g10, if_pos g14, if_pos g16, if_neg g18]
        all_goals rfl
       have e20 : back11 c d load = false := by
        unfold back11
        try dsimp only
        rewrite [if_neg g2, e19]
        try dsimp only
        all_goals rfl
       rw [e20]
       exact answersR rfl ⟨trivial, trivial⟩ (rfl) rfl
      ·have g18 : ((((encC c).1) == ((encC d).1)) == ((c.Do == d.Do) && ((c.Text == d.Text) && ((c.A == d.A) && ((c.B == d.B) && true))))) = true := (not_f h18)
       refine sem_skip ?_
       have e21 : back11_J43 c d = .inr () := by
        unfold back11_J43
        try dsimp only
        rewrite [if_pos g10, if_pos g14, if_pos g16, if_pos g18]
        all_goals rfl
       exact cutW_n () e21 (Trans.ren [(1, 2), (2, 1)] (by decide +kernel) (by decide +kernel) rfl ⟨⟨rfl, rfl⟩, ⟨rfl, rfl⟩, ⟨rfl, rfl⟩, ⟨rfl, rfl⟩, ⟨rfl, rfl⟩, trivial⟩ ⟨⟨rfl, rfl, rfl⟩, ⟨rfl, rfl, rfl⟩, trivial⟩ (by decide))
     ·have g16 : ¬ (((encC d).2 : Int) = 0) := beq_f h16
      refine step_g0 rfl h16 rfl (step_g0 rfl h16 rfl (step_g0 rfl h16 rfl (step_g0 rfl h16 rfl (step_g0 rfl h16 rfl (step_g0 rfl h16 rfl (step_g0 rfl h16 rfl (step_g0 rfl h16 rfl (step_g0 rfl h16 rfl (step_g1 rfl h10 (step_pickF rfl h16 rfl rfl (step_pickF rfl h10 rfl rfl ?_)))))))))))
      refine step_nil (seqK_n (sem_condF rfl (sem_skip ?_)))
      have e22 : back11_J43 c d = .inr () := by
       unfold back11_J43
       try dsimp only
       rewrite [if_pos g10, if_pos g14, if_neg g16]
       all_goals rfl
      exact cutW_n () e22 (Trans.ren [(1, 2), (2, 1)] (by decide +kernel) (by decide +kernel) rfl ⟨⟨rfl, rfl⟩, ⟨rfl, rfl⟩, ⟨rfl, rfl⟩, ⟨rfl, rfl⟩, ⟨rfl, rfl⟩, trivial⟩ ⟨⟨rfl, rfl, rfl⟩, ⟨rfl, rfl, rfl⟩, trivial⟩ (by decide))
    ·have g14 : ¬ (((encC c).2 : Int) = 0) := beq_f h14
     refine step_g0 rfl h14 rfl (step_g0 rfl h14 rfl (step_g1 rfl h10 (step_pickF rfl h14 rfl rfl (step_g1 rfl h10 (step_r rfl rfl trivial (step_gf rfl rfl (step_gf rfl rfl (step_gf rfl rfl (step_gf rfl rfl (step_gf rfl rfl (step_gf rfl rfl ?_)))))))))))
     refine step_gf rfl rfl (step_gf rfl rfl (step_gf rfl rfl (step_g1 rfl h10 (step_r rfl rfl trivial (step_pickF rfl h10 rfl rfl (step_nil (seqK_n (sem_condF rfl (sem_skip ?_)))))))))
     have e23 : back11_J43 c d = .inr () := by
      unfold back11_J43
      try dsimp only
      rewrite [if_pos g10, if_neg g14]
      all_goals rfl
     exact cutW_n () e23 (Trans.ren [(1, 2), (2, 1)] (by decide +kernel) (by decide +kernel) rfl ⟨⟨rfl, rfl⟩, ⟨rfl, rfl⟩, ⟨rfl, rfl⟩, ⟨rfl, rfl⟩, ⟨rfl, rfl⟩, trivial⟩ ⟨⟨rfl, rfl, rfl⟩, ⟨rfl, rfl, rfl⟩, trivial⟩ (by decide))
  ·rintro ⟨⟩ (hJ8 : back11_J43 c d = .inr ())
   show seqK _ _ _ .normal (⟨[(2, .pv (.slc load.length load_f (encY load))), (3, .ptr 0 0), (7, B (small11)), (8, .ref 1 1 0 (encC c).1.length), (9, I (encC c).2)], [(0, .box [I c.Do, .pv (.str c.Text), I c.A, I c.B]), (1, .row 5 1 (encY (encC c).1))], 2, [], 129, 0⟩ : St)
   refine seqK_n (sem_seq ?_)
   refine sem_cutW (fun w_ : Unit => match w_ with | () => (⟨[(2, .pv (.slc load.length load_f (encY load))), (7, B (small11))], [], 0, [], 129, 0⟩ : St)) (fun w_ => back11_J67 c = .inr w_) ?_ ?_
   ·refine sem_seq (sem_region rfl (step_r rfl rfl trivial (step_bin rfl rfl rfl rfl rfl trivial (step_nil (seqK_n ?_)))))
    refine sem_cond rfl (fun h26 => ?_) (fun h26 => ?_)
    ·have g26 : ((encC c).2 : Int) = 0 := beq_t h26
     refine sem_seq (sem_region rfl (step_r rfl rfl trivial ?_))
     refine step_callJ (Hin := [.row _ _ _]) (out' := .tup [(.agg [_, _, _, _]), _]) (H' := [(0, _), (1, _)]) (nx' := 2) [1] rfl rfl rfl rfl rfl rfl rfl rfl rfl (by (repeat' apply And.intro) <;> first | trivial | rfl | exact flat_len (fun _ => rfl) _ | exact encI_len _ | exact encB_len _ | exact encY_len _ | exact Nat.le_of_ble_eq_true rfl | assumption) (decC_ok ((encC c).1) false) rfl (by decide) rfl rfl trivial rfl rfl rfl rfl ?_
     refine step_r rfl rfl trivial (step_r rfl rfl trivial (step_r rfl rfl trivial (step_n (o := .box [_, _, _, _]) (nx' := 3) rfl rfl rfl trivial ?_)))
     refine step_storeB (H' := [(2, .box [_, _, _, _]), (0, _), (1, _)]) rfl rfl rfl rfl rfl rfl (.inl rfl) rfl ?_
     refine step_r rfl rfl trivial (step_nil (seqK_n (sem_seq (sem_region rfl (step_r rfl rfl ⟨by decide, rfl⟩ (step_r rfl rfl trivial ?_))))))
     refine step_appendN (m := ((encC c).1).length) (new := encY ((encC c).1)) (cs' := encY (encC c).1) (n' := ((encC c).1).length) rfl rfl (contentsR rfl (encY_len ((encC c).1))) rfl rfl rfl rfl rfl rfl (encY_len ((encC c).1)) (by first | decide | (unfold maxGrow; omega) | (unfold maxGrow; simp; omega) | (unfold maxGrow; simp only [List.length_append, List.length_take, List.length_drop, List.length_cons, List.length_nil, IntKind.wrap_i64] at *; omega)) rfl rfl rfl rfl ?_
     refine step_n (o := .row _ _ [_]) (nx' := 5) rfl rfl rfl (by decide) ?_
     refine step_appendC (m := 1) (new := [_]) (cs' := encY ((encC c).1 ++ [(0 : UInt8)])) (n' := ((encC c).1 ++ [(0 : UInt8)]).length) (H' := [(4, .row _ _ _), (3, .row _ _ _), (2, .box [_, _, _, _]), (0, .box [_, _, _, _]), (1, .row _ _ _)]) rfl rfl rfl (rfl) rfl rfl rfl rfl rfl rfl (encY_len ((encC c).1)) (rfl) (by first | decide | (unfold maxGrow; omega) | (unfold maxGrow; simp; omega) | (unfold maxGrow; simp only [List.length_append, List.length_take, List.length_drop, List.length_cons, List.length_nil, IntKind.wrap_i64] at *; omega)) (len_snoc ((encC c).1) _) (((encY_snoc ((encC c).1) (0 : UInt8))).symm) (.inl rfl) rfl rfl (.keep rfl (.keep rfl (.keep rfl (.keep rfl (.keep rfl .nil))))) (.keep rfl (.lose (v' := .undef) rfl (.keep rfl (.keep rfl (.keep rfl (.keep rfl (.keep rfl (.keep rfl (.keep rfl (.keep rfl (.keep rfl (.keep rfl (.keep rfl (.keep rfl (.keep rfl (.keep rfl (.keep rfl (.keep rfl .nil)))))))))))))))))) ?_
     refine step_callJ (Hin := [.row _ _ _]) (out' := .tup [(.agg [_, _, _, _]), _]) (H' := [(4, _), (3, _), (2, _), (0, _), (1, _)]) (nx' := 5) [3] rfl rfl rfl rfl rfl rfl rfl rfl rfl (by (repeat' apply And.intro) <;> first | trivial | rfl | exact flat_len (fun _ => rfl) _ | exact encI_len _ | exact encB_len _ | exact encY_len _ | exact Nat.le_of_ble_eq_true rfl | assumption) (decC_ok ((encC c).1 ++ [(0 : UInt8)]) false) rfl (by decide) rfl rfl trivial rfl rfl rfl rfl ?_
     refine step_r rfl rfl trivial (step_r rfl rfl trivial (step_r rfl rfl trivial (step_n (o := .box [_, _, _, _]) (nx' := 6) rfl rfl rfl trivial ?_)))
     refine step_storeB (H' := [(5, .box [_, _, _, _]), (4, _), (3, _), (2, _), (0, _), (1, _)]) rfl rfl rfl rfl rfl rfl (.inl rfl) rfl ?_
     refine step_r rfl rfl trivial (step_nil (seqK_n (sem_seq (sem_region rfl (step_r rfl rfl trivial (step_bin rfl rfl rfl rfl rfl trivial (step_r rfl rfl trivial ?_)))))))
     refine step_gs rfl (fun h30 => ?_) (fun h30 => ?_)
     ·have g30 : ¬ (((decC ((encC c).1)).2 : Int) = 0) := bne_t h30
      refine step_g0 rfl h30 rfl (step_g0 rfl h30 rfl (step_g0 rfl h30 rfl (step_pickT rfl h30 rfl rfl (step_r rfl rfl trivial (step_gf rfl rfl (step_gf rfl rfl (step_r rfl rfl trivial (step_r rfl rfl trivial (step_gf rfl rfl (step_gf rfl rfl (step_gf rfl rfl ?_)))))))))))
      refine step_r rfl rfl trivial (step_nil (seqK_n (sem_condT rfl (sem_seq (sem_region rfl (step_r rfl rfl trivial (step_nil (seqK_n (sem_ret (cutW_r (seqK_r ?_)))))))))))
      have e31 : back11_J67 c = .inl false := by
       unfold back11_J67
       try dsimp only
       rewrite [if_pos g26, if_neg g30]
       all_goals rfl
      have e32 : back11 c d load = false := by
       unfold back11
       try dsimp only
       rewrite [if_neg g2, hJ8]
       try dsimp only
       rewrite [e31]
       try dsimp only
       all_goals rfl
      rw [e32]
      exact answersR rfl ⟨trivial, trivial⟩ (rfl) rfl
     ·have g30 : ((decC ((encC c).1)).2 : Int) = 0 := bne_f h30
      refine step_g1 rfl h30 (step_r (v := (.agg [_, _, _, _])) rfl rfl (Nat.le_of_ble_eq_true rfl) (step_g1 rfl h30 (step_r (v := (.agg [_, _, _, _])) rfl rfl (Nat.le_of_ble_eq_true rfl) (step_g1 rfl h30 ?_))))
      refine step_neqA rfl rfl rfl (by kernel_rfl) rfl rfl rfl rfl rfl ?_
      refine step_pickF rfl h30 rfl rfl (step_r rfl rfl trivial ?_)
      refine step_gs rfl (fun h34 => ?_) (fun h34 => ?_)
      ·have g34 : ¬ ((((((decC ((encC c).1)).1).Do) == c.Do) && (((((decC ((encC c).1)).1).Text) == c.Text) && (((((decC ((encC c).1)).1).A) == c.A) && (((((decC ((encC c).1)).1).B) == c.B) && true)))) = true) := boo_f (not_t h34)
       refine step_g0 rfl h34 rfl (step_g0 rfl h34 rfl (step_pickT rfl h34 rfl rfl (step_r rfl rfl trivial (step_gf rfl rfl (step_gf rfl rfl (step_gf rfl rfl (step_r rfl rfl trivial (step_nil (seqK_n (sem_condT rfl (sem_seq ?_)))))))))))
       refine sem_region rfl (step_r rfl rfl trivial (step_nil (seqK_n (sem_ret (cutW_r (seqK_r ?_))))))
       have e35 : back11_J67 c = .inl false := by
        unfold back11_J67
        try dsimp only
        rewrite [if_pos g26, if_pos g30, if_neg g34]
        all_goals rfl
       have e36 : back11 c d load = false := by
        unfold back11
        try dsimp only
        rewrite [if_neg g2, hJ8]
        try dsimp only
        rewrite [e35]
        try dsimp only
        all_goals rfl
       rw [e36]
       exact answersR rfl ⟨trivial, trivial⟩ (rfl) rfl
      ·have g34 : (((((decC ((encC c).1)).1).Do) == c.Do) && (((((decC ((encC c).1)).1).Text) == c.Text) && (((((decC ((encC c).1)).1).A) == c.A) && (((((decC ((encC c).1)).1).B) == c.B) && true)))) = true := (not_f h34)
       refine step_g1 rfl h34 (step_r rfl rfl trivial (step_g1 rfl h34 (step_bin rfl rfl rfl rfl rfl trivial (step_pickF rfl h34 rfl rfl (step_r rfl rfl trivial ?_)))))
       refine step_gs rfl (fun h38 => ?_) (fun h38 => ?_)
       ·have g38 : ¬ (((decC ((encC c).1 ++ [(0 : UInt8)])).2 : Int) = 2) := bne_t h38
        refine step_g0 rfl h38 rfl (step_g0 rfl h38 rfl (step_g0 rfl h38 rfl (step_pickT rfl h38 rfl rfl (step_nil (seqK_n (sem_condT rfl (sem_seq (sem_region rfl (step_r rfl rfl trivial (step_nil (seqK_n ?_)))))))))))
        refine sem_ret (cutW_r (seqK_r ?_))
        have e39 : back11_J67 c = .inl false := by
         unfold back11_J67
         try dsimp only
         rewrite [if_pos g26, if_pos g30, if_pos g34, if_neg g38]
         all_goals rfl
        have e40 : back11 c d load = false := by
         unfold back11
         try dsimp only
         rewrite [if_neg g2, hJ8]
         try dsimp only
         rewrite [e39]
         try dsimp only
         all_goals rfl
        rw [e40]
        exact answersR rfl ⟨trivial, trivial⟩ (rfl) rfl
       ·have g38 : ((decC ((encC c).1 ++ [(0 : UInt8)])).2 : Int) = 2 := bne_f h38
        refine step_g1 rfl h38 (step_r rfl rfl trivial (step_g1 rfl h38 (step_r rfl rfl trivial (step_g1 rfl h38 (step_bin rfl rfl rfl rfl rfl trivial (step_pickF rfl h38 rfl rfl (step_nil (seqK_n ?_))))))))
        refine sem_cond rfl (fun h42 => ?_) (fun h42 => ?_)
        ·have g42 : ((encC c).1.length : Int) > 4096 := of_decide_eq_true h42
         refine sem_seq (sem_region rfl (step_r rfl rfl trivial (step_nil (seqK_n (sem_ret (cutW_r (seqK_r ?_)))))))
         have e43 : back11_J67 c = .inl false := by
          unfold back11_J67
          try dsimp only
          rewrite [if_pos g26, if_pos g30, if_pos g34, if_pos g38, if_pos g42]
          all_goals rfl
         have e44 : back11 c d load = false := by
          unfold back11
          try dsimp only
          rewrite [if_neg g2, hJ8]
          try dsimp only
          rewrite [e43]
          try dsimp only
          all_goals rfl
         rw [e44]
         exact answersR rfl ⟨trivial, trivial⟩ (rfl) rfl
        ·have g42 : ¬ (((encC c).1.length : Int) > 4096) := of_decide_eq_false h42
         refine sem_skip ?_
         have e45 : back11_J67 c = .inr () := by
          unfold back11_J67
          try dsimp only
          rewrite [if_pos g26, if_pos g30, if_pos g34, if_pos g38, if_neg g42]
          all_goals rfl
         exact cutW_n () e45 (Trans.ren [] (by decide +kernel) (by decide +kernel) rfl ⟨⟨rfl, rfl⟩, ⟨rfl, rfl⟩, trivial⟩ trivial (by decide))
    ·have g26 : ¬ (((encC c).2 : Int) = 0) := beq_f h26
     refine sem_skip ?_
     have e46 : back11_J67 c = .inr () := by
      unfold back11_J67
      try dsimp only
      rewrite [if_neg g26]
      all_goals rfl
     exact cutW_n () e46 (Trans.ren [] (by decide +kernel) (by decide +kernel) rfl ⟨⟨rfl, rfl⟩, ⟨rfl, rfl⟩, trivial⟩ trivial (by decide))
   ·rintro ⟨⟩ (hJ24 : back11_J67 c = .inr ())
    show seqK _ _ _ .normal (⟨[(2, .pv (.slc load.length load_f (encY load))), (7, B (small11))], [], 0, [], 129, 0⟩ : St)
    refine seqK_n (sem_seq (sem_region rfl (step_r rfl rfl trivial (step_call rfl rfl rfl rfl (decC_ok load load_f) rfl rfl rfl (step_r rfl rfl trivial (step_r rfl rfl trivial (step_r rfl rfl trivial (step_n (o := .box [_, _, _, _]) (nx' := 1) rfl rfl rfl trivial ?_))))))))
    refine step_storeB (H' := [(0, .box [_, _, _, _])]) rfl rfl rfl rfl rfl rfl (.inl rfl) rfl ?_
    refine step_r rfl rfl trivial (step_nil (seqK_n (sem_seq (sem_seq (sem_region rfl (step_r rfl rfl trivial (step_bin rfl rfl rfl rfl rfl trivial (step_nil (seqK_n ?_)))))))))
    refine sem_cond rfl (fun h48 => ?_) (fun h48 => ?_)
    ·have g48 : ¬ (((decC load).2 : Int) = 0) := bne_t h48
     refine sem_seq ?_
     refine sem_cutW (fun t6_106 : Bool => (⟨[(6, B t6_106)], [], 0, [], 129, 0⟩ : St)) (fun w_ => back11_J106 load = w_) ?_ ?_
     ·refine sem_region rfl (step_r rfl rfl trivial (step_r rfl rfl trivial ?_))
      refine step_gs rfl (fun h51 => ?_) (fun h51 => ?_)
      ·have g51 : small11 = true := h51
       refine step_g1 rfl h51 (step_r (v := (.agg [_, _, _, _])) rfl rfl (Nat.le_of_ble_eq_true rfl) (step_g1 rfl h51 (step_r (v := (.agg [_, _, _, _])) rfl rfl trivial (step_g1 rfl h51 ?_))))
       refine step_eqlA rfl rfl rfl (by kernel_rfl) rfl rfl rfl rfl rfl ?_
       refine step_pickT rfl h51 rfl rfl (step_r rfl rfl trivial (step_nil ?_))
       have e53 : back11_J106 load = (((((decC load).1).Do) == 0) && (((((decC load).1).Text) == ([])) && (((((decC load).1).A) == 0) && (((((decC load).1).B) == 0) && true)))) := by
        unfold back11_J106
        try dsimp only
        rewrite [if_pos g51]
        all_goals rfl
       exact cutW_n (((((decC load).1).Do) == 0) && (((((decC load).1).Text) == ([])) && (((((decC load).1).A) == 0) && (((((decC load).1).B) == 0) && true)))) e53 (Trans.ren [] (by decide +kernel) (by decide +kernel) rfl ⟨⟨rfl, rfl⟩, trivial⟩ trivial (by decide))
      ·have g51 : ¬ (small11 = true) := boo_f h51
       refine step_g0 rfl h51 rfl (step_g0 rfl h51 rfl (step_g0 rfl h51 rfl (step_pickF rfl h51 rfl rfl (step_r rfl rfl trivial (step_nil ?_)))))
       have e54 : back11_J106 load = false := by
        unfold back11_J106
        try dsimp only
        rewrite [if_neg g51]
        all_goals rfl
       exact cutW_n false e54 (Trans.ren [] (by decide +kernel) (by decide +kernel) rfl ⟨⟨rfl, rfl⟩, trivial⟩ trivial (by decide))
     ·rintro t6_106 (hJ49 : back11_J106 load = t6_106)
      show seqK _ _ _ .normal (⟨[(6, B t6_106)], [], 0, [], 129, 0⟩ : St)
      refine seqK_n (sem_ret (seqK_r ?_))
      have e55 : back11 c d load = t6_106 := by
       unfold back11
       try dsimp only
       rewrite [if_neg g2, hJ8]
       try dsimp only
       rewrite [hJ24]
       try dsimp only
       rewrite [if_neg g48, hJ49]
       try dsimp only
       all_goals rfl
      rw [e55]
      exact answersR rfl ⟨trivial, trivial⟩ (rfl) rfl
    ·have g48 : ((decC load).2 : Int) = 0 := bne_f h48
     refine sem_skip (seqK_n (sem_seq (sem_region rfl (step_r (v := (.agg [_, _, _, _])) rfl rfl (Nat.le_of_ble_eq_true rfl) ?_))))
     refine step_callN (out' := .tup [.ref 1 _ _ _, _]) (H' := [(1, .row _ _ _), (0, _)]) (nx' := 2) rfl rfl rfl rfl rfl rfl rfl (by (repeat' apply And.intro) <;> first | trivial | rfl | exact flat_len (fun _ => rfl) _ | exact encI_len _ | exact encB_len _ | exact encY_len _ | exact Nat.le_of_ble_eq_true rfl | assumption) (encC_ok ((decC load).1)) rfl rfl rfl rfl ?_
     have p56 := encC_len ((decC load).1)
     refine step_r rfl rfl trivial (step_r rfl rfl trivial (step_r rfl rfl trivial (step_r rfl rfl trivial (step_r rfl rfl trivial (step_nil (seqK_n (sem_seq (sem_region rfl (step_r rfl rfl trivial (step_r rfl rfl trivial ?_))))))))))
     refine step_gs rfl (fun h59 => ?_) (fun h59 => ?_)
     ·have g59 : small11 = true := h59
      refine step_g1 rfl h59 (step_r rfl rfl trivial (step_g1 rfl h59 (step_bin rfl rfl rfl rfl rfl trivial (step_pickT rfl h59 rfl rfl (step_r rfl rfl trivial ?_)))))
      refine step_gs rfl (fun h61 => ?_) (fun h61 => ?_)
      ·have g61 : ((encC ((decC load).1)).2 : Int) = 0 := beq_t h61
       refine step_g1 rfl h61 (step_r rfl rfl trivial (step_g1 rfl h61 ?_))
       refine step_cstrR (l := (encC ((decC load).1)).1) rfl rfl rfl rfl rfl rfl ?_
       refine step_g1 rfl h61 (step_r rfl rfl trivial (step_g1 rfl h61 ?_))
       refine step_cstr (l := load) rfl rfl rfl rfl rfl ?_
       refine step_g1 rfl h61 (step_bin rfl rfl rfl rfl rfl trivial (step_pickT rfl h61 rfl rfl (step_r rfl rfl trivial (step_nil (seqK_n (sem_ret ?_))))))
       have e63 : back11 c d load = (((encC ((decC load).1)).1) == load) := by
        unfold back11
        try dsimp only
        rewrite [if_neg g2, hJ8]
        try dsimp only
        rewrite [hJ24]
        try dsimp only
        rewrite [if_pos g48, if_pos g59, if_pos g61]
        all_goals rfl
       rw [e63]
       exact answersR rfl ⟨trivial, trivial⟩ (rfl) rfl
      ·have g61 : ¬ (((encC ((decC load).1)).2 : Int) = 0) := beq_f h61
       refine step_g0 rfl h61 rfl (step_g0 rfl h61 rfl (step_g0 rfl h61 rfl (step_g0 rfl h61 rfl (step_g0 rfl h61 rfl (step_pickF rfl h61 rfl rfl (step_r rfl rfl trivial (step_nil (seqK_n (sem_ret ?_)))))))))
       have e64 : back11 c d load = false := by
        unfold back11
        try dsimp only
        rewrite [if_neg g2, hJ8]
        try dsimp only
        rewrite [hJ24]
        try dsimp only
        rewrite [if_pos g48, if_pos g59, if_neg g61]
        all_goals rfl
       rw [e64]
       exact answersR rfl ⟨trivial, trivial⟩ (rfl) rfl
     ·have g59 : ¬ (small11 = true) := boo_f h59
      refine step_g0 rfl h59 rfl (step_g0 rfl h59 rfl (step_pickF rfl h59 rfl rfl (step_r rfl rfl trivial (step_gf rfl rfl (step_gf rfl rfl (step_gf rfl rfl (step_gf rfl rfl (step_gf rfl rfl (step_r rfl rfl trivial (step_r rfl rfl trivial (step_nil ?_)))))))))))
      refine seqK_n (sem_ret ?_)
      have e65 : back11 c d load = false := by
       unfold back11
       try dsimp only
       rewrite [if_neg g2, hJ8]
       try dsimp only
       rewrite [hJ24]
       try dsimp only
       rewrite [if_pos g48, if_neg g59]
       all_goals rfl
      rw [e65]
      exact answersR rfl ⟨trivial, trivial⟩ (rfl) rfl
end Go.Proofs.YtghnjjbhcmcocaaDoor

import Derived.Test.YtmklfpfgijilfaaDoorMessage
namespace Go.Proofs.YtmklfpfgijilfaaDoor
open Go Go.RowKit Go.Proofs.YtmklfpfgijilfaaDoorVm
attribute [local irreducible] opsWp AnswersE OpsS
set_option maxHeartbeats 400000
set_option maxRecDepth 100000
set_option linter.all false
def putU (b : List UInt8) (n : Int) : List UInt8 :=
  (put b (IntKind.u64.wrap (max n 0)))
theorem putU_ok (b : List UInt8) (b_f : Bool) (n : Int) (hb : b.length ≤ 4000) : Ok Tryd.prog 27 [.pv (.slc b.length b_f (encY b)), I n] [] (.ref 0 1 0 (putU b n).length) [.row 5 1 (encY (putU b n))] [] := by
 refine Ok.len fun hlen => ?_
 have hl_b : b.length ≤ maxLen := hlen _ (by simp [lensL, lens, lensP])
 unfold maxLen at hl_b
 refine ok_of_sem Tryd.func27 rfl ?_
 show Walks Tryd.prog _ _ ⟨[(0, .pv (.slc b.length b_f (encY b))), (1, I n)], [], 0, [], 11, 0⟩
 refine sem_seq (sem_region rfl (step_n (nx' := 1) rfl rfl rfl trivial (step_nil (seqK_n (sem_seq (sem_region rfl (step_r rfl rfl trivial ?_)))))))
 refine step_callN (out' := .ref 1 _ _ _) (H' := [(1, .row _ _ _), (0, _)]) (nx' := 2) rfl rfl rfl rfl rfl rfl rfl (by (repeat' apply And.intro) <;> first | trivial | rfl | exact flat_len (fun _ => rfl) _ | exact encI_len _ | exact encB_len _ | exact encY_len _ | exact Nat.le_of_ble_eq_true rfl | assumption) (clone_UInt8 b false (by first | assumption | omega | (simp; omega) | simp_all)) rfl rfl rfl rfl ?_
 refine step_r rfl rfl trivial ?_
 refine step_max rfl rfl rfl ?_
 refine step_r rfl rfl trivial ?_
 refine step_callV (Hin := [.row _ _ _]) (out' := .ref 1 _ _ _) (H' := [(1, .row _ _ _), (0, .row _ _ _)]) (nx' := 2) [1] rfl rfl rfl rfl (.inl rfl) rfl rfl rfl rfl (put_ok b (IntKind.u64.wrap (max n 0)) (by first | assumption | omega | (simp; omega)) (wrapU64_in _)) rfl (by decide) rfl rfl (.keep rfl (.keep rfl .nil)) (.keep rfl (.keep rfl (.keep rfl (.lose (v' := .undef) rfl (.keep rfl (.keep rfl (.keep rfl (.keep rfl .nil)))))))) rfl rfl rfl rfl ?_
 refine step_r rfl rfl trivial (step_nil (seqK_n (sem_ret ?_)))
 have e2 : putU b n = (put b (IntKind.u64.wrap (max n 0))) := by
  unfold putU
  try dsimp only
  all_goals rfl
 rw [e2]
 exact answersGR [] [1] rfl ⟨trivial, trivial⟩ rfl (by (repeat' apply And.intro) <;> first | trivial | rfl | exact flat_len (fun _ => rfl) _ | exact encI_len _ | exact encB_len _ | exact encY_len _ | assumption) (rfl) rfl rfl rfl (by decide) rfl rfl ⟨⟨rfl, rfl⟩, trivial⟩

theorem putU_len (b : List UInt8) (n : Int) : (putU b n).length ≤ b.length + 11 := put_len _ _


def wrapF (load : List UInt8) : (List UInt8) × Int :=
  if (load.length : Int) > 4096 then ([], 3) else (((putU ([]) load.length) ++ load), 0)
theorem wrapF_ok (load : List UInt8) (load_f : Bool) : Ok Tryd.prog 18 [.pv (.slc load.length load_f (encY load))] [] (.tup [.ref 0 1 0 (wrapF load).1.length, I (wrapF load).2]) [.row 5 1 (encY (wrapF load).1)] [] := by
 refine Ok.len fun hlen => ?_
 have hl_load : load.length ≤ maxLen := hlen _ (by simp [lensL, lens, lensP])
 unfold maxLen at hl_load
 refine ok_of_sem Tryd.func18 rfl ?_
 show Walks Tryd.prog _ _ ⟨[(0, .pv (.slc load.length load_f (encY load)))], [], 0, [], 12, 0⟩
 refine sem_seq (sem_region rfl (step_n (nx' := 1) rfl rfl rfl trivial (step_r rfl rfl trivial (step_nil (seqK_n (sem_seq (sem_seq (sem_region rfl (step_r rfl rfl trivial (step_r rfl rfl trivial (step_bin rfl rfl rfl rfl rfl trivial ?_)))))))))))
 refine step_nil (seqK_n ?_)
 refine sem_cond rfl (fun h1 => ?_) (fun h1 => ?_)
 ·have g1 : (load.length : Int) > 4096 := of_decide_eq_true h1
  refine sem_seq (sem_region rfl (step_n (nx' := 2) rfl rfl rfl trivial (step_r rfl rfl trivial (step_nil (seqK_n (sem_ret (seqK_r ?_)))))))
  have e2 : wrapF load = ([], 3) := by
   unfold wrapF
   try dsimp only
   rewrite [if_pos g1]
   all_goals rfl
  rw [e2]
  exact answersGR [] [1] rfl ⟨trivial, trivial, trivial⟩ rfl (by (repeat' apply And.intro) <;> first | trivial | rfl | exact flat_len (fun _ => rfl) _ | exact encI_len _ | exact encB_len _ | exact encY_len _ | assumption) (rfl) rfl rfl rfl (by decide) rfl rfl ⟨⟨rfl, rfl⟩, trivial⟩
 ·have g1 : ¬ ((load.length : Int) > 4096) := of_decide_eq_false h1
  refine sem_skip (seqK_n (sem_seq (sem_region rfl (step_r rfl rfl trivial (step_r rfl rfl trivial ?_)))))
  refine step_callN (out' := .ref 1 _ _ _) (H' := [(1, .row _ _ _), (0, _)]) (nx' := 2) rfl rfl rfl rfl rfl rfl rfl (by (repeat' apply And.intro) <;> first | trivial | rfl | exact flat_len (fun _ => rfl) _ | exact encI_len _ | exact encB_len _ | exact encY_len _ | exact Nat.le_of_ble_eq_true rfl | assumption) (putU_ok ([]) false load.length (by first | assumption | omega | simp | (simp; omega))) rfl rfl rfl rfl ?_
  have p3 := putU_len ([]) load.length
  refine step_r rfl rfl trivial ?_
  refine step_appendC (m := load.length) (new := encY load) (cs' := encY ((putU ([]) load.length) ++ load)) (n' := ((putU ([]) load.length) ++ load).length) (H' := [(1, .row _ _ _), (0, .row _ _ _)]) rfl rfl rfl (rfl) rfl rfl rfl rfl rfl rfl (encY_len (putU ([]) load.length)) (encY_len load) (by first | decide | (unfold maxGrow; omega) | (unfold maxGrow; simp; omega) | (unfold maxGrow; simp only [List.length_append, List.length_take, List.length_drop, List.length_cons, List.length_nil, IntKind.wrap_i64] at *; omega)) (len_append (putU ([]) load.length) load) (encY_append (putU ([]) load.length) load) (.inl rfl) rfl rfl (.keep rfl (.keep rfl .nil)) (.keep rfl (.lose (v' := .undef) rfl (.keep rfl (.keep rfl (.keep rfl (.keep rfl (.keep rfl (.keep rfl (.keep rfl (.keep rfl .nil)))))))))) ?_
  refine step_r rfl rfl trivial (step_r rfl rfl trivial (step_nil (seqK_n (sem_ret ?_))))
  have e4 : wrapF load = (((putU ([]) load.length) ++ load), 0) := by
   unfold wrapF
   try dsimp only
   rewrite [if_neg g1]
   all_goals rfl
  rw [e4]
  exact answersGR [] [1] rfl ⟨trivial, trivial, trivial⟩ rfl (by (repeat' apply And.intro) <;> first | trivial | rfl | exact flat_len (fun _ => rfl) _ | exact encI_len _ | exact encB_len _ | exact encY_len _ | assumption) (rfl) rfl rfl rfl (by decide) rfl rfl ⟨⟨rfl, rfl⟩, trivial⟩

def few12 (m : GMessage) : Bool :=
  if (m.L.length : Int) ≤ 100 then (decide ((m.Text.length : Int) ≤ 1024)) else false
theorem few12_ok (m : GMessage) : Ok Tryd.prog 7 [aGMessage m] [] (B (few12 m)) [] [] := by
 refine Ok.len fun hlen => ?_
 have hl_m_L : m.L.length ≤ maxLen := hlen _ (by simp [lensL, lens, lensP])
 unfold maxLen at hl_m_L
 refine ok_of_sem Tryd.func7 rfl ?_
 show Walks Tryd.prog _ _ ⟨[(0, aGMessage m)], [], 0, [], 13, 0⟩
 refine sem_seq (sem_region rfl (step_n (o := .box [_, _, _]) (nx' := 1) rfl rfl rfl trivial (step_r rfl rfl trivial (step_nil (seqK_n (sem_seq (sem_region rfl (step_r rfl rfl (by decide) (step_r rfl rfl trivial (step_r rfl rfl trivial (step_bin rfl rfl rfl rfl rfl trivial ?_)))))))))))
 refine step_r rfl rfl trivial ?_
 refine step_gs rfl (fun h2 => ?_) (fun h2 => ?_)
 ·have g2 : (m.L.length : Int) ≤ 100 := of_decide_eq_true h2
  refine step_g1 rfl h2 (step_r rfl rfl (by decide) (step_g1 rfl h2 (step_r rfl rfl trivial (step_g1 rfl h2 (step_r rfl rfl trivial (step_g1 rfl h2 (step_bin rfl rfl rfl rfl rfl trivial (step_pickT rfl h2 rfl rfl (step_r rfl rfl trivial (step_nil (seqK_n ?_)))))))))))
  refine sem_ret ?_
  have e4 : few12 m = (decide ((m.Text.length : Int) ≤ 1024)) := by
   unfold few12
   try dsimp only
   rewrite [if_pos g2]
   all_goals rfl
  rw [e4]
  exact answersR rfl ⟨trivial, trivial⟩ (rfl) rfl
 ·have g2 : ¬ ((m.L.length : Int) ≤ 100) := of_decide_eq_false h2
  refine step_g0 rfl h2 rfl (step_g0 rfl h2 rfl (step_g0 rfl h2 rfl (step_g0 rfl h2 rfl (step_pickF rfl h2 rfl rfl (step_r rfl rfl trivial (step_nil (seqK_n (sem_ret ?_))))))))
  have e5 : few12 m = false := by
   unfold few12
   try dsimp only
   rewrite [if_neg g2]
   all_goals rfl
  rw [e5]
  exact answersR rfl ⟨trivial, trivial⟩ (rfl) rfl

def small12 : Bool :=
  if ((encM (⟨6, [7, 2, (-1)], []⟩ : GMessage)).2 : Int) = 0 then (if ((encM (⟨6, [7, 2, (-1)], []⟩ : GMessage)).1) = ([6, 14, 4, 1]) then (if ((decM ([(3 : UInt8)])).2 : Int) = 0 then (if ((decM ([(3 : UInt8)])).1.Do : Int) = 3 then (if ((decM ([(3 : UInt8), (97 : UInt8)])).2 : Int) = 2 then (if ((sizeM 4).1 : Int) = 10 then (if (sizeM 4).2 = true then (sameM ((decM ([(3 : UInt8)])).1) (⟨3, [], []⟩ : GMessage)) else false) else false) else false) else false) else false) else false) else false
theorem small12_ok  : Ok Tryd.prog 6 [] [] (B (small12)) [] [] := by
 refine ok_of_sem Tryd.func6 rfl ?_
 show Walks Tryd.prog _ _ ⟨[], [], 0, [], 61, 0⟩
 refine sem_seq (sem_region rfl (step_r rfl rfl trivial (step_nil (seqK_n (sem_seq (sem_region rfl (step_n (o := .row _ _ [_, _, _]) (nx' := 1) rfl rfl rfl (by decide) (step_r (v := (.agg [_, _, _])) rfl rfl trivial ?_))))))))
 refine step_callJ (Hin := [.row _ _ _]) (out' := .tup [.ref 1 _ _ _, _]) (H' := [(1, .row _ _ _), (0, _)]) (nx' := 2) [0] rfl rfl rfl rfl rfl rfl rfl rfl rfl (by (repeat' apply And.intro) <;> first | trivial | rfl | exact flat_len (fun _ => rfl) _ | exact encI_len _ | exact encB_len _ | exact encY_len _ | exact Nat.le_of_ble_eq_true rfl | assumption) (encM_ok (⟨6, [7, 2, (-1)], []⟩ : GMessage)) rfl (by decide) rfl rfl ⟨encY_solid, trivial⟩ rfl rfl rfl rfl ?_
 refine step_r rfl rfl trivial (step_r rfl rfl trivial (step_r rfl rfl trivial (step_r rfl rfl trivial (step_r rfl rfl trivial (step_nil (seqK_n (sem_seq (sem_region rfl (step_n (o := .row _ _ [_]) (nx' := 3) rfl rfl rfl (by decide) ?_)))))))))
 refine step_callJ (Hin := [.row _ _ _]) (out' := .tup [.agg [_, .ref 3 _ _ _, _], _]) (H' := [(3, .row _ _ _), (2, _), (1, _), (0, _)]) (nx' := 4) [2] rfl rfl rfl rfl rfl rfl rfl rfl rfl (by (repeat' apply And.intro) <;> first | trivial | rfl | exact flat_len (fun _ => rfl) _ | exact encI_len _ | exact encB_len _ | exact encY_len _ | exact Nat.le_of_ble_eq_true rfl | assumption) (decM_ok ([(3 : UInt8)]) false) rfl (by decide) rfl rfl ⟨encI_solid, trivial⟩ rfl rfl rfl rfl ?_
 have p2 := decM_len ([(3 : UInt8)])
 refine step_r rfl rfl trivial (step_r rfl rfl trivial (step_r rfl rfl trivial (step_n (o := .box [_, _, _]) (nx' := 5) rfl rfl rfl trivial ?_)))
 refine step_storeB (H' := [(4, .box [_, _, _]), (3, _), (2, _), (1, _), (0, _)]) rfl rfl rfl rfl rfl rfl (.inl rfl) rfl ?_
 refine step_r rfl rfl trivial (step_nil (seqK_n (sem_seq (sem_region rfl (step_n (o := .row _ _ [_, _]) (nx' := 6) rfl rfl rfl (by decide) ?_)))))
 refine step_callJ (Hin := [.row _ _ _]) (out' := .tup [.agg [_, .ref 6 _ _ _, _], _]) (H' := [(6, .row _ _ _), (5, _), (4, _), (3, _), (2, _), (1, _), (0, _)]) (nx' := 7) [5] rfl rfl rfl rfl rfl rfl rfl rfl rfl (by (repeat' apply And.intro) <;> first | trivial | rfl | exact flat_len (fun _ => rfl) _ | exact encI_len _ | exact encB_len _ | exact encY_len _ | exact Nat.le_of_ble_eq_true rfl | assumption) (decM_ok ([(3 : UInt8), (97 : UInt8)]) false) rfl (by decide) rfl rfl ⟨encI_solid, trivial⟩ rfl rfl rfl rfl ?_
 have p4 := decM_len ([(3 : UInt8), (97 : UInt8)])
 refine step_r rfl rfl trivial (step_r rfl rfl trivial (step_r rfl rfl trivial (step_n (o := .box [_, _, _]) (nx' := 8) rfl rfl rfl trivial ?_)))
 refine step_storeB (H' := [(7, .box [_, _, _]), (6, _), (5, _), (4, _), (3, _), (2, _), (1, _), (0, _)]) rfl rfl rfl rfl rfl rfl (.inl rfl) rfl ?_
 refine step_r rfl rfl trivial (step_nil (seqK_n (sem_seq (sem_region rfl (step_call rfl rfl rfl rfl (sizeM_ok 4) rfl rfl rfl (step_r rfl rfl trivial (step_r rfl rfl trivial (step_r rfl rfl trivial (step_r rfl rfl trivial (step_r rfl rfl trivial (step_nil ?_)))))))))))
 refine seqK_n (sem_seq (sem_region rfl (step_r rfl rfl trivial (step_bin rfl rfl rfl rfl rfl trivial (step_r rfl rfl trivial ?_)))))
 refine step_gs rfl (fun h9 => ?_) (fun h9 => ?_)
 ·have g9 : ((encM (⟨6, [7, 2, (-1)], []⟩ : GMessage)).2 : Int) = 0 := beq_t h9
  refine step_g1 rfl h9 (step_r rfl rfl trivial (step_g1 rfl h9 ?_))
  refine step_cstrR (l := (encM (⟨6, [7, 2, (-1)], []⟩ : GMessage)).1) rfl rfl rfl rfl rfl rfl ?_
  refine step_g1 rfl h9 (step_bin rfl rfl rfl rfl rfl trivial (step_pickT rfl h9 rfl rfl (step_r rfl rfl trivial ?_)))
  refine step_gs rfl (fun h11 => ?_) (fun h11 => ?_)
  ·have g11 : ((encM (⟨6, [7, 2, (-1)], []⟩ : GMessage)).1) = ([6, 14, 4, 1]) := beq_t h11
   refine step_g1 rfl h11 (step_r rfl rfl trivial (step_g1 rfl h11 (step_bin rfl rfl rfl rfl rfl trivial (step_pickT rfl h11 rfl rfl (step_r rfl rfl trivial ?_)))))
   refine step_gs rfl (fun h13 => ?_) (fun h13 => ?_)
   ·have g13 : ((decM ([(3 : UInt8)])).2 : Int) = 0 := beq_t h13
    refine step_g1 rfl h13 (step_r rfl rfl (by decide) (step_g1 rfl h13 (step_r rfl rfl trivial (step_g1 rfl h13 (step_bin rfl rfl rfl rfl rfl trivial (step_pickT rfl h13 rfl rfl (step_r rfl rfl trivial ?_)))))))
    refine step_gs rfl (fun h15 => ?_) (fun h15 => ?_)
    ·have g15 : ((decM ([(3 : UInt8)])).1.Do : Int) = 3 := beq_t h15
     refine step_g1 rfl h15 (step_r rfl rfl trivial (step_g1 rfl h15 (step_bin rfl rfl rfl rfl rfl trivial (step_pickT rfl h15 rfl rfl (step_r rfl rfl trivial ?_)))))
     refine step_gs rfl (fun h17 => ?_) (fun h17 => ?_)
     ·have g17 : ((decM ([(3 : UInt8), (97 : UInt8)])).2 : Int) = 2 := beq_t h17
      refine step_g1 rfl h17 (step_r rfl rfl trivial (step_g1 rfl h17 (step_bin rfl rfl rfl rfl rfl trivial (step_pickT rfl h17 rfl rfl (step_r rfl rfl trivial ?_)))))
      refine step_gs rfl (fun h19 => ?_) (fun h19 => ?_)
      ·have g19 : ((sizeM 4).1 : Int) = 10 := beq_t h19
       refine step_g1 rfl h19 (step_r rfl rfl trivial (step_pickT rfl h19 rfl rfl (step_r rfl rfl trivial ?_)))
       refine step_gs rfl (fun h20 => ?_) (fun h20 => ?_)
       ·have g20 : (sizeM 4).2 = true := h20
        refine step_g1 rfl h20 (step_r (v := (.agg [_, _, _])) rfl rfl (Nat.le_of_ble_eq_true rfl) (step_g1 rfl h20 (step_r (v := (.agg [_, _, _])) rfl rfl trivial (step_g1 rfl h20 ?_))))
        refine step_callJ (Hin := [.row _ _ _]) (H' := [(7, _), (6, _), (5, _), (4, _), (3, _), (2, _), (1, _), (0, _)]) (nx' := 8) [3] rfl rfl rfl rfl rfl rfl rfl rfl rfl (by (repeat' apply And.intro) <;> first | trivial | rfl | exact flat_len (fun _ => rfl) _ | exact encI_len _ | exact encB_len _ | exact encY_len _ | exact Nat.le_of_ble_eq_true rfl | assumption) (sameM_ok ((decM ([(3 : UInt8)])).1) (⟨3, [], []⟩ : GMessage)) rfl (by decide) rfl rfl trivial rfl rfl rfl rfl ?_
        refine step_pickT rfl h20 rfl rfl (step_r rfl rfl trivial (step_nil (seqK_n (sem_ret ?_))))
        have e22 : small12 = (sameM ((decM ([(3 : UInt8)])).1) (⟨3, [], []⟩ : GMessage)) := by
         unfold small12
         try dsimp only
         rewrite [if_pos g9, if_pos g11, if_pos g13, if_pos g15, if_pos g17, if_pos g19, if_pos g20]
         all_goals rfl
        rw [e22]
        exact answersR rfl ⟨trivial, trivial⟩ (rfl) rfl
       ·have g20 : ¬ ((sizeM 4).2 = true) := boo_f h20
        refine step_g0 rfl h20 rfl (step_g0 rfl h20 rfl (step_g0 rfl h20 rfl (step_pickF rfl h20 rfl rfl (step_r rfl rfl trivial (step_nil (seqK_n (sem_ret ?_)))))))
        have e23 : small12 = false := by
         unfold small12
         try dsimp only
         rewrite [if_pos g9, if_pos g11, if_pos g13, if_pos g15, if_pos g17, if_pos g19, if_neg g20]
         all_goals rfl
        rw [e23]
        exact answersR rfl ⟨trivial, trivial⟩ (rfl) rfl
      ·have g19 : ¬ (((sizeM 4).1 : Int) = 10) := beq_f h19
       refine step_g0 rfl h19 rfl (step_pickF rfl h19 rfl rfl (step_r rfl rfl trivial (step_gf rfl rfl (step_gf rfl rfl (step_gf rfl rfl (step_r rfl rfl trivial (step_r rfl rfl trivial (step_nil (seqK_n (sem_ret ?_))))))))))
       have e24 : small12 = false := by
        unfold small12
        try dsimp only
        rewrite [if_pos g9, if_pos g11, if_pos g13, if_pos g15, if_pos g17, if_neg g19]
        all_goals rfl
       rw [e24]
       exact answersR rfl ⟨trivial, trivial⟩ (rfl) rfl
     ·have g17 : ¬ (((decM ([(3 : UInt8), (97 : UInt8)])).2 : Int) = 2) := beq_f h17
      refine step_g0 rfl h17 rfl (step_g0 rfl h17 rfl (step_pickF rfl h17 rfl rfl (step_r rfl rfl trivial (step_gf rfl rfl (step_r rfl rfl trivial (step_r rfl rfl trivial (step_gf rfl rfl (step_gf rfl rfl (step_gf rfl rfl (step_r rfl rfl trivial (step_r rfl rfl trivial ?_)))))))))))
      refine step_nil (seqK_n (sem_ret ?_))
      have e25 : small12 = false := by
       unfold small12
       try dsimp only
       rewrite [if_pos g9, if_pos g11, if_pos g13, if_pos g15, if_neg g17]
       all_goals rfl
      rw [e25]
      exact answersR rfl ⟨trivial, trivial⟩ (rfl) rfl
    ·have g15 : ¬ (((decM ([(3 : UInt8)])).1.Do : Int) = 3) := beq_f h15
     refine step_g0 rfl h15 rfl (step_g0 rfl h15 rfl (step_pickF rfl h15 rfl rfl (step_r rfl rfl trivial (step_gf rfl rfl (step_gf rfl rfl (step_r rfl rfl trivial (step_r rfl rfl trivial (step_gf rfl rfl (step_r rfl rfl trivial (step_r rfl rfl trivial (step_gf rfl rfl ?_)))))))))))
     refine step_gf rfl rfl (step_gf rfl rfl (step_r rfl rfl trivial (step_r rfl rfl trivial (step_nil (seqK_n (sem_ret ?_))))))
     have e26 : small12 = false := by
      unfold small12
      try dsimp only
      rewrite [if_pos g9, if_pos g11, if_pos g13, if_neg g15]
      all_goals rfl
     rw [e26]
     exact answersR rfl ⟨trivial, trivial⟩ (rfl) rfl
   ·have g13 : ¬ (((decM ([(3 : UInt8)])).2 : Int) = 0) := beq_f h13
    refine step_g0 rfl h13 rfl (step_g0 rfl h13 rfl (step_g0 rfl h13 rfl (step_pickF rfl h13 rfl rfl (step_r rfl rfl trivial (step_gf rfl rfl (step_gf rfl rfl (step_r rfl rfl trivial (step_r rfl rfl trivial (step_gf rfl rfl (step_gf rfl rfl (step_r rfl rfl trivial ?_)))))))))))
    refine step_r rfl rfl trivial (step_gf rfl rfl (step_r rfl rfl trivial (step_r rfl rfl trivial (step_gf rfl rfl (step_gf rfl rfl (step_gf rfl rfl (step_r rfl rfl trivial (step_r rfl rfl trivial (step_nil (seqK_n (sem_ret ?_)))))))))))
    have e27 : small12 = false := by
     unfold small12
     try dsimp only
     rewrite [if_pos g9, if_pos g11, if_neg g13]
     all_goals rfl
    rw [e27]
    exact answersR rfl ⟨trivial, trivial⟩ (rfl) rfl
  ·have g11 : ¬ (((encM (⟨6, [7, 2, (-1)], []⟩ : GMessage)).1) = ([6, 14, 4, 1])) := beq_f h11
   refine step_g0 rfl h11 rfl (step_g0 rfl h11 rfl (step_pickF rfl h11 rfl rfl (step_r rfl rfl trivial (step_gf rfl rfl (step_gf rfl rfl (step_gf rfl rfl (step_r rfl rfl trivial (step_r rfl rfl trivial (step_gf rfl rfl (step_gf rfl rfl (step_r rfl rfl trivial ?_)))))))))))
   refine step_r rfl rfl trivial (step_gf rfl rfl (step_gf rfl rfl (step_r rfl rfl trivial (step_r rfl rfl trivial (step_gf rfl rfl (step_r rfl rfl trivial (step_r rfl rfl trivial (step_gf rfl rfl (step_gf rfl rfl (step_gf rfl rfl (step_r rfl rfl trivial ?_)))))))))))
   refine step_r rfl rfl trivial (step_nil (seqK_n (sem_ret ?_)))
   have e28 : small12 = false := by
    unfold small12
    try dsimp only
    rewrite [if_pos g9, if_neg g11]
    all_goals rfl
   rw [e28]
   exact answersR rfl ⟨trivial, trivial⟩ (rfl) rfl
 ·have g9 : ¬ (((encM (⟨6, [7, 2, (-1)], []⟩ : GMessage)).2 : Int) = 0) := beq_f h9
  refine step_g0 rfl h9 rfl (step_g0 rfl h9 rfl (step_g0 rfl h9 rfl (step_pickF rfl h9 rfl rfl (step_r rfl rfl trivial (step_gf rfl rfl (step_gf rfl rfl (step_r rfl rfl trivial (step_r rfl rfl trivial (step_gf rfl rfl (step_gf rfl rfl (step_gf rfl rfl ?_)))))))))))
  refine step_r rfl rfl trivial (step_r rfl rfl trivial (step_gf rfl rfl (step_gf rfl rfl (step_r rfl rfl trivial (step_r rfl rfl trivial (step_gf rfl rfl (step_gf rfl rfl (step_r rfl rfl trivial (step_r rfl rfl trivial (step_gf rfl rfl (step_r rfl rfl trivial ?_)))))))))))
  refine step_r rfl rfl trivial (step_gf rfl rfl (step_gf rfl rfl (step_gf rfl rfl (step_r rfl rfl trivial (step_r rfl rfl trivial (step_nil (seqK_n (sem_ret ?_))))))))
  have e29 : small12 = false := by
   unfold small12
   try dsimp only
   rewrite [if_neg g9]
   all_goals rfl
  rw [e29]
  exact answersR rfl ⟨trivial, trivial⟩ (rfl) rfl

theorem few12_of {m : GMessage} (h : few12 m = true) : m.L.length ≤ 100 ∧ m.Text.length ≤ 1024 := by
  unfold few12 at h
  split at h
  · have := of_decide_eq_true h; omega
  · cases h


def writes12_J18 (m : GMessage) (o : GMessage) : Bool :=
  if few12 m = true then (few12 o) else false
def writes12 (m : GMessage) (o : GMessage) (do_ : Int) : Bool :=
  (let ok_18 := writes12_J18 m o; if ok_18 = true then (if small12 = true then (if ((encM m).1) = ((encMR m).1) then (if ((encM m).2 : Int) = ((encMR m).2) then (if ((sizeM do_).1 : Int) = ((sizeR do_).1) then (if ((sizeM do_).2) = ((sizeR do_).2) then (if (rightM m) = (rightMR m) then ((sameM m o) == (sameMR m o)) else false) else false) else false) else false) else false) else false) else (small12))
theorem writes12_ok (m : GMessage) (o : GMessage) (do_ : Int) (wm : m.Text.length ≤ 9223372036854775807) : Ok Tryd.prog 3 [aGMessage m, aGMessage o, I do_] [] (B (writes12 m o do_)) [] [] := by
 refine Ok.len fun hlen => ?_
 have hl_m_L : m.L.length ≤ maxLen := hlen _ (by simp [lensL, lens, lensP])
 have hl_o_L : o.L.length ≤ maxLen := hlen _ (by simp [lensL, lens, lensP])
 unfold maxLen at hl_m_L hl_o_L
 refine ok_of_sem Tryd.func3 rfl ?_
 show Walks Tryd.prog _ _ ⟨[(0, aGMessage m), (1, aGMessage o), (2, I do_)], [], 0, [], 86, 0⟩
 refine sem_seq (sem_region rfl (step_n (o := .box [_, _, _]) (nx' := 1) rfl rfl rfl trivial (step_n (o := .box [_, _, _]) (nx' := 2) rfl rfl rfl trivial (step_r rfl rfl trivial (step_nil (seqK_n (sem_seq (sem_region rfl (step_call rfl rfl rfl rfl (small12_ok ) rfl rfl rfl (step_r rfl rfl trivial (step_nil ?_)))))))))))
 refine seqK_n (sem_seq ?_)
 refine sem_cutW (fun ok_18 : Bool => (⟨[(2, I do_), (3, .ptr 0 0), (4, .ptr 1 0), (7, B (small12)), (8, B ok_18)], [(0, .box [I m.Do, .pv (.slc m.L.length false (encI m.L)), .pv (.str m.Text)]), (1, .box [I o.Do, .pv (.slc o.L.length false (encI o.L)), .pv (.str o.Text)])], 2, [], 86, 0⟩ : St)) (fun w_ => writes12_J18 m o = w_) ?_ ?_
 ·refine sem_region rfl (step_r (v := (.agg [_, _, _])) rfl rfl (Nat.le_of_ble_eq_true rfl) (step_call rfl rfl rfl rfl (few12_ok m) rfl rfl rfl (step_r rfl rfl trivial ?_)))
  refine step_gs rfl (fun h4 => ?_) (fun h4 => ?_)
  ·have g4 : few12 m = true := h4
   have qg4 := few12_of g4
   refine step_g1 rfl h4 (step_r (v := (.agg [_, _, _])) rfl rfl (Nat.le_of_ble_eq_true rfl) (step_g1 rfl h4 (step_call rfl rfl rfl rfl (few12_ok o) rfl rfl rfl (step_pickT rfl h4 rfl rfl (step_r rfl rfl trivial (step_nil ?_))))))
   have e6 : writes12_J18 m o = (few12 o) := by
    unfold writes12_J18
    try dsimp only
    rewrite [if_pos g4]
    all_goals rfl
   exact cutW_n (few12 o) e6 (Trans.ren [] (by decide +kernel) (by decide +kernel) rfl ⟨⟨rfl, rfl⟩, ⟨rfl, rfl⟩, ⟨rfl, rfl⟩, ⟨rfl, rfl⟩, ⟨rfl, rfl⟩, trivial⟩ ⟨⟨rfl, rfl, rfl⟩, ⟨rfl, rfl, rfl⟩, trivial⟩ (by decide))
  ·have g4 : ¬ (few12 m = true) := boo_f h4
   refine step_g0 rfl h4 rfl (step_g0 rfl h4 rfl (step_pickF rfl h4 rfl rfl (step_r rfl rfl trivial (step_nil ?_))))
   have e7 : writes12_J18 m o = false := by
    unfold writes12_J18
    try dsimp only
    rewrite [if_neg g4]
    all_goals rfl
   exact cutW_n false e7 (Trans.ren [] (by decide +kernel) (by decide +kernel) rfl ⟨⟨rfl, rfl⟩, ⟨rfl, rfl⟩, ⟨rfl, rfl⟩, ⟨rfl, rfl⟩, ⟨rfl, rfl⟩, trivial⟩ ⟨⟨rfl, rfl, rfl⟩, ⟨rfl, rfl, rfl⟩, trivial⟩ (by decide))
 ·rintro ok_18 (hJ2 : writes12_J18 m o = ok_18)
  show seqK _ _ _ .normal (⟨[(2, I do_), (3, .ptr 0 0), (4, .ptr 1 0), (7, B (small12)), (8, B ok_18)], [(0, .box [I m.Do, .pv (.slc m.L.length false (encI m.L)), .pv (.str m.Text)]), (1, .box [I o.Do, .pv (.slc o.L.length false (encI o.L)), .pv (.str o.Text)])], 2, [], 86, 0⟩ : St)
  refine seqK_n (sem_seq (sem_seq (sem_region rfl (step_r rfl rfl trivial (step_r rfl rfl trivial (step_nil (seqK_n ?_)))))))
  refine sem_cond rfl (fun h9 => ?_) (fun h9 => ?_)
  ·have g9 : ¬ (ok_18 = true) := boo_f (not_t h9)
   refine sem_seq (sem_region rfl (step_r rfl rfl trivial (step_r rfl rfl trivial (step_nil (seqK_n (sem_ret (seqK_r ?_)))))))
   have e11 : writes12 m o do_ = (small12) := by
    unfold writes12
    try dsimp only
    rewrite [hJ2]
    try dsimp only
    rewrite [if_neg g9]
    all_goals rfl
   rw [e11]
   exact answersR rfl ⟨trivial, trivial⟩ (rfl) rfl
  ·have g9 : ok_18 = true := (not_f h9)
   refine sem_skip (seqK_n (sem_seq (sem_region rfl (step_r (v := (.agg [_, _, _])) rfl rfl (Nat.le_of_ble_eq_true rfl) ?_))))
   refine step_callN (out' := .tup [.ref 2 _ _ _, _]) (H' := [(2, .row _ _ _), (0, _), (1, _)]) (nx' := 3) rfl rfl rfl rfl rfl rfl rfl (by (repeat' apply And.intro) <;> first | trivial | rfl | exact flat_len (fun _ => rfl) _ | exact encI_len _ | exact encB_len _ | exact encY_len _ | exact Nat.le_of_ble_eq_true rfl | assumption) (encM_ok m) rfl rfl rfl rfl ?_
   refine step_r rfl rfl trivial (step_r rfl rfl trivial (step_r rfl rfl trivial (step_r rfl rfl trivial (step_r rfl rfl trivial (step_nil (seqK_n (sem_seq (sem_region rfl (step_r (v := (.agg [_, _, _])) rfl rfl (Nat.le_of_ble_eq_true rfl) ?_)))))))))
   refine step_callN (out' := .tup [.ref 3 _ _ _, _]) (H' := [(3, .row _ _ _), (2, _), (0, _), (1, _)]) (nx' := 4) rfl rfl rfl rfl rfl rfl rfl (by (repeat' apply And.intro) <;> first | trivial | rfl | exact flat_len (fun _ => rfl) _ | exact encI_len _ | exact encB_len _ | exact encY_len _ | exact Nat.le_of_ble_eq_true rfl | assumption) (encMR_ok m (by first | assumption | omega | (simp only [IntKind.wrap_i64] at *; omega) | (simp; omega))) rfl rfl rfl rfl ?_
   refine step_r rfl rfl trivial (step_r rfl rfl trivial (step_r rfl rfl trivial (step_r rfl rfl trivial (step_r rfl rfl trivial (step_nil (seqK_n (sem_seq (sem_region rfl (step_r rfl rfl trivial (step_call rfl rfl rfl rfl (sizeM_ok do_) rfl rfl rfl (step_r rfl rfl trivial ?_)))))))))))
   refine step_r rfl rfl trivial (step_r rfl rfl trivial (step_r rfl rfl trivial (step_r rfl rfl trivial (step_nil (seqK_n (sem_seq (sem_region rfl (step_r rfl rfl trivial (step_call rfl rfl rfl rfl (sizeR_ok do_) rfl rfl rfl (step_r rfl rfl trivial (step_r rfl rfl trivial ?_)))))))))))
   refine step_r rfl rfl trivial (step_r rfl rfl trivial (step_r rfl rfl trivial (step_nil (seqK_n (sem_seq ?_)))))
   refine sem_drawn rfl (by decide +kernel) rfl ?_
   refine step_r rfl rfl trivial (step_r rfl rfl trivial ?_)
   refine step_gs rfl (fun h20 => ?_) (fun h20 => ?_)
   ·have g20 : small12 = true := h20
    refine step_g1 rfl h20 (step_r rfl rfl trivial (step_g1 rfl h20 ?_))
    refine step_cstrR (l := (encM m).1) rfl rfl rfl rfl rfl rfl ?_
    refine step_g1 rfl h20 (step_r rfl rfl trivial (step_g1 rfl h20 ?_))
    refine step_cstrR (l := (encMR m).1) rfl rfl rfl rfl rfl rfl ?_
    refine step_g1 rfl h20 (step_bin rfl rfl rfl rfl rfl trivial (step_pickT rfl h20 rfl rfl (step_r rfl rfl trivial ?_)))
    refine step_gs rfl (fun h22 => ?_) (fun h22 => ?_)
    ·have g22 : ((encM m).1) = ((encMR m).1) := beq_t h22
     refine step_g1 rfl h22 (step_r rfl rfl trivial (step_g1 rfl h22 (step_r rfl rfl trivial (step_g1 rfl h22 (step_bin rfl rfl rfl rfl rfl trivial (step_pickT rfl h22 rfl rfl (step_r rfl rfl trivial ?_)))))))
     refine step_gs rfl (fun h24 => ?_) (fun h24 => ?_)
     ·have g24 : ((encM m).2 : Int) = ((encMR m).2) := beq_t h24
      refine step_g1 rfl h24 (step_r rfl rfl trivial (step_g1 rfl h24 (step_r rfl rfl trivial (step_g1 rfl h24 (step_bin rfl rfl rfl rfl rfl trivial (step_pickT rfl h24 rfl rfl (step_r rfl rfl trivial ?_)))))))
      refine step_gs rfl (fun h26 => ?_) (fun h26 => ?_)
      ·have g26 : ((sizeM do_).1 : Int) = ((sizeR do_).1) := beq_t h26
       refine step_g1 rfl h26 (step_r rfl rfl trivial (step_g1 rfl h26 (step_r rfl rfl trivial (step_g1 rfl h26 (step_bin rfl rfl rfl rfl rfl trivial (step_pickT rfl h26 rfl rfl (step_r rfl rfl trivial ?_)))))))
       refine step_gs rfl (fun h28 => ?_) (fun h28 => ?_)
       ·have g28 : ((sizeM do_).2) = ((sizeR do_).2) := beq_t h28
        refine step_g1 rfl h28 (step_r (v := (.agg [_, _, _])) rfl rfl (Nat.le_of_ble_eq_true rfl) (step_g1 rfl h28 (step_call rfl rfl rfl rfl (rightM_ok m) rfl rfl rfl (step_g1 rfl h28 (step_r (v := (.agg [_, _, _])) rfl rfl (Nat.le_of_ble_eq_true rfl) (step_g1 rfl h28 (step_call rfl rfl rfl rfl (rightMR_ok m (by first | assumption | omega | (simp only [IntKind.wrap_i64] at *; omega) | (simp; omega))) rfl rfl rfl (step_g1 rfl h28 (step_bin rfl rfl rfl rfl rfl trivial (step_pickT rfl h28 rfl rfl (step_r rfl rfl trivial ?_)))))))))))
        refine step_gs rfl (fun h30 => ?_) (fun h30 => ?_)
        ·have g30 : (rightM m) = (rightMR m) := beq_t h30
         refine step_g1 rfl h30 (step_r (v := (.agg [_, _, _])) rfl rfl (Nat.le_of_ble_eq_true rfl) (step_g1 rfl h30 (step_r (v := (.agg [_, _, _])) rfl rfl (Nat.le_of_ble_eq_true rfl) (step_g1 rfl h30 (step_call rfl rfl rfl rfl (sameM_ok m o) rfl rfl rfl (step_g1 rfl h30 (step_r (v := (.agg [_, _, _])) rfl rfl (Nat.le_of_ble_eq_true rfl) (step_g1 rfl h30 (step_r (v := (.agg [_, _, _])) rfl rfl (Nat.le_of_ble_eq_true rfl) (step_g1 rfl h30 (step_call rfl rfl rfl rfl (sameMR_ok m o) rfl rfl rfl ?_)))))))))))
         refine step_g1 rfl h30 (step_bin rfl rfl rfl rfl rfl trivial (step_pickT rfl h30 rfl rfl (step_r rfl rfl trivial (step_nil (seqK_n (sem_ret ?_))))))
         have e32 : writes12 m o do_ = ((sameM m o) == (sameMR m o)) := by
          unfold writes12
          try dsimp only
          rewrite [hJ2]
          try dsimp only
          rewrite [if_pos g9, if_pos g20, if_pos g22, if_pos g24, if_pos g26, if_pos g28, if_pos g30]
          all_goals rfl
         rw [e32]
         exact answersR rfl ⟨trivial, trivial⟩ (rfl) rfl
        ·have g30 : ¬ ((rightM m) = (rightMR m)) := beq_f h30
         refine step_g0 rfl h30 rfl (step_g0 rfl h30 rfl (step_g0 rfl h30 rfl (step_g0 rfl h30 rfl (step_g0 rfl h30 rfl (step_g0 rfl h30 rfl (step_g0 rfl h30 rfl (step_pickF rfl h30 rfl rfl (step_r rfl rfl trivial (step_nil (seqK_n (sem_ret ?_)))))))))))
         have e33 : writes12 m o do_ = false := by
          unfold writes12
          try dsimp only
          rewrite [hJ2]
          try dsimp only
          rewrite [if_pos g9, if_pos g20, if_pos g22, if_pos g24, if_pos g26, if_pos g28, if_neg g30]
          all_goals rfl
         rw [e33]
         exact answersR rfl ⟨trivial, trivial⟩ (rfl) rfl
       ·have g28 : ¬ (((sizeM do_).2) = ((sizeR do_).2)) := beq_f h28
        refine step_g0 rfl h28 rfl (step_g0 rfl h28 rfl (step_g0 rfl h28 rfl (step_g0 rfl h28 rfl (step_g0 rfl h28 rfl (step_pickF rfl h28 rfl rfl (step_r rfl rfl trivial (step_gf rfl rfl (step_gf rfl rfl (step_gf rfl rfl (step_gf rfl rfl (step_gf rfl rfl ?_)))))))))))
        refine step_gf rfl rfl (step_gf rfl rfl (step_r rfl rfl trivial (step_r rfl rfl trivial (step_nil (seqK_n (sem_ret ?_))))))
        have e34 : writes12 m o do_ = false := by
         unfold writes12
         try dsimp only
         rewrite [hJ2]
         try dsimp only
         rewrite [if_pos g9, if_pos g20, if_pos g22, if_pos g24, if_pos g26, if_neg g28]
         all_goals rfl
        rw [e34]
        exact answersR rfl ⟨trivial, trivial⟩ (rfl) rfl
      ·have g26 : ¬ (((sizeM do_).1 : Int) = ((sizeR do_).1)) := beq_f h26
       refine step_g0 rfl h26 rfl (step_g0 rfl h26 rfl (step_g0 rfl h26 rfl (step_pickF rfl h26 rfl rfl (step_r rfl rfl trivial (step_gf rfl rfl (step_gf rfl rfl (step_gf rfl rfl (step_gf rfl rfl (step_gf rfl rfl (step_r rfl rfl trivial (step_r rfl rfl trivial ?_)))))))))))
       refine step_gf rfl rfl (step_gf rfl rfl (step_gf rfl rfl (step_gf rfl rfl (step_gf rfl rfl (step_gf rfl rfl (step_gf rfl rfl (step_r rfl rfl trivial (step_r rfl rfl trivial (step_nil (seqK_n (sem_ret ?_)))))))))))
       have e35 : writes12 m o do_ = false := by
        unfold writes12
        try dsimp only
        rewrite [hJ2]
        try dsimp only
        rewrite [if_pos g9, if_pos g20, if_pos g22, if_pos g24, if_neg g26]
        all_goals rfl
       rw [e35]
       exact answersR rfl ⟨trivial, trivial⟩ (rfl) rfl
     ·have g24 : ¬ (((encM m).2 : Int) = ((encMR m).2)) := beq_f h24
      refine step_g0 rfl h24 rfl (step_g0 rfl h24 rfl (step_g0 rfl h24 rfl (step_pickF rfl h24 rfl rfl (step_r rfl rfl trivial (step_gf rfl rfl (step_gf rfl rfl (step_gf rfl rfl (step_r rfl rfl trivial (step_r rfl rfl trivial (step_gf rfl rfl (step_gf rfl rfl ?_)))))))))))
      refine step_gf rfl rfl (step_gf rfl rfl (step_gf rfl rfl (step_r rfl rfl trivial (step_r rfl rfl trivial (step_gf rfl rfl (step_gf rfl rfl (step_gf rfl rfl (step_gf rfl rfl (step_gf rfl rfl (step_gf rfl rfl (step_gf rfl rfl ?_)))))))))))
      refine step_r rfl rfl trivial (step_r rfl rfl trivial (step_nil (seqK_n (sem_ret ?_))))
      have e36 : writes12 m o do_ = false := by
       unfold writes12
       try dsimp only
       rewrite [hJ2]
       try dsimp only
       rewrite [if_pos g9, if_pos g20, if_pos g22, if_neg g24]
       all_goals rfl
      rw [e36]
      exact answersR rfl ⟨trivial, trivial⟩ (rfl) rfl
    ·have g22 : ¬ (((encM m).1) = ((encMR m).1)) := beq_f h22
     refine step_g0 rfl h22 rfl (step_g0 rfl h22 rfl (step_g0 rfl h22 rfl (step_pickF rfl h22 rfl rfl (step_r rfl rfl trivial (step_gf rfl rfl (step_gf rfl rfl (step_gf rfl rfl (step_r rfl rfl trivial (step_r rfl rfl trivial (step_gf rfl rfl (step_gf rfl rfl ?_)))))))))))
     refine step_gf rfl rfl (step_r rfl rfl trivial (step_r rfl rfl trivial (step_gf rfl rfl (step_gf rfl rfl (step_gf rfl rfl (step_gf rfl rfl (step_gf rfl rfl (step_r rfl rfl trivial (step_r rfl rfl trivial (step_gf rfl rfl (step_gf rfl rfl ?_)))))))))))
     refine step_gf rfl rfl (step_gf rfl rfl (step_gf rfl rfl (step_gf rfl rfl (step_gf rfl rfl (step_r rfl rfl trivial (step_r rfl rfl trivial (step_nil (seqK_n (sem_ret ?_)))))))))
     have e37 : writes12 m o do_ = false := by
      unfold writes12
      try dsimp only
      rewrite [hJ2]
      try dsimp only
      rewrite [if_pos g9, if_pos g20, if_neg g22]
      all_goals rfl
     rw [e37]
     exact answersR rfl ⟨trivial, trivial⟩ (rfl) rfl
   ·have g20 : ¬ (small12 = true) := boo_f h20
    refine step_g0 rfl h20 rfl (step_g0 rfl h20 rfl (step_g0 rfl h20 rfl (step_g0 rfl h20 rfl (step_g0 rfl h20 rfl (step_pickF rfl h20 rfl rfl (step_r rfl rfl trivial (step_gf rfl rfl (step_gf rfl rfl (step_gf rfl rfl (step_r rfl rfl trivial (step_r rfl rfl trivial ?_)))))))))))
    refine step_gf rfl rfl (step_gf rfl rfl (step_gf rfl rfl (step_r rfl rfl trivial (step_r rfl rfl trivial (step_gf rfl rfl (step_gf rfl rfl (step_gf rfl rfl (step_r rfl rfl trivial (step_r rfl rfl trivial (step_gf rfl rfl (step_gf rfl rfl ?_)))))))))))
    refine step_gf rfl rfl (step_gf rfl rfl (step_gf rfl rfl (step_r rfl rfl trivial (step_r rfl rfl trivial (step_gf rfl rfl (step_gf rfl rfl (step_gf rfl rfl (step_gf rfl rfl (step_gf rfl rfl (step_gf rfl rfl (step_gf rfl rfl ?_)))))))))))
    refine step_r rfl rfl trivial (step_r rfl rfl trivial (step_nil (seqK_n (sem_ret ?_))))
    have e38 : writes12 m o do_ = false := by
     unfold writes12
     try dsimp only
     rewrite [hJ2]
     try dsimp only
     rewrite [if_pos g9, if_neg g20]
     all_goals rfl
    rw [e38]
    exact answersR rfl ⟨trivial, trivial⟩ (rfl) rfl

def back12_J38 (m : GMessage) : Sum Bool Unit :=
  if ((encM m).2 : Int) = 0 then (if ((decM ((encM m).1)).2 : Int) = 0 then (if sameM ((decM ((encM m).1)).1) m = true then (if ((wrapF ((encM m).1)).2 : Int) = 0 then (if ((wrapF ((encM m).1)).1.length : Int) ≤ ((encM m).1.length) then .inl false else .inr ()) else .inl false) else .inl false) else .inl false) else .inr ()
def back12_J76 (load : List UInt8) : Bool :=
  if small12 = true then (sameM ((decM load).1) (⟨0, [], []⟩ : GMessage)) else false
def back12 (m : GMessage) (load : List UInt8) : Bool :=
  if few12 m = true then (if (load.length : Int) > 2048 then (small12) else if (((encM m).2 : Int) == 0) = (rightM m) then (match back12_J38 m with
    | .inl r_ => r_
    | .inr () => if ((decM load).2 : Int) = 0 then (if small12 = true then (if ((encM ((decM load).1)).2 : Int) = 0 then (((encM ((decM load).1)).1) == load) else false) else false) else (let t4_76 := back12_J76 load; t4_76)) else false) else (small12)
theorem back12_ok (m : GMessage) (load : List UInt8) (load_f : Bool) : Ok Tryd.prog 5 [aGMessage m, .pv (.slc load.length load_f (encY load))] [] (B (back12 m load)) [] [] := by
 refine Ok.len fun hlen => ?_
 have hl_m_L : m.L.length ≤ maxLen := hlen _ (by simp [lensL, lens, lensP])
 have hl_load : load.length ≤ maxLen := hlen _ (by simp [lensL, lens, lensP])
 unfold maxLen at hl_m_L hl_load
 refine ok_of_sem Tryd.func5 rfl ?_
 show Walks Tryd.prog _ _ ⟨[(0, aGMessage m), (1, .pv (.slc load.length load_f (encY load)))], [], 0, [], 99, 0⟩
 refine sem_seq (sem_region rfl (step_n (o := .box [_, _, _]) (nx' := 1) rfl rfl rfl trivial (step_r rfl rfl trivial (step_nil (seqK_n (sem_seq (sem_region rfl (step_call rfl rfl rfl rfl (small12_ok ) rfl rfl rfl (step_r rfl rfl trivial (step_nil (seqK_n ?_)))))))))))
 refine sem_seq (sem_region rfl (step_r (v := (.agg [_, _, _])) rfl rfl (Nat.le_of_ble_eq_true rfl) (step_call rfl rfl rfl rfl (few12_ok m) rfl rfl rfl (step_r rfl rfl trivial (step_nil (seqK_n (sem_seq (sem_seq (sem_region rfl (step_r rfl rfl trivial (step_r rfl rfl trivial ?_)))))))))))
 refine step_r rfl rfl trivial ?_
 refine step_gs rfl (fun h4 => ?_) (fun h4 => ?_)
 ·have g4 : ¬ (few12 m = true) := boo_f (not_t h4)
  refine step_g0 rfl h4 rfl (step_g0 rfl h4 rfl (step_g0 rfl h4 rfl (step_pickT rfl h4 rfl rfl (step_nil (seqK_n (sem_condT rfl (sem_seq (sem_region rfl (step_r rfl rfl trivial (step_r rfl rfl trivial (step_nil ?_)))))))))))
  refine seqK_n (sem_ret (seqK_r ?_))
  have e5 : back12 m load = (small12) := by
   unfold back12
   try dsimp only
   rewrite [if_neg g4]
   all_goals rfl
  rw [e5]
  exact answersR rfl ⟨trivial, trivial⟩ (rfl) rfl
 ·have g4 : few12 m = true := (not_f h4)
  have qg4 := few12_of g4
  refine step_g1 rfl h4 (step_r rfl rfl trivial (step_g1 rfl h4 (step_r rfl rfl trivial (step_g1 rfl h4 (step_bin rfl rfl rfl rfl rfl trivial (step_pickF rfl h4 rfl rfl (step_nil (seqK_n ?_))))))))
  refine sem_cond rfl (fun h7 => ?_) (fun h7 => ?_)
  ·have g7 : (load.length : Int) > 2048 := of_decide_eq_true h7
   refine sem_seq (sem_region rfl (step_r rfl rfl trivial (step_r rfl rfl trivial (step_nil (seqK_n (sem_ret (seqK_r ?_)))))))
   have e8 : back12 m load = (small12) := by
    unfold back12
    try dsimp only
    rewrite [if_pos g4, if_pos g7]
    all_goals rfl
   rw [e8]
   exact answersR rfl ⟨trivial, trivial⟩ (rfl) rfl
  ·have g7 : ¬ ((load.length : Int) > 2048) := of_decide_eq_false h7
   refine sem_skip (seqK_n (sem_seq (sem_region rfl (step_r (v := (.agg [_, _, _])) rfl rfl (Nat.le_of_ble_eq_true rfl) ?_))))
   refine step_callN (out' := .tup [.ref 1 _ _ _, _]) (H' := [(1, .row _ _ _), (0, _)]) (nx' := 2) rfl rfl rfl rfl rfl rfl rfl (by (repeat' apply And.intro) <;> first | trivial | rfl | exact flat_len (fun _ => rfl) _ | exact encI_len _ | exact encB_len _ | exact encY_len _ | exact Nat.le_of_ble_eq_true rfl | assumption) (encM_ok m) rfl rfl rfl rfl ?_
   refine step_r rfl rfl trivial (step_r rfl rfl trivial (step_r rfl rfl trivial (step_r rfl rfl trivial (step_r rfl rfl trivial (step_nil (seqK_n (sem_seq (sem_seq (sem_region rfl (step_r rfl rfl trivial (step_bin rfl rfl rfl rfl rfl trivial ?_)))))))))))
   refine step_r (v := (.agg [_, _, _])) rfl rfl (Nat.le_of_ble_eq_true rfl) (step_call rfl rfl rfl rfl (rightM_ok m) rfl rfl rfl (step_bin rfl rfl rfl rfl rfl trivial (step_nil (seqK_n ?_))))
   refine sem_cond rfl (fun h10 => ?_) (fun h10 => ?_)
   ·have g10 : ¬ ((((encM m).2 : Int) == 0) = (rightM m)) := beq_f (not_t h10)
    refine sem_seq (sem_region rfl (step_r rfl rfl trivial (step_nil (seqK_n (sem_ret (seqK_r ?_))))))
    have e11 : back12 m load = false := by
     unfold back12
     try dsimp only
     rewrite [if_pos g4, if_neg g7, if_neg g10]
     all_goals rfl
    rw [e11]
    exact answersR rfl ⟨trivial, trivial⟩ (rfl) rfl
   ·have g10 : (((encM m).2 : Int) == 0) = (rightM m) := beq_t (not_f h10)
    refine sem_skip (seqK_n (sem_seq ?_))
    refine sem_cutW (fun w_ : Unit => match w_ with | () => (⟨[(1, .pv (.slc load.length load_f (encY load))), (5, B (small12))], [], 0, [], 99, 0⟩ : St)) (fun w_ => back12_J38 m = .inr w_) ?_ ?_
    ·refine sem_seq (sem_region rfl (step_r rfl rfl trivial (step_bin rfl rfl rfl rfl rfl trivial (step_nil (seqK_n ?_)))))
     refine sem_cond rfl (fun h13 => ?_) (fun h13 => ?_)
     ·have g13 : ((encM m).2 : Int) = 0 := beq_t h13
      refine sem_seq (sem_region rfl (step_r rfl rfl trivial ?_))
      refine step_callJ (Hin := [.row _ _ _]) (out' := .tup [.agg [_, .ref 2 _ _ _, _], _]) (H' := [(2, .row _ _ _), (1, _), (0, _)]) (nx' := 3) [1] rfl rfl rfl rfl rfl rfl rfl rfl rfl (by (repeat' apply And.intro) <;> first | trivial | rfl | exact flat_len (fun _ => rfl) _ | exact encI_len _ | exact encB_len _ | exact encY_len _ | exact Nat.le_of_ble_eq_true rfl | assumption) (decM_ok ((encM m).1) false) rfl (by decide) rfl rfl ⟨encI_solid, trivial⟩ rfl rfl rfl rfl ?_
      have p14 := decM_len ((encM m).1)
      refine step_r rfl rfl trivial (step_r rfl rfl trivial (step_r rfl rfl trivial (step_n (o := .box [_, _, _]) (nx' := 4) rfl rfl rfl trivial ?_)))
      refine step_storeB (H' := [(3, .box [_, _, _]), (2, _), (1, _), (0, _)]) rfl rfl rfl rfl rfl rfl (.inl rfl) rfl ?_
      refine step_r rfl rfl trivial (step_nil (seqK_n (sem_seq (sem_region rfl (step_r rfl rfl trivial ?_)))))
      refine step_callJ (Hin := [.row _ _ _]) (out' := .tup [.ref 4 _ _ _, _]) (H' := [(4, .row _ _ _), (3, _), (2, _), (1, _), (0, _)]) (nx' := 5) [1] rfl rfl rfl rfl rfl rfl rfl rfl rfl (by (repeat' apply And.intro) <;> first | trivial | rfl | exact flat_len (fun _ => rfl) _ | exact encI_len _ | exact encB_len _ | exact encY_len _ | exact Nat.le_of_ble_eq_true rfl | assumption) (wrapF_ok ((encM m).1) false) rfl (by decide) rfl rfl ⟨encY_solid, trivial⟩ rfl rfl rfl rfl ?_
      refine step_r rfl rfl trivial (step_r rfl rfl trivial (step_r rfl rfl trivial (step_r rfl rfl trivial (step_r rfl rfl trivial (step_nil (seqK_n (sem_seq (sem_region rfl (step_r rfl rfl trivial (step_bin rfl rfl rfl rfl rfl trivial (step_r rfl rfl trivial ?_)))))))))))
      refine step_gs rfl (fun h18 => ?_) (fun h18 => ?_)
      ·have g18 : ¬ (((decM ((encM m).1)).2 : Int) = 0) := bne_t h18
       refine step_g0 rfl h18 rfl (step_g0 rfl h18 rfl (step_g0 rfl h18 rfl (step_g0 rfl h18 rfl (step_pickT rfl h18 rfl rfl (step_r rfl rfl trivial (step_gf rfl rfl (step_gf rfl rfl (step_r rfl rfl trivial (step_r rfl rfl trivial (step_gf rfl rfl (step_gf rfl rfl ?_)))))))))))
       refine step_gf rfl rfl (step_gf rfl rfl (step_gf rfl rfl (step_r rfl rfl trivial (step_nil (seqK_n (sem_condT rfl (sem_seq (sem_region rfl (step_r rfl rfl trivial (step_nil (seqK_n ?_)))))))))))
       refine sem_ret (cutW_r (seqK_r ?_))
       have e19 : back12_J38 m = .inl false := by
        unfold back12_J38
        try dsimp only
        rewrite [if_pos g13, if_neg g18]
        all_goals rfl
       have e20 : back12 m load = false := by
        unfold back12
        try dsimp only
        rewrite [if_pos g4, if_neg g7, if_pos g10, e19]
        try dsimp only
        all_goals rfl
       rw [e20]
       exact answersR rfl ⟨trivial, trivial⟩ (rfl) rfl
      ·have g18 : ((decM ((encM m).1)).2 : Int) = 0 := bne_f h18
       refine step_g1 rfl h18 (step_r (v := (.agg [_, _, _])) rfl rfl (Nat.le_of_ble_eq_true rfl) (step_g1 rfl h18 (step_r (v := (.agg [_, _, _])) rfl rfl (Nat.le_of_ble_eq_true rfl) (step_g1 rfl h18 ?_))))
       refine step_callJ (Hin := [.row _ _ _]) (H' := [(4, _), (3, _), (2, _), (1, _), (0, _)]) (nx' := 5) [2] rfl rfl rfl rfl rfl rfl rfl rfl rfl (by (repeat' apply And.intro) <;> first | trivial | rfl | exact flat_len (fun _ => rfl) _ | exact encI_len _ | exact encB_len _ | exact encY_len _ | exact Nat.le_of_ble_eq_true rfl | assumption) (sameM_ok ((decM ((encM m).1)).1) m) rfl (by decide) rfl rfl trivial rfl rfl rfl rfl ?_
       refine step_g1 rfl h18 (step_r rfl rfl trivial (step_pickF rfl h18 rfl rfl (step_r rfl rfl trivial ?_)))
       refine step_gs rfl (fun h22 => ?_) (fun h22 => ?_)
       ·have g22 : ¬ (sameM ((decM ((encM m).1)).1) m = true) := boo_f (not_t h22)
        refine step_g0 rfl h22 rfl (step_g0 rfl h22 rfl (step_pickT rfl h22 rfl rfl (step_r rfl rfl trivial (step_gf rfl rfl (step_gf rfl rfl (step_gf rfl rfl (step_gf rfl rfl (step_gf rfl rfl (step_r rfl rfl trivial (step_nil (seqK_n ?_)))))))))))
        refine sem_condT rfl (sem_seq (sem_region rfl (step_r rfl rfl trivial (step_nil (seqK_n (sem_ret (cutW_r (seqK_r ?_))))))))
        have e23 : back12_J38 m = .inl false := by
         unfold back12_J38
         try dsimp only
         rewrite [if_pos g13, if_pos g18, if_neg g22]
         all_goals rfl
        have e24 : back12 m load = false := by
         unfold back12
         try dsimp only
         rewrite [if_pos g4, if_neg g7, if_pos g10, e23]
         try dsimp only
         all_goals rfl
        rw [e24]
        exact answersR rfl ⟨trivial, trivial⟩ (rfl) rfl
       ·have g22 : sameM ((decM ((encM m).1)).1) m = true := (not_f h22)
        refine step_g1 rfl h22 (step_r rfl rfl trivial (step_g1 rfl h22 (step_bin rfl rfl rfl rfl rfl trivial (step_pickF rfl h22 rfl rfl (step_r rfl rfl trivial ?_)))))
        refine step_gs rfl (fun h26 => ?_) (fun h26 => ?_)
        ·have g26 : ¬ (((wrapF ((encM m).1)).2 : Int) = 0) := bne_t h26
         refine step_g0 rfl h26 rfl (step_g0 rfl h26 rfl (step_g0 rfl h26 rfl (step_g0 rfl h26 rfl (step_g0 rfl h26 rfl (step_pickT rfl h26 rfl rfl (step_nil (seqK_n (sem_condT rfl (sem_seq (sem_region rfl (step_r rfl rfl trivial ?_)))))))))))
         refine step_nil (seqK_n (sem_ret (cutW_r (seqK_r ?_))))
         have e27 : back12_J38 m = .inl false := by
          unfold back12_J38
          try dsimp only
          rewrite [if_pos g13, if_pos g18, if_pos g22, if_neg g26]
          all_goals rfl
         have e28 : back12 m load = false := by
          unfold back12
          try dsimp only
          rewrite [if_pos g4, if_neg g7, if_pos g10, e27]
          try dsimp only
          all_goals rfl
         rw [e28]
         exact answersR rfl ⟨trivial, trivial⟩ (rfl) rfl
        ·have g26 : ((wrapF ((encM m).1)).2 : Int) = 0 := bne_f h26
         refine step_g1 rfl h26 (step_r rfl rfl trivial (step_g1 rfl h26 (step_r rfl rfl trivial (step_g1 rfl h26 (step_r rfl rfl trivial (step_g1 rfl h26 (step_r rfl rfl trivial (step_g1 rfl h26 (step_bin rfl rfl rfl rfl rfl trivial (step_pickF rfl h26 rfl rfl (step_nil ?_)))))))))))
         refine seqK_n ?_
         refine sem_cond rfl (fun h30 => ?_) (fun h30 => ?_)
         ·have g30 : ((wrapF ((encM m).1)).1.length : Int) ≤ ((encM m).1.length) := of_decide_eq_true h30
          refine sem_seq (sem_region rfl (step_r rfl rfl trivial (step_nil (seqK_n (sem_ret (cutW_r (seqK_r ?_)))))))
          have e31 : back12_J38 m = .inl false := by
           unfold back12_J38
           try dsimp only
           rewrite [if_pos g13, if_pos g18, if_pos g22, if_pos g26, if_pos g30]
           all_goals rfl
          have e32 : back12 m load = false := by
           unfold back12
           try dsimp only
           rewrite [if_pos g4, if_neg g7, if_pos g10, e31]
           try dsimp only
           all_goals rfl
          rw [e32]
          exact answersR rfl ⟨trivial, trivial⟩ (rfl) rfl
         ·have g30 : ¬ (((wrapF ((encM m).1)).1.length : Int) ≤ ((encM m).1.length)) := of_decide_eq_false h30
          refine sem_skip ?_
          have e33 : back12_J38 m = .inr () := by
           unfold back12_J38
           try dsimp only
           rewrite [if_pos g13, if_pos g18, if_pos g22, if_pos g26, if_neg g30]
           all_goals rfl
          exact cutW_n () e33 (Trans.ren [] (by decide +kernel) (by decide +kernel) rfl ⟨⟨rfl, rfl⟩, ⟨rfl, rfl⟩, trivial⟩ trivial (by decide))
     ·have g13 : ¬ (((encM m).2 : Int) = 0) := beq_f h13
      refine sem_skip ?_
      have e34 : back12_J38 m = .inr () := by
       unfold back12_J38
       try dsimp only
       rewrite [if_neg g13]
       all_goals rfl
      exact cutW_n () e34 (Trans.ren [] (by decide +kernel) (by decide +kernel) rfl ⟨⟨rfl, rfl⟩, ⟨rfl, rfl⟩, trivial⟩ trivial (by decide))
    ·rintro ⟨⟩ (hJ12 : back12_J38 m = .inr ())
     show seqK _ _ _ .normal (⟨[(1, .pv (.slc load.length load_f (encY load))), (5, B (small12))], [], 0, [], 99, 0⟩ : St)
     refine seqK_n (sem_seq (sem_region rfl (step_r rfl rfl trivial ?_)))
     refine step_callN (out' := .tup [.agg [_, .ref 0 _ _ _, _], _]) (H' := [(0, .row _ _ _)]) (nx' := 1) rfl rfl rfl rfl rfl rfl rfl (by (repeat' apply And.intro) <;> first | trivial | rfl | exact flat_len (fun _ => rfl) _ | exact encI_len _ | exact encB_len _ | exact encY_len _ | exact Nat.le_of_ble_eq_true rfl | assumption) (decM_ok load false) rfl rfl rfl rfl ?_
     have p35 := decM_len load
     refine step_r rfl rfl trivial (step_r rfl rfl trivial (step_r rfl rfl trivial (step_n (o := .box [_, _, _]) (nx' := 2) rfl rfl rfl trivial ?_)))
     refine step_storeB (H' := [(1, .box [_, _, _]), (0, _)]) rfl rfl rfl rfl rfl rfl (.inl rfl) rfl ?_
     refine step_r rfl rfl trivial (step_nil (seqK_n (sem_seq (sem_seq (sem_region rfl (step_r rfl rfl trivial (step_bin rfl rfl rfl rfl rfl trivial (step_nil (seqK_n ?_)))))))))
     refine sem_cond rfl (fun h37 => ?_) (fun h37 => ?_)
     ·have g37 : ¬ (((decM load).2 : Int) = 0) := bne_t h37
      refine sem_seq ?_
      refine sem_cutW (fun t4_76 : Bool => (⟨[(4, B t4_76)], [], 0, [], 99, 0⟩ : St)) (fun w_ => back12_J76 load = w_) ?_ ?_
      ·refine sem_region rfl (step_r rfl rfl trivial (step_r rfl rfl trivial ?_))
       refine step_gs rfl (fun h40 => ?_) (fun h40 => ?_)
       ·have g40 : small12 = true := h40
        refine step_g1 rfl h40 (step_r (v := (.agg [_, _, _])) rfl rfl (Nat.le_of_ble_eq_true rfl) (step_g1 rfl h40 (step_r (v := (.agg [_, _, _])) rfl rfl trivial (step_g1 rfl h40 ?_))))
        refine step_callJ (Hin := [.row _ _ _]) (H' := [(1, _), (0, _)]) (nx' := 2) [0] rfl rfl rfl rfl rfl rfl rfl rfl rfl (by (repeat' apply And.intro) <;> first | trivial | rfl | exact flat_len (fun _ => rfl) _ | exact encI_len _ | exact encB_len _ | exact encY_len _ | exact Nat.le_of_ble_eq_true rfl | assumption) (sameM_ok ((decM load).1) (⟨0, [], []⟩ : GMessage)) rfl (by decide) rfl rfl trivial rfl rfl rfl rfl ?_
        refine step_pickT rfl h40 rfl rfl (step_r rfl rfl trivial (step_nil ?_))
        have e42 : back12_J76 load = (sameM ((decM load).1) (⟨0, [], []⟩ : GMessage)) := by
         unfold back12_J76
         try dsimp only
         rewrite [if_pos g40]
         all_goals rfl
        exact cutW_n (sameM ((decM load).1) (⟨0, [], []⟩ : GMessage)) e42 (Trans.ren [] (by decide +kernel) (by decide +kernel) rfl ⟨⟨rfl, rfl⟩, trivial⟩ trivial (by decide))
       ·have g40 : ¬ (small12 = true) := boo_f h40
        refine step_g0 rfl h40 rfl (step_g0 rfl h40 rfl (step_g0 rfl h40 rfl (step_pickF rfl h40 rfl rfl (step_r rfl rfl trivial (step_nil ?_)))))
        have e43 : back12_J76 load = false := by
         unfold back12_J76
         try dsimp only
         rewrite [if_neg g40]
         all_goals rfl
        exact cutW_n false e43 (Trans.ren [] (by decide +kernel) (by decide +kernel) rfl ⟨⟨rfl, rfl⟩, trivial⟩ trivial (by decide))
      ·rintro t4_76 (hJ38 : back12_J76 load = t4_76)
       show seqK _ _ _ .normal (⟨[(4, B t4_76)], [], 0, [], 99, 0⟩ : St)
       refine seqK_n (sem_ret (seqK_r ?_))
       have e44 : back12 m load = t4_76 := by
        unfold back12
        try dsimp only
        rewrite [if_pos g4, if_neg g7, if_pos g10, hJ12]
        try dsimp only
        rewrite [if_neg g37, hJ38]
        try dsimp only
        all_goals rfl
       rw [e44]
       exact answersR rfl ⟨trivial, trivial⟩ (rfl) rfl
     ·have g37 : ((decM load).2 : Int) = 0 := bne_f h37
      refine sem_skip (seqK_n (sem_seq (sem_region rfl (step_r (v := (.agg [_, _, _])) rfl rfl (Nat.le_of_ble_eq_true rfl) ?_))))
      refine step_callJ (Hin := [.row _ _ _]) (out' := .tup [.ref 2 _ _ _, _]) (H' := [(2, .row _ _ _), (1, _), (0, _)]) (nx' := 3) [0] rfl rfl rfl rfl rfl rfl rfl rfl rfl (by (repeat' apply And.intro) <;> first | trivial | rfl | exact flat_len (fun _ => rfl) _ | exact encI_len _ | exact encB_len _ | exact encY_len _ | exact Nat.le_of_ble_eq_true rfl | assumption) (encM_ok ((decM load).1)) rfl (by decide) rfl rfl ⟨encY_solid, trivial⟩ rfl rfl rfl rfl ?_
      refine step_r rfl rfl trivial (step_r rfl rfl trivial (step_r rfl rfl trivial (step_r rfl rfl trivial (step_r rfl rfl trivial (step_nil (seqK_n (sem_seq (sem_region rfl (step_r rfl rfl trivial (step_r rfl rfl trivial ?_))))))))))
      refine step_gs rfl (fun h47 => ?_) (fun h47 => ?_)
      ·have g47 : small12 = true := h47
       refine step_g1 rfl h47 (step_r rfl rfl trivial (step_g1 rfl h47 (step_bin rfl rfl rfl rfl rfl trivial (step_pickT rfl h47 rfl rfl (step_r rfl rfl trivial ?_)))))
       refine step_gs rfl (fun h49 => ?_) (fun h49 => ?_)
       ·have g49 : ((encM ((decM load).1)).2 : Int) = 0 := beq_t h49
        refine step_g1 rfl h49 (step_r rfl rfl trivial (step_g1 rfl h49 ?_))
        refine step_cstrR (l := (encM ((decM load).1)).1) rfl rfl rfl rfl rfl rfl ?_
        refine step_g1 rfl h49 (step_r rfl rfl trivial (step_g1 rfl h49 ?_))
        refine step_cstr (l := load) rfl rfl rfl rfl rfl ?_
        refine step_g1 rfl h49 (step_bin rfl rfl rfl rfl rfl trivial (step_pickT rfl h49 rfl rfl (step_r rfl rfl trivial (step_nil (seqK_n (sem_ret ?_))))))
        have e51 : back12 m load = (((encM ((decM load).1)).1) == load) := by
         unfold back12
         try dsimp only
         rewrite [if_pos g4, if_neg g7, if_pos g10, hJ12]
         try dsimp only
         rewrite [if_pos g37, if_pos g47, if_pos g49]
         all_goals rfl
        rw [e51]
        exact answersR rfl ⟨trivial, trivial⟩ (rfl) rfl
       ·have g49 : ¬ (((encM ((decM load).1)).2 : Int) = 0) := beq_f h49
        refine step_g0 rfl h49 rfl (step_g0 rfl h49 rfl (step_g0 rfl h49 rfl (step_g0 rfl h49 rfl (step_g0 rfl h49 rfl (step_pickF rfl h49 rfl rfl (step_r rfl rfl trivial (step_nil (seqK_n (sem_ret ?_)))))))))
        have e52 : back12 m load = false := by
         unfold back12
         try dsimp only
         rewrite [if_pos g4, if_neg g7, if_pos g10, hJ12]
         try dsimp only
         rewrite [if_pos g37, if_pos g47, if_neg g49]
         all_goals rfl
        rw [e52]
        exact answersR rfl ⟨trivial, trivial⟩ (rfl) rfl
      ·have g47 : ¬ (small12 = true) := boo_f h47
       refine step_g0 rfl h47 rfl (step_g0 rfl h47 rfl (step_pickF rfl h47 rfl rfl (step_r rfl rfl trivial (step_gf rfl rfl (step_gf rfl rfl (step_gf rfl rfl (step_gf rfl rfl (step_gf rfl rfl (step_r rfl rfl trivial (step_r rfl rfl trivial (step_nil ?_)))))))))))
       refine seqK_n (sem_ret ?_)
       have e53 : back12 m load = false := by
        unfold back12
        try dsimp only
        rewrite [if_pos g4, if_neg g7, if_pos g10, hJ12]
        try dsimp only
        rewrite [if_pos g37, if_neg g47]
        all_goals rfl
       rw [e53]
       exact answersR rfl ⟨trivial, trivial⟩ (rfl) rfl

def reads12_L1 : Nat → Nat → (List Int) → Unit
  | 0, k1, o31 => ()
  | n_ + 1, k1, o31 => reads12_L1 n_ (k1 + 1) (o31.set k1 (-7))
def reads12_L0 (load : List UInt8) : Nat → Nat → Sum Bool Unit
  | 0, k0 => .inr ()
  | n_ + 1, k0 => if sameMR ((decM load).1) ((decMR load).1) = true then (if ((decM load).2 : Int) = ((decMR load).2) then (if load = load then reads12_L0 load n_ (k0 + 1) else .inl false) else .inl false) else .inl false
def reads12 (load : List UInt8) : Bool :=
  if (load.length : Int) > 2048 then (small12) else (match reads12_L0 load (2 - 0) 0 with
    | .inl r_ => r_
    | .inr () => (small12))
theorem reads12_ok (load : List UInt8) (load_f : Bool) : Ok Tryd.prog 4 [.pv (.slc load.length load_f (encY load))] [] (B (reads12 load)) [] [] := by
 refine Ok.len fun hlen => ?_
 have hl_load : load.length ≤ maxLen := hlen _ (by simp [lensL, lens, lensP])
 unfold maxLen at hl_load
 refine ok_of_sem Tryd.func4 rfl ?_
 show Walks Tryd.prog _ _ ⟨[(0, .pv (.slc load.length load_f (encY load)))], [], 0, [], 63, 0⟩
 refine sem_seq (sem_region rfl (step_r rfl rfl trivial (step_nil (seqK_n (sem_seq (sem_region rfl (step_call rfl rfl rfl rfl (small12_ok ) rfl rfl rfl (step_r rfl rfl trivial (step_nil (seqK_n (sem_seq ?_)))))))))))
 refine sem_seq (sem_region rfl (step_r rfl rfl trivial (step_r rfl rfl trivial (step_bin rfl rfl rfl rfl rfl trivial (step_nil (seqK_n ?_))))))
 refine sem_cond rfl (fun h2 => ?_) (fun h2 => ?_)
 ·have g2 : (load.length : Int) > 2048 := of_decide_eq_true h2
  refine sem_seq (sem_region rfl (step_r rfl rfl trivial (step_r rfl rfl trivial (step_nil (seqK_n (sem_ret (seqK_r ?_)))))))
  have e3 : reads12 load = (small12) := by
   unfold reads12
   try dsimp only
   rewrite [if_pos g2]
   all_goals rfl
  rw [e3]
  exact answersR rfl ⟨trivial, trivial⟩ (rfl) rfl
 ·have g2 : ¬ ((load.length : Int) > 2048) := of_decide_eq_false h2
  refine sem_skip (seqK_n (sem_seq (sem_region rfl (step_r rfl rfl trivial ?_))))
  refine step_callN (out' := .tup [.agg [_, .ref 0 _ _ _, _], _]) (H' := [(0, .row _ _ _)]) (nx' := 1) rfl rfl rfl rfl rfl rfl rfl (by (repeat' apply And.intro) <;> first | trivial | rfl | exact flat_len (fun _ => rfl) _ | exact encI_len _ | exact encB_len _ | exact encY_len _ | exact Nat.le_of_ble_eq_true rfl | assumption) (decMR_ok load false) rfl rfl rfl rfl ?_
  refine step_r rfl rfl trivial (step_r rfl rfl trivial (step_r rfl rfl trivial (step_n (o := .box [_, _, _]) (nx' := 2) rfl rfl rfl trivial ?_)))
  refine step_storeB (H' := [(1, .box [_, _, _]), (0, _)]) rfl rfl rfl rfl rfl rfl (.inl rfl) rfl ?_
  refine step_r rfl rfl trivial (step_nil (seqK_n (sem_seq (sem_seq (sem_region rfl (step_r rfl rfl trivial (step_nil (seqK_n ?_))))))))
  refine sem_cutW (fun w_ : Unit => match w_ with | () => (⟨[(3, B (small12))], [], 0, [], 63, 0⟩ : St)) (fun w_ => reads12_L0 load (2 - 0) 0 = .inr w_) ?_ ?_
  ·refine sem_block ?_
   refine sem_loopT (fun k0 : Nat => (⟨[(0, .pv (.slc load.length load_f (encY load))), (3, B (small12)), (4, .ptr 0 0), (5, I (decMR load).2), (6, I k0)], [(0, .box [I (decMR load).1.Do, .ref 1 1 0 (decMR load).1.L.length, .pv (.str (decMR load).1.Text)]), (1, .row 3 1 (encI (decMR load).1.L))], 2, [], 63, 0⟩ : St)) (fun k0 : Nat => reads12_L0 load (2 - k0) k0 = reads12_L0 load (2 - 0) 0 ∧ k0 ≤ 2) (fun k0 : Nat => 2 - k0) 0 (⟨rfl, (by first | omega | (simp; omega))⟩) ?_ (fun k0 hh_ => ?_)
   ·exact (Trans.ren [(0, 1), (1, 0)] (by decide +kernel) (by decide +kernel) rfl ⟨⟨rfl, rfl⟩, ⟨rfl, rfl⟩, ⟨rfl, rfl⟩, ⟨rfl, rfl⟩, ⟨rfl, rfl⟩, trivial⟩ ⟨⟨rfl, rfl, rfl⟩, ⟨rfl, rfl, rfl⟩, trivial⟩ (by decide))
   obtain ⟨hI0, hb0⟩ := hh_
   show Walks Tryd.prog _ _ (⟨[(0, .pv (.slc load.length load_f (encY load))), (3, B (small12)), (4, .ptr 0 0), (5, I (decMR load).2), (6, I k0)], [(0, .box [I (decMR load).1.Do, .ref 1 1 0 (decMR load).1.L.length, .pv (.str (decMR load).1.Text)]), (1, .row 3 1 (encI (decMR load).1.L))], 2, [], 63, 0⟩ : St)
   refine sem_seq (sem_seq (sem_region rfl (step_r rfl rfl trivial (step_bin rfl rfl rfl rfl rfl trivial (step_nil (seqK_n ?_))))))
   refine sem_cond rfl (fun h7 => ?_) (fun h7 => ?_)
   ·have g7 : (k0 : Int) < 2 := of_decide_eq_true h7
    have hm0 : 2 - k0 = (2 - (k0 + 1)) + 1 := by omega
    refine sem_skip (seqK_n (sem_seq (sem_block (sem_seq (sem_region rfl (step_r rfl rfl ⟨by decide, rfl⟩ (step_r rfl rfl trivial ?_)))))))
    refine step_appendN (m := load.length) (new := encY load) (cs' := encY load) (n' := load.length) rfl rfl (rfl) rfl rfl rfl rfl rfl rfl (encY_len load) (by first | decide | (unfold maxGrow; omega) | (unfold maxGrow; simp; omega) | (unfold maxGrow; simp only [List.length_append, List.length_take, List.length_drop, List.length_cons, List.length_nil, IntKind.wrap_i64] at *; omega)) rfl rfl rfl rfl ?_
    refine step_r rfl rfl trivial (step_nil (seqK_n (sem_seq (sem_region rfl (step_r rfl rfl trivial ?_)))))
    refine step_callJ (Hin := [.row _ _ _]) (out' := .tup [.agg [_, .ref 3 _ _ _, _], _]) (H' := [(3, .row _ _ _), (2, _), (0, _), (1, _)]) (nx' := 4) [2] rfl rfl rfl rfl rfl rfl rfl rfl rfl (by (repeat' apply And.intro) <;> first | trivial | rfl | exact flat_len (fun _ => rfl) _ | exact encI_len _ | exact encB_len _ | exact encY_len _ | exact Nat.le_of_ble_eq_true rfl | assumption) (decM_ok load false) rfl (by decide) rfl rfl ⟨encI_solid, trivial⟩ rfl rfl rfl rfl ?_
    have p8 := decM_len load
    refine step_r rfl rfl trivial (step_r rfl rfl trivial (step_r rfl rfl trivial (step_n (o := .box [_, _, _]) (nx' := 5) rfl rfl rfl trivial ?_)))
    refine step_storeB (H' := [(4, .box [_, _, _]), (3, _), (2, _), (0, _), (1, _)]) rfl rfl rfl rfl rfl rfl (.inl rfl) rfl ?_
    refine step_r rfl rfl trivial (step_nil (seqK_n (sem_seq (sem_region rfl (step_r (v := (.agg [_, _, _])) rfl rfl (Nat.le_of_ble_eq_true rfl) (step_r (v := (.agg [_, _, _])) rfl rfl (Nat.le_of_ble_eq_true rfl) ?_))))))
    refine step_callJ (Hin := [.row _ _ _, .row _ _ _]) (H' := [(4, _), (3, _), (2, _), (0, _), (1, _)]) (nx' := 5) [3, 1] rfl rfl rfl rfl rfl rfl rfl rfl rfl (by (repeat' apply And.intro) <;> first | trivial | rfl | exact flat_len (fun _ => rfl) _ | exact encI_len _ | exact encB_len _ | exact encY_len _ | exact Nat.le_of_ble_eq_true rfl | assumption) (sameMR_ok ((decM load).1) ((decMR load).1)) rfl (by decide) rfl rfl trivial rfl rfl rfl rfl ?_
    refine step_r rfl rfl trivial (step_nil (seqK_n (sem_seq (sem_seq (sem_region rfl (step_r rfl rfl trivial (step_nil (seqK_n ?_))))))))
    refine sem_cutW (fun w_ : Unit => match w_ with | () => (⟨[(0, .pv (.slc load.length load_f (encY load))), (3, B (small12)), (4, .ptr 0 0), (5, I (decMR load).2), (6, I k0), (7, .ref 2 1 0 load.length), (9, I (decM load).2), (10, B (sameMR ((decM load).1) ((decMR load).1)))], [(0, .box [I (decMR load).1.Do, .ref 1 1 0 (decMR load).1.L.length, .pv (.str (decMR load).1.Text)]), (1, .row 3 1 (encI (decMR load).1.L)), (2, .row 5 1 (encY load))], 3, [], 63, 0⟩ : St)) (fun w_ => reads12_L1 (((decM load).1.L.length) - 0) 0 ((decM load).1.L) = w_) ?_ ?_
    ·refine sem_block ?_
     refine sem_loopT (fun w_ : Nat × (List Int) => match w_ with | (k1, o31) => (⟨[(0, .pv (.slc load.length load_f (encY load))), (3, B (small12)), (4, .ptr 0 0), (5, I (decMR load).2), (6, I k0), (7, .ref 2 1 0 load.length), (8, .ptr 3 0), (9, I (decM load).2), (10, B (sameMR ((decM load).1) ((decMR load).1))), (11, I k1)], [(0, .box [I (decMR load).1.Do, .ref 1 1 0 (decMR load).1.L.length, .pv (.str (decMR load).1.Text)]), (1, .row 3 1 (encI (decMR load).1.L)), (2, .row 5 1 (encY load)), (3, .box [I (decM load).1.Do, .ref 4 1 0 o31.length, .pv (.str (decM load).1.Text)]), (4, .row 3 1 (encI o31))], 5, [], 63, 0⟩ : St)) (fun w_ : Nat × (List Int) => match w_ with | (k1, o31) => reads12_L1 (((decM load).1.L.length) - k1) k1 o31 = reads12_L1 (((decM load).1.L.length) - 0) 0 ((decM load).1.L) ∧ k1 ≤ (decM load).1.L.length ∧ o31.length = (decM load).1.L.length) (fun w_ : Nat × (List Int) => match w_ with | (k1, o31) => (decM load).1.L.length - k1) (0, (decM load).1.L) (⟨rfl, (by first | omega | (simp; omega)), rfl⟩) ?_ (fun w_ hh_ => ?_)
     ·exact (Trans.ren [(3, 4), (4, 3)] (by decide +kernel) (by decide +kernel) rfl ⟨⟨rfl, rfl⟩, ⟨rfl, rfl⟩, ⟨rfl, rfl⟩, ⟨rfl, rfl⟩, ⟨rfl, rfl⟩, ⟨rfl, rfl⟩, ⟨rfl, rfl⟩, ⟨rfl, rfl⟩, ⟨rfl, rfl⟩, ⟨rfl, rfl⟩, trivial⟩ ⟨⟨rfl, rfl, rfl⟩, ⟨rfl, rfl, rfl⟩, ⟨rfl, rfl, rfl⟩, ⟨rfl, rfl, rfl⟩, ⟨rfl, rfl, rfl⟩, trivial⟩ (by decide))
     obtain ⟨k1, o31⟩ := w_
     obtain ⟨hI1, hb1, hv1⟩ := hh_
     show Walks Tryd.prog _ _ (⟨[(0, .pv (.slc load.length load_f (encY load))), (3, B (small12)), (4, .ptr 0 0), (5, I (decMR load).2), (6, I k0), (7, .ref 2 1 0 load.length), (8, .ptr 3 0), (9, I (decM load).2), (10, B (sameMR ((decM load).1) ((decMR load).1))), (11, I k1)], [(0, .box [I (decMR load).1.Do, .ref 1 1 0 (decMR load).1.L.length, .pv (.str (decMR load).1.Text)]), (1, .row 3 1 (encI (decMR load).1.L)), (2, .row 5 1 (encY load)), (3, .box [I (decM load).1.Do, .ref 4 1 0 o31.length, .pv (.str (decM load).1.Text)]), (4, .row 3 1 (encI o31))], 5, [], 63, 0⟩ : St)
     refine sem_seq (sem_seq (sem_region rfl (step_r rfl rfl trivial (step_r rfl rfl (by decide) (step_r rfl rfl trivial (step_r rfl rfl trivial (step_bin rfl rfl rfl rfl rfl trivial (step_nil (seqK_n ?_)))))))))
     refine sem_cond rfl (fun h13 => ?_) (fun h13 => ?_)
     ·have g13 : (k1 : Int) < o31.length := of_decide_eq_true h13
      have hm1 : (decM load).1.L.length - k1 = ((decM load).1.L.length - (k1 + 1)) + 1 := by omega
      refine sem_skip (seqK_n (sem_seq (sem_block (sem_region rfl (step_r rfl rfl (by decide) (step_r rfl rfl trivial (step_r rfl rfl trivial ?_)))))))
      have jk14 : k1 < o31.length := by first | assumption | omega | (simp only [List.length_set, List.length_append]; omega) | (simp only [IntKind.wrap_i64] at *; omega) | (simp; omega) | simp_all
      refine step_idxR (k := k1) rfl rfl rfl rfl jk14 rfl ?_
      refine step_storeR rfl rfl rfl rfl (by have := jk14; simp [encI]; omega) (encI_set o31 k1 (-7)) (.inl rfl) rfl ?_
      refine step_nil (blkK_n (seqK_n (sem_region rfl (step_r rfl rfl trivial (step_bin rfl rfl rfl rfl rfl trivial (step_r rfl rfl trivial (step_nil ?_)))))))
      have e16 : reads12_L1 (((decM load).1.L.length) - k1) k1 o31 = reads12_L1 (((decM load).1.L.length) - (k1 + 1)) (k1 + 1) (o31.set k1 (-7)) := by
       rfl
      exact lup_againT (k1 + 1, (o31.set k1 (-7))) ⟨e16.symm.trans hI1, (by omega), by first | omega | assumption | (simp only [List.length_append, List.length_cons, List.length_nil, List.length_set]; omega) | (simp; omega) | grind⟩ (by show (decM load).1.L.length - (k1 + 1) < (decM load).1.L.length - k1; omega) (Trans.ren [] (by decide +kernel) (by decide +kernel) rfl ⟨⟨rfl, rfl⟩, ⟨rfl, rfl⟩, ⟨rfl, rfl⟩, ⟨rfl, rfl⟩, ⟨rfl, rfl⟩, ⟨rfl, rfl⟩, ⟨rfl, rfl⟩, ⟨rfl, rfl⟩, ⟨rfl, rfl⟩, ⟨congrArg (fun n => some (I n)) (wrapI (k := k1) (by first | omega | (simp; omega))), rfl⟩, trivial⟩ ⟨⟨rfl, rfl, rfl⟩, ⟨rfl, rfl, rfl⟩, ⟨rfl, rfl, rfl⟩, ⟨(by simp only [List.length_set]; rfl), rfl, rfl⟩, ⟨rfl, rfl, rfl⟩, trivial⟩ (by decide))
     ·have g13 : ¬ ((k1 : Int) < o31.length) := of_decide_eq_false h13
      have hm1 : (decM load).1.L.length - k1 = 0 := by omega
      refine sem_exit (seqK_e (lupK_e (blkK_t rfl ?_)))
      have e17 : reads12_L1 (((decM load).1.L.length) - 0) 0 ((decM load).1.L) = () := by
       rfl
      exact cutW_n () e17 (Trans.ren [] (by decide +kernel) (by decide +kernel) rfl ⟨⟨rfl, rfl⟩, ⟨rfl, rfl⟩, ⟨rfl, rfl⟩, ⟨rfl, rfl⟩, ⟨rfl, rfl⟩, ⟨rfl, rfl⟩, ⟨rfl, rfl⟩, ⟨rfl, rfl⟩, trivial⟩ ⟨⟨rfl, rfl, rfl⟩, ⟨rfl, rfl, rfl⟩, ⟨rfl, rfl, rfl⟩, trivial⟩ (by decide))
    ·rintro ⟨⟩ (hJ11 : reads12_L1 (((decM load).1.L.length) - 0) 0 ((decM load).1.L) = ())
     show seqK _ _ _ .normal (⟨[(0, .pv (.slc load.length load_f (encY load))), (3, B (small12)), (4, .ptr 0 0), (5, I (decMR load).2), (6, I k0), (7, .ref 2 1 0 load.length), (9, I (decM load).2), (10, B (sameMR ((decM load).1) ((decMR load).1)))], [(0, .box [I (decMR load).1.Do, .ref 1 1 0 (decMR load).1.L.length, .pv (.str (decMR load).1.Text)]), (1, .row 3 1 (encI (decMR load).1.L)), (2, .row 5 1 (encY load))], 3, [], 63, 0⟩ : St)
     refine seqK_n (sem_seq (sem_region rfl (step_r rfl rfl trivial (step_r rfl rfl trivial (step_r rfl rfl trivial ?_)))))
     refine step_gs rfl (fun h20 => ?_) (fun h20 => ?_)
     ·have g20 : ¬ (sameMR ((decM load).1) ((decMR load).1) = true) := boo_f (not_t h20)
      refine step_g0 rfl h20 rfl (step_g0 rfl h20 rfl (step_g0 rfl h20 rfl (step_pickT rfl h20 rfl rfl (step_r rfl rfl trivial (step_gf rfl rfl (step_gf rfl rfl (step_gf rfl rfl (step_gf rfl rfl (step_gf rfl rfl (step_r rfl rfl trivial (step_nil ?_)))))))))))
      refine seqK_n (sem_condT rfl (sem_seq (sem_region rfl (step_r rfl rfl trivial (step_nil (seqK_n (sem_ret (blkK_r (seqK_r (lupK_r (blkK_r ?_)))))))))))
      refine cutW_r (seqK_r ?_)
      have e21 : reads12_L0 load (2 - 0) 0 = .inl false := by
       rewrite [← hI0, hm0]
       rewrite [reads12_L0]
       try dsimp only
       rewrite [if_neg g20]
       all_goals rfl
      have e22 : reads12 load = false := by
       unfold reads12
       try dsimp only
       rewrite [if_neg g2, e21]
       try dsimp only
       all_goals rfl
      rw [e22]
      exact answersR rfl ⟨trivial, trivial⟩ (rfl) rfl
     ·have g20 : sameMR ((decM load).1) ((decMR load).1) = true := (not_f h20)
      refine step_g1 rfl h20 (step_r rfl rfl trivial (step_g1 rfl h20 (step_r rfl rfl trivial (step_g1 rfl h20 (step_bin rfl rfl rfl rfl rfl trivial (step_pickF rfl h20 rfl rfl (step_r rfl rfl trivial ?_)))))))
      refine step_gs rfl (fun h26 => ?_) (fun h26 => ?_)
      ·have g26 : ¬ (((decM load).2 : Int) = ((decMR load).2)) := bne_t h26
       refine step_g0 rfl h26 rfl (step_g0 rfl h26 rfl (step_g0 rfl h26 rfl (step_g0 rfl h26 rfl (step_g0 rfl h26 rfl (step_pickT rfl h26 rfl rfl (step_nil (seqK_n (sem_condT rfl (sem_seq (sem_region rfl (step_r rfl rfl trivial ?_)))))))))))
       refine step_nil (seqK_n (sem_ret (blkK_r (seqK_r (lupK_r (blkK_r (cutW_r (seqK_r ?_))))))))
       have e27 : reads12_L0 load (2 - 0) 0 = .inl false := by
        rewrite [← hI0, hm0]
        rewrite [reads12_L0]
        try dsimp only
        rewrite [if_pos g20, if_neg g26]
        all_goals rfl
       have e28 : reads12 load = false := by
        unfold reads12
        try dsimp only
        rewrite [if_neg g2, e27]
        try dsimp only
        all_goals rfl
       rw [e28]
       exact answersR rfl ⟨trivial, trivial⟩ (rfl) rfl
      ·have g26 : ((decM load).2 : Int) = ((decMR load).2) := bne_f h26
       refine step_g1 rfl h26 (step_r rfl rfl trivial (step_g1 rfl h26 ?_))
       refine step_cstrR (l := load) rfl rfl rfl rfl rfl rfl ?_
       refine step_g1 rfl h26 (step_r rfl rfl trivial (step_g1 rfl h26 ?_))
       refine step_cstr (l := load) rfl rfl rfl rfl rfl ?_
       refine step_g1 rfl h26 (step_bin rfl rfl rfl rfl rfl trivial (step_pickF rfl h26 rfl rfl (step_nil (seqK_n ?_))))
       refine sem_cond rfl (fun h30 => ?_) (fun h30 => ?_)
       ·have g30 : ¬ (load = load) := beq_f (not_t h30)
        refine sem_seq (sem_region rfl (step_r rfl rfl trivial (step_nil (seqK_n (sem_ret (blkK_r (seqK_r (lupK_r (blkK_r (cutW_r (seqK_r ?_)))))))))))
        have e31 : reads12_L0 load (2 - 0) 0 = .inl false := by
         rewrite [← hI0, hm0]
         rewrite [reads12_L0]
         try dsimp only
         rewrite [if_pos g20, if_pos g26, if_neg g30]
         all_goals rfl
        have e32 : reads12 load = false := by
         unfold reads12
         try dsimp only
         rewrite [if_neg g2, e31]
         try dsimp only
         all_goals rfl
        rw [e32]
        exact answersR rfl ⟨trivial, trivial⟩ (rfl) rfl
       ·have g30 : load = load := beq_t (not_f h30)
        refine sem_skip (blkK_n (seqK_n (sem_region rfl (step_r rfl rfl trivial (step_bin rfl rfl rfl rfl rfl trivial (step_r rfl rfl trivial (step_nil ?_)))))))
        have e35 : reads12_L0 load (2 - k0) k0 = reads12_L0 load (2 - (k0 + 1)) (k0 + 1) := by
         rewrite [hm0]
         rewrite [reads12_L0]
         try dsimp only
         rewrite [if_pos g20, if_pos g26, if_pos g30]
         all_goals rfl
        exact lup_againT (k0 + 1) ⟨e35.symm.trans hI0, (by omega)⟩ (by show 2 - (k0 + 1) < 2 - k0; omega) (Trans.ren [] (by decide +kernel) (by decide +kernel) rfl ⟨⟨rfl, rfl⟩, ⟨rfl, rfl⟩, ⟨rfl, rfl⟩, ⟨rfl, rfl⟩, ⟨congrArg (fun n => some (I n)) (wrapI (k := k0) (by first | omega | (simp; omega))), rfl⟩, trivial⟩ ⟨⟨rfl, rfl, rfl⟩, ⟨rfl, rfl, rfl⟩, trivial⟩ (by decide))
   ·have g7 : ¬ ((k0 : Int) < 2) := of_decide_eq_false h7
    have hm0 : 2 - k0 = 0 := by omega
    refine sem_exit (seqK_e (lupK_e (blkK_t rfl ?_)))
    have e36 : reads12_L0 load (2 - 0) 0 = .inr () := by
     rewrite [← hI0, hm0]
     rewrite [reads12_L0]
     try dsimp only
     all_goals rfl
    exact cutW_n () e36 (Trans.ren [] (by decide +kernel) (by decide +kernel) rfl ⟨⟨rfl, rfl⟩, trivial⟩ trivial (by decide))
  ·rintro ⟨⟩ (hJ5 : reads12_L0 load (2 - 0) 0 = .inr ())
   show seqK _ _ _ .normal (⟨[(3, B (small12))], [], 0, [], 63, 0⟩ : St)
   refine seqK_n (sem_seq (sem_region rfl (step_r rfl rfl trivial (step_r rfl rfl trivial (step_nil (seqK_n (sem_ret ?_)))))))
   have e38 : reads12 load = (small12) := by
    unfold reads12
    try dsimp only
    rewrite [if_neg g2, hJ5]
    try dsimp only
    all_goals rfl
   rw [e38]
   exact answersR rfl ⟨trivial, trivial⟩ (rfl) rfl
end Go.Proofs.YtmklfpfgijilfaaDoor

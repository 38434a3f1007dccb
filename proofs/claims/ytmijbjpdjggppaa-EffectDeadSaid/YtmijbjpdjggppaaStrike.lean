import Derived.Test.YtmijbjpdjggppaaEffect
namespace Go.Proofs.Ytmijbjpdjggppaa
open Go Go.RowKit Go.Proofs.YtmijbjpdjggppaaVm
attribute [local irreducible] opsWp AnswersE OpsS
set_option maxHeartbeats 400000
set_option maxRecDepth 100000
set_option linter.all false
def strikeX (c : GContent) (from_ : GActor) (to : GActor) (n : Int) : GActor × GBlow :=
  if (ofX c to).2 = true then ((hitX ((ofX c to).1) n ([(sum15 c from_.Auras 3), (sumX ((ofX c to).1) 4)])).2.Actor, ((hitX ((ofX c to).1) n ([(sum15 c from_.Auras 3), (sumX ((ofX c to).1) 4)])).1)) else ((ofX c to).1.Actor, (⟨1, 0, 0, 0, 0⟩ : GBlow))
theorem strikeX_ok (c : GContent) (from_ : GActor) (to : GActor) (n : Int) (hX : FewX to) : Ok Try.prog 9 [aGContent c, aGActor from_, aGActor to, I n] [] (.tup [aGActor (strikeX c from_ to n).1, aGBlow (strikeX c from_ to n).2]) [] [] := by
 refine Ok.len fun hlen => ?_
 have hl_c_Abilities : c.Abilities.length ≤ maxLen := hlen _ (by simp [lensL, lens, lensP])
 have hl_c_Auras : c.Auras.length ≤ maxLen := hlen _ (by simp [lensL, lens, lensP])
 have hl_c_Foes : c.Foes.length ≤ maxLen := hlen _ (by simp [lensL, lens, lensP])
 have hl_c_Map_Wall : c.Map.Wall.length ≤ maxLen := hlen _ (by simp [lensL, lens, lensP])
 have hl_from__Auras : from_.Auras.length ≤ maxLen := hlen _ (by simp [lensL, lens, lensP])
 have hl_from__Cools : from_.Cools.length ≤ maxLen := hlen _ (by simp [lensL, lens, lensP])
 have hl_to_Auras : to.Auras.length ≤ maxLen := hlen _ (by simp [lensL, lens, lensP])
 have hl_to_Cools : to.Cools.length ≤ maxLen := hlen _ (by simp [lensL, lens, lensP])
 unfold maxLen at hl_c_Abilities hl_c_Auras hl_c_Foes hl_c_Map_Wall hl_from__Auras hl_from__Cools hl_to_Auras hl_to_Cools
 refine ok_of_sem Try.func9 rfl ?_
 show Walks Try.prog _ _ ⟨[(0, aGContent c), (1, aGActor from_), (2, aGActor to), (3, I n)], [], 0, [], 41, 0⟩
 refine sem_seq (sem_region rfl (step_n (o := .box [_, _, _, _, _, _, _, _, _, _]) (nx' := 1) rfl rfl rfl trivial (step_n (o := .box [_, _, _, _, _, _, _, _, _, _, _, _, _, _, _, _, _, _, _, _, _, _]) (nx' := 2) rfl rfl rfl trivial (step_n (o := .box [_, _, _, _, _, _, _, _, _, _, _, _, _, _, _, _, _, _, _, _, _, _]) (nx' := 3) rfl rfl rfl trivial (step_n (o := .box [_, _, _, _, _, _, _, _, _, _, _, _, _, _, _, _, _, _, _, _, _, _]) (nx' := 4) rfl rfl rfl trivial (step_n (o := .box [_, _, _, _, _]) (nx' := 5) rfl rfl rfl trivial (step_nil (seqK_n (sem_seq (sem_region rfl (step_r (v := (.agg [_, _, _, _, _, _, _, _, _, _])) rfl rfl (Nat.le_of_ble_eq_true rfl) ?_)))))))))))
 refine step_r (v := (.agg [_, _, _, _, _, _, _, _, _, _, _, _, _, _, _, _, _, _, _, _, _, _])) rfl rfl (Nat.le_of_ble_eq_true rfl) ?_
 refine step_callN (out' := .tup [.ptr 5 _, _]) (H' := [(5, .box [_, _, _, _, _, _, _, _, _, _, _, _, _, _, _, _, _, _, _, _, _, _, _, _, _, _, _, _, _, _, _, _]), (4, _), (3, _), (2, _), (1, _), (0, _)]) (nx' := 6) rfl rfl rfl rfl rfl rfl rfl (by (repeat' apply And.intro) <;> first | trivial | rfl | exact flat_len (fun _ => rfl) _ | exact encI_len _ | exact Nat.le_of_ble_eq_true rfl | assumption) (ofX_ok c to (by first | assumption)) rfl rfl rfl rfl ?_
 have p1 := ofX_few (c := c) (x := to) (by assumption)
 refine step_r rfl rfl trivial (step_r rfl rfl trivial (step_r rfl rfl trivial (step_r rfl rfl trivial (step_r rfl rfl trivial (step_nil (seqK_n (sem_seq (sem_seq (sem_region rfl (step_r rfl rfl trivial (step_r rfl rfl trivial ?_)))))))))))
 refine step_nil (seqK_n ?_)
 refine sem_cond rfl (fun h3 => ?_) (fun h3 => ?_)
 ·have g3 : ¬ ((ofX c to).2 = true) := boo_f (not_t h3)
  refine sem_seq (sem_region rfl (step_r rfl rfl trivial (step_r rfl rfl trivial (step_r rfl rfl (by decide) (step_r (v := (.agg [_, _, _, _, _, _, _, _, _, _, _, _, _, _, _, _, _, _, _, _, _, _])) rfl rfl (Nat.le_of_ble_eq_true rfl) (step_r (v := (.agg [_, _, _, _, _])) rfl rfl trivial ?_))))))
  refine step_storeB (H' := [(5, _), (4, _), (3, .box [_, _, _, _, _, _, _, _, _, _, _, _, _, _, _, _, _, _, _, _, _, _]), (2, _), (1, _), (0, _)]) rfl rfl rfl rfl rfl rfl (.inl rfl) rfl ?_
  refine step_storeB (H' := [(5, _), (4, .box [_, _, _, _, _]), (3, _), (2, _), (1, _), (0, _)]) rfl rfl rfl rfl rfl rfl (.inl rfl) rfl ?_
  refine step_nil (seqK_n (sem_ret (seqK_r ?_)))
  have e4 : strikeX c from_ to n = ((ofX c to).1.Actor, (⟨1, 0, 0, 0, 0⟩ : GBlow)) := by
   unfold strikeX
   try dsimp only
   rewrite [if_neg g3]
   all_goals rfl
  rw [e4]
  exact answersR rfl ⟨Nat.le_of_ble_eq_true rfl, Nat.le_of_ble_eq_true rfl, trivial⟩ (rfl) rfl
 ·have g3 : (ofX c to).2 = true := (not_f h3)
  refine sem_skip (seqK_n (sem_seq (sem_region rfl (step_r rfl rfl trivial (step_r rfl rfl trivial (step_r (v := (.agg [_, _, _, _, _, _, _, _, _, _])) rfl rfl (Nat.le_of_ble_eq_true rfl) (step_r rfl rfl (by decide) (step_r rfl rfl trivial (step_call rfl rfl rfl rfl (sum15_ok c from_.Auras false 3) rfl rfl rfl (step_r rfl rfl trivial ?_))))))))))
  refine step_callJ (Hin := [.box [.pv _, .pv _, .pv _, .pv _, .pv _, .pv _, .pv _, .pv _, .pv _, .pv _, .pv _, .pv _, .pv _, .pv _, .pv _, .pv _, .pv _, .pv _, .pv _, .pv _, .pv _, .pv _, .pv _, .pv _, .pv _, .pv _, .pv _, .pv _, .pv _, .pv _, .pv _, .pv _]]) (H' := [(5, _), (4, _), (3, _), (2, _), (1, _), (0, _)]) (nx' := 6) [5] rfl rfl rfl rfl rfl rfl rfl rfl rfl (by (repeat' apply And.intro) <;> first | trivial | rfl | exact flat_len (fun _ => rfl) _ | exact encI_len _ | exact Nat.le_of_ble_eq_true rfl | assumption) (sumX_ok ((ofX c to).1) 4) rfl (by decide) rfl rfl trivial rfl rfl rfl rfl ?_
  refine step_n (o := .row _ _ [_, _]) (nx' := 7) rfl rfl rfl (by decide) ?_
  refine step_callM (Hin := [.box [.pv _, .pv _, .pv _, .pv _, .pv _, .pv _, .pv _, .pv _, .pv _, .pv _, .pv _, .pv _, .pv _, .pv _, .pv _, .pv _, .pv _, .pv _, .pv _, .pv _, .pv _, .pv _, .pv _, .pv _, .pv _, .pv _, .pv _, .pv _, .pv _, .pv _, .pv _, .pv _], .row _ _ _]) (H' := [(6, .row _ _ _), (5, .box [_, _, _, _, _, _, _, _, _, _, _, _, _, _, _, _, _, _, _, _, _, _, _, _, _, _, _, _, _, _, _, _]), (4, .box [_, _, _, _, _]), (3, .box [_, _, _, _, _, _, _, _, _, _, _, _, _, _, _, _, _, _, _, _, _, _]), (2, .box [_, _, _, _, _, _, _, _, _, _, _, _, _, _, _, _, _, _, _, _, _, _]), (1, .box [_, _, _, _, _, _, _, _, _, _, _, _, _, _, _, _, _, _, _, _, _, _]), (0, .box [_, _, _, _, _, _, _, _, _, _])]) (nx' := 7) [5, 6] rfl rfl rfl rfl (.inl rfl) rfl rfl rfl rfl (hitX_ok ((ofX c to).1) n ([(sum15 c from_.Auras 3), (sumX ((ofX c to).1) 4)]) (by first | assumption | omega)) rfl (by decide) rfl rfl rfl rfl rfl ?_
  refine step_n (o := .box [_, _, _, _, _]) (nx' := 8) rfl rfl rfl trivial ?_
  refine step_storeB (H' := [(7, .box [_, _, _, _, _]), (6, _), (5, _), (4, _), (3, _), (2, _), (1, _), (0, _)]) rfl rfl rfl rfl rfl rfl (.inl rfl) rfl ?_
  refine step_nil (seqK_n (sem_seq ?_))
  refine sem_drawW rfl (draw_split 5 4 (by decide +kernel) ?_ ?_)
  ·refine draw_walk (by decide +kernel) rfl ?_
   refine step_r rfl rfl trivial (step_r rfl rfl trivial (step_r rfl rfl (by decide) (step_r (v := (.agg [_, _, _, _, _, _, _, _, _, _, _, _, _, _, _, _, _, _, _, _, _, _])) rfl rfl (Nat.le_of_ble_eq_true rfl) (step_r (v := (.agg [_, _, _, _, _])) rfl rfl (Nat.le_of_ble_eq_true rfl) ?_))))
   refine step_storeB (H' := [(7, _), (6, _), (5, _), (4, _), (3, .box [_, _, _, _, _, _, _, _, _, _, _, _, _, _, _, _, _, _, _, _, _, _]), (2, _), (1, _), (0, _)]) rfl rfl rfl rfl rfl rfl (.inr (by decide +kernel)) rfl ?_
   refine step_storeB (H' := [(7, _), (6, _), (5, _), (4, .box [_, _, _, _, _]), (3, _), (2, _), (1, _), (0, _)]) rfl rfl rfl rfl rfl rfl (.inr (by decide +kernel)) rfl ?_
   refine step_nil (seqK_n (sem_ret ?_))
   have e6 : strikeX c from_ to n = ((hitX ((ofX c to).1) n ([(sum15 c from_.Auras 3), (sumX ((ofX c to).1) 4)])).2.Actor, ((hitX ((ofX c to).1) n ([(sum15 c from_.Auras 3), (sumX ((ofX c to).1) 4)])).1)) := by
    unfold strikeX
    try dsimp only
    rewrite [if_pos g3]
    all_goals rfl
   rw [e6]
   exact answersR rfl ⟨Nat.le_of_ble_eq_true rfl, Nat.le_of_ble_eq_true rfl, trivial⟩ (rfl) rfl
  ·refine draw_perm [0, 1, 2, 3, 5, 4, 6] (by decide +kernel) (draw_walk (by decide +kernel) rfl ?_)
   refine step_r rfl rfl trivial (step_r rfl rfl trivial (step_r rfl rfl (by decide) (step_r (v := (.agg [_, _, _, _, _, _, _, _, _, _, _, _, _, _, _, _, _, _, _, _, _, _])) rfl rfl (Nat.le_of_ble_eq_true rfl) ?_)))
   refine step_storeB (H' := [(7, _), (6, _), (5, _), (4, _), (3, .box [_, _, _, _, _, _, _, _, _, _, _, _, _, _, _, _, _, _, _, _, _, _]), (2, _), (1, _), (0, _)]) rfl rfl rfl rfl rfl rfl (.inr (by decide +kernel)) rfl ?_
   refine step_r (v := (.agg [_, _, _, _, _])) rfl rfl (Nat.le_of_ble_eq_true rfl) ?_
   refine step_storeB (H' := [(7, _), (6, _), (5, _), (4, .box [_, _, _, _, _]), (3, _), (2, _), (1, _), (0, _)]) rfl rfl rfl rfl rfl rfl (.inr (by decide +kernel)) rfl ?_
   refine step_nil (seqK_n (sem_ret ?_))
   have e7 : strikeX c from_ to n = ((hitX ((ofX c to).1) n ([(sum15 c from_.Auras 3), (sumX ((ofX c to).1) 4)])).2.Actor, ((hitX ((ofX c to).1) n ([(sum15 c from_.Auras 3), (sumX ((ofX c to).1) 4)])).1)) := by
    unfold strikeX
    try dsimp only
    rewrite [if_pos g3]
    all_goals rfl
   rw [e7]
   exact answersR rfl ⟨Nat.le_of_ble_eq_true rfl, Nat.le_of_ble_eq_true rfl, trivial⟩ (rfl) rfl
end Go.Proofs.Ytmijbjpdjggppaa

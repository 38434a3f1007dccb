import Derived.Test.YtppnccjeggnllaaGreatPackw
namespace Go.Proofs.YtppnccjeggnllaaGreat
open Go Go.RowKit Go.Proofs.YtppnccjeggnllaaGreatVm
attribute [local irreducible] opsWp AnswersE OpsS
set_option maxHeartbeats 400000
set_option maxRecDepth 100000
set_option linter.all false
theorem fits_few {c : GContent} (h : Fits c) : Few9 c := ⟨fun x hx => Nat.le_trans (h.eff x hx) (by decide), fun x hx => Nat.le_trans (h.sc x hx).1 (by decide), fun x hx => Nat.le_trans (h.sc x hx).2 (by decide), Nat.le_trans h.ab (by decide), Nat.le_trans h.au (by decide), Nat.le_trans h.fo (by decide), Nat.le_trans h.wall (by decide)⟩

def enc (c : GContent) : (List UInt8) × Int :=
  if right9 c = true then ((putsI ([(66 : UInt8), (82 : UInt8), (87 : UInt8), (49 : UInt8)]) (flat c)), 0) else ([], 1)
theorem enc_ok (c : GContent) (hF : Fits c) (hl : (flat c).length ≤ 1400000) : Ok Tryz.prog 13 [aGContent c] [] (.tup [.ref 0 1 0 (enc c).1.length, I (enc c).2]) [.row 5 1 (encY (enc c).1)] [] := by
 refine Ok.len fun hlen => ?_
 have hl_c_Abilities : c.Abilities.length ≤ maxLen := hlen _ (by simp [lensL, lens, lensP])
 have hl_c_Auras : c.Auras.length ≤ maxLen := hlen _ (by simp [lensL, lens, lensP])
 have hl_c_Foes : c.Foes.length ≤ maxLen := hlen _ (by simp [lensL, lens, lensP])
 have hl_c_Map_Wall : c.Map.Wall.length ≤ maxLen := hlen _ (by simp [lensL, lens, lensP])
 unfold maxLen at hl_c_Abilities hl_c_Auras hl_c_Foes hl_c_Map_Wall
 have hF9 := fits_few hF
 refine ok_of_sem Tryz.func13 rfl ?_
 show Walks Tryz.prog _ _ ⟨[(0, aGContent c)], [], 0, [], 12, 0⟩
 refine sem_seq (sem_region rfl (step_n (o := .box [_, _, _, _, _, _, _, _, _, _]) (nx' := 1) rfl rfl rfl trivial (step_n (nx' := 2) rfl rfl rfl trivial (step_r rfl rfl trivial (step_nil (seqK_n (sem_seq (sem_seq (sem_region rfl (step_r (v := (.agg [_, _, _, _, _, _, _, _, _, _])) rfl rfl (Nat.le_of_ble_eq_true rfl) (step_call rfl rfl rfl rfl (right9_ok c (by first | assumption | exact few_small (by decide +kernel) | exact few_cut (by assumption) | grind)) rfl rfl rfl ?_)))))))))))
 refine step_r rfl rfl trivial (step_nil (seqK_n ?_))
 refine sem_cond rfl (fun h1 => ?_) (fun h1 => ?_)
 ·have g1 : ¬ (right9 c = true) := boo_f (not_t h1)
  refine sem_seq (sem_region rfl (step_n (nx' := 3) rfl rfl rfl trivial (step_r rfl rfl trivial (step_nil (seqK_n (sem_ret (seqK_r ?_)))))))
  have e2 : enc c = ([], 1) := by
   unfold enc
   try dsimp only
   rewrite [if_neg g1]
   all_goals rfl
  rw [e2]
  exact answersGR [] [2] rfl ⟨trivial, trivial, trivial⟩ rfl (by (repeat' apply And.intro) <;> first | trivial | rfl | exact flat_len (fun _ => rfl) _ | exact encI_len _ | exact encB_len _ | exact encY_len _ | assumption) (rfl) rfl rfl rfl (by decide) rfl rfl ⟨⟨rfl, rfl⟩, trivial⟩
 ·have g1 : right9 c = true := (not_f h1)
  refine sem_skip (seqK_n (sem_seq ?_))
  refine sem_regionS rfl (opsS_cut 1 (j := 0) ?_)
  simp only [List.take_succ_cons, List.take_zero, List.drop_succ_cons, List.drop_zero]
  refine step_n (o := .row _ _ [_, _, _, _]) (nx' := 3) rfl rfl rfl (by decide) (step_nil ?_)
  refine opsS_mark rfl rfl rfl rfl rfl rfl rfl rfl rfl ?_
  refine opsS_of (j := 2) ?_
  refine step_r (v := (.agg [_, _, _, _, _, _, _, _, _, _])) rfl rfl (Nat.le_of_ble_eq_true rfl) ?_
  refine step_callN (out' := .ref 3 _ _ _) (H' := [(3, .row _ _ _), (1, _), (0, _)]) (nx' := 4) rfl rfl rfl rfl rfl rfl rfl (by (repeat' apply And.intro) <;> first | trivial | rfl | exact flat_len (fun _ => rfl) _ | exact encI_len _ | exact encB_len _ | exact encY_len _ | exact Nat.le_of_ble_eq_true rfl | assumption) (flat_ok c (by first | assumption)) rfl rfl rfl rfl ?_
  refine step_callJ (Hin := [.row _ _ _]) (out' := .ref 4 _ _ _) (H' := [(4, .row _ _ _), (3, _), (1, _), (0, _)]) (nx' := 5) [3] rfl rfl rfl rfl rfl rfl rfl rfl rfl (by (repeat' apply And.intro) <;> first | trivial | rfl | exact flat_len (fun _ => rfl) _ | exact encI_len _ | exact encB_len _ | exact encY_len _ | exact Nat.le_of_ble_eq_true rfl | assumption) (putsI_ok ([(66 : UInt8), (82 : UInt8), (87 : UInt8), (49 : UInt8)]) false (flat c) false (by first | omega | (simp; done) | (simp only [List.length_append, List.length_cons, List.length_nil] at *; omega) | (simp; omega)) (by first | omega | (simp; done) | (simp only [List.length_append, List.length_cons, List.length_nil] at *; omega) | (simp; omega))) rfl (by decide) rfl rfl ⟨encY_solid, trivial⟩ rfl rfl rfl rfl ?_
  refine step_r rfl rfl trivial (step_r rfl rfl trivial (step_nil (seqK_n (sem_ret ?_))))
  have e3 : enc c = ((putsI ([(66 : UInt8), (82 : UInt8), (87 : UInt8), (49 : UInt8)]) (flat c)), 0) := by
   unfold enc
   try dsimp only
   rewrite [if_pos g1]
   all_goals rfl
  rw [e3]
  exact answersGR [] [4] rfl ⟨trivial, trivial, trivial⟩ rfl (by (repeat' apply And.intro) <;> first | trivial | rfl | exact flat_len (fun _ => rfl) _ | exact encI_len _ | exact encB_len _ | exact encY_len _ | assumption) (rfl) rfl rfl rfl (by decide) rfl rfl ⟨⟨rfl, rfl⟩, trivial⟩
end Go.Proofs.YtppnccjeggnllaaGreat

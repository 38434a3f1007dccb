import Derived.Test.YtmijbjpdjggppaaMulp
namespace Go.Proofs.Ytmijbjpdjggppaa
open Go Go.RowKit Go.Proofs.YtmijbjpdjggppaaVm
attribute [local irreducible] opsWp AnswersE OpsS
set_option maxHeartbeats 400000
set_option maxRecDepth 100000
set_option linter.all false
def leftA (a : GAura) (stacks : Int) : Int :=
  if (a.Kind : Int) = 5 then (mul1 a.Amount stacks) else 0
theorem leftA_ok (a : GAura) (stacks : Int) : Ok Try.prog 74 [aGAura a, I stacks] [] (I (leftA a stacks)) [] [] := by
 refine ok_of_sem Try.func74 rfl ?_
 show Walks Try.prog _ _ ⟨[(0, aGAura a), (1, I stacks)], [], 0, [], 12, 0⟩
 refine sem_seq (sem_region rfl (step_n (o := .box [_, _, _, _, _, _, _]) (nx' := 1) rfl rfl rfl trivial (step_r rfl rfl trivial (step_nil (seqK_n (sem_seq (sem_seq (sem_region rfl (step_r rfl rfl (by decide) (step_r rfl rfl trivial (step_bin rfl rfl rfl rfl rfl trivial ?_)))))))))))
 refine step_nil (seqK_n ?_)
 refine sem_cond rfl (fun h1 => ?_) (fun h1 => ?_)
 ·have g1 : ¬ ((a.Kind : Int) = 5) := bne_t h1
  refine sem_seq (sem_region rfl (step_r rfl rfl trivial (step_nil (seqK_n (sem_ret (seqK_r ?_))))))
  have e2 : leftA a stacks = 0 := by
   unfold leftA
   try dsimp only
   rewrite [if_neg g1]
   all_goals rfl
  rw [e2]
  exact answersR rfl ⟨trivial, trivial⟩ (rfl) rfl
 ·have g1 : (a.Kind : Int) = 5 := bne_f h1
  refine sem_skip (seqK_n (sem_seq (sem_region rfl (step_r rfl rfl (by decide) (step_r rfl rfl trivial (step_r rfl rfl trivial (step_call rfl rfl rfl rfl (mul1_ok a.Amount stacks) rfl rfl rfl (step_r rfl rfl trivial (step_nil (seqK_n (sem_ret ?_)))))))))))
  have e5 : leftA a stacks = (mul1 a.Amount stacks) := by
   unfold leftA
   try dsimp only
   rewrite [if_pos g1]
   all_goals rfl
  rw [e5]
  exact answersR rfl ⟨trivial, trivial⟩ (rfl) rfl

def renewed (x_ : GActive) (a : GAura) (now : Int) : GActive :=
  (⟨x_.Aura, x_.Source, (min (addM x_.Stacks 1) a.Stacks), (addM now a.Ticks), x_.Next, (leftA a (min (addM x_.Stacks 1) a.Stacks))⟩ : GActive)
theorem renewed_ok (x_ : GActive) (a : GAura) (now : Int) : Ok Try.prog 68 [aGActive x_, aGAura a, I now] [] (aGActive (renewed x_ a now)) [] [] := by
 refine ok_of_sem Try.func68 rfl ?_
 show Walks Try.prog _ _ ⟨[(0, aGActive x_), (1, aGAura a), (2, I now)], [], 0, [], 25, 0⟩
 refine sem_seq (sem_region rfl (step_n (o := .box [_, _, _, _, _, _]) (nx' := 1) rfl rfl rfl trivial (step_n (o := .box [_, _, _, _, _, _, _]) (nx' := 2) rfl rfl rfl trivial (step_n (o := .box [_, _, _, _, _, _]) (nx' := 3) rfl rfl rfl trivial (step_nil (seqK_n (sem_seq ?_)))))))
 refine sem_drawn rfl (by decide +kernel) rfl ?_
 refine step_r rfl rfl (by decide) (step_r rfl rfl trivial (step_call rfl rfl rfl rfl (add_ok x_.Stacks 1) rfl rfl rfl (step_r rfl rfl (by decide) (step_r rfl rfl trivial ?_))))
 refine step_min rfl rfl rfl ?_
 refine step_r rfl rfl (by decide) ?_
 refine step_storeB (H' := [(2, _), (1, _), (0, .box [_, _, _, _, _, _])]) rfl rfl rfl rfl rfl rfl (.inr (by decide +kernel)) rfl ?_
 refine step_nil (seqK_n (sem_seq ?_))
 refine sem_drawn rfl (by decide +kernel) rfl ?_
 refine step_r rfl rfl trivial (step_r rfl rfl (by decide) (step_r rfl rfl trivial (step_call rfl rfl rfl rfl (add_ok now a.Ticks) rfl rfl rfl (step_r (v := (.agg [_, _, _, _, _, _, _])) rfl rfl (Nat.le_of_ble_eq_true rfl) (step_r rfl rfl (by decide) (step_r rfl rfl trivial (step_call rfl rfl rfl rfl (leftA_ok a (min (addM x_.Stacks 1) a.Stacks)) rfl rfl rfl (step_r rfl rfl (by decide) ?_))))))))
 refine step_storeB (H' := [(2, _), (1, _), (0, .box [_, _, _, _, _, _])]) rfl rfl rfl rfl rfl rfl (.inr (by decide +kernel)) rfl ?_
 refine step_r rfl rfl (by decide) ?_
 refine step_storeB (H' := [(2, _), (1, _), (0, .box [_, _, _, _, _, _])]) rfl rfl rfl rfl rfl rfl (.inr (by decide +kernel)) rfl ?_
 refine step_nil (seqK_n (sem_seq (sem_region rfl (step_r (v := (.agg [_, _, _, _, _, _])) rfl rfl (Nat.le_of_ble_eq_true rfl) ?_))))
 refine step_storeB (H' := [(2, .box [_, _, _, _, _, _]), (1, _), (0, _)]) rfl rfl rfl rfl rfl rfl (.inl rfl) rfl ?_
 refine step_nil (seqK_n (sem_ret ?_))
 have e2 : renewed x_ a now = (⟨x_.Aura, x_.Source, (min (addM x_.Stacks 1) a.Stacks), (addM now a.Ticks), x_.Next, (leftA a (min (addM x_.Stacks 1) a.Stacks))⟩ : GActive) := by
  unfold renewed
  try dsimp only
  all_goals rfl
 rw [e2]
 exact answersR rfl ⟨Nat.le_of_ble_eq_true rfl, trivial⟩ (rfl) rfl

def first15 (a : GAura) (source : Int) (now : Int) : GActive :=
  if (a.Every : Int) = 0 then (⟨a.Id, source, 1, (addM now a.Ticks), 0, (leftA a 1)⟩ : GActive) else (⟨a.Id, source, 1, (addM now a.Ticks), (addM now a.Every), (leftA a 1)⟩ : GActive)
theorem first15_ok (a : GAura) (source : Int) (now : Int) : Ok Try.prog 69 [aGAura a, I source, I now] [] (aGActive (first15 a source now)) [] [] := by
 refine ok_of_sem Try.func69 rfl ?_
 show Walks Try.prog _ _ ⟨[(0, aGAura a), (1, I source), (2, I now)], [], 0, [], 27, 0⟩
 refine sem_seq (sem_region rfl (step_n (o := .box [_, _, _, _, _, _, _]) (nx' := 1) rfl rfl rfl trivial (step_n (o := .box [_, _, _, _, _, _]) (nx' := 2) rfl rfl rfl trivial (step_nil (seqK_n (sem_seq ?_))))))
 refine sem_drawn rfl (by decide +kernel) rfl ?_
 refine step_r rfl rfl (by decide) (step_r rfl rfl trivial (step_r rfl rfl trivial (step_r rfl rfl trivial (step_r rfl rfl (by decide) (step_r rfl rfl trivial (step_call rfl rfl rfl rfl (add_ok now a.Ticks) rfl rfl rfl (step_r (v := (.agg [_, _, _, _, _, _, _])) rfl rfl (Nat.le_of_ble_eq_true rfl) (step_call rfl rfl rfl rfl (leftA_ok a 1) rfl rfl rfl (step_r (v := (.agg [_, _, _, _, _, _])) rfl rfl trivial (step_n (o := .box [_, _, _, _, _, _]) (nx' := 3) rfl rfl rfl trivial ?_))))))))))
 refine step_storeB (H' := [(2, .box [_, _, _, _, _, _]), (1, _), (0, _)]) rfl rfl rfl rfl rfl rfl (.inr (by decide +kernel)) rfl ?_
 refine step_nil (seqK_n (sem_seq (sem_seq (sem_region rfl (step_r rfl rfl (by decide) (step_r rfl rfl trivial (step_bin rfl rfl rfl rfl rfl trivial (step_nil (seqK_n ?_)))))))))
 refine sem_cond rfl (fun h3 => ?_) (fun h3 => ?_)
 ·have g3 : ¬ ((a.Every : Int) = 0) := bne_t h3
  refine sem_region rfl (step_r rfl rfl trivial (step_r rfl rfl (by decide) (step_r rfl rfl trivial (step_call rfl rfl rfl rfl (add_ok now a.Every) rfl rfl rfl (step_r rfl rfl (by decide) ?_)))))
  refine step_storeB (H' := [(2, .box [_, _, _, _, _, _]), (1, _), (0, _)]) rfl rfl rfl rfl rfl rfl (.inl rfl) rfl ?_
  refine step_nil (seqK_n (sem_seq (sem_region rfl (step_r (v := (.agg [_, _, _, _, _, _])) rfl rfl (Nat.le_of_ble_eq_true rfl) ?_))))
  refine step_storeB (H' := [(2, _), (1, .box [_, _, _, _, _, _]), (0, _)]) rfl rfl rfl rfl rfl rfl (.inl rfl) rfl ?_
  refine step_nil (seqK_n (sem_ret ?_))
  have e4 : first15 a source now = (⟨a.Id, source, 1, (addM now a.Ticks), (addM now a.Every), (leftA a 1)⟩ : GActive) := by
   unfold first15
   try dsimp only
   rewrite [if_neg g3]
   all_goals rfl
  rw [e4]
  exact answersR rfl ⟨Nat.le_of_ble_eq_true rfl, trivial⟩ (rfl) rfl
 ·have g3 : (a.Every : Int) = 0 := bne_f h3
  refine sem_skip (seqK_n (sem_seq (sem_region rfl (step_r (v := (.agg [_, _, _, _, _, _])) rfl rfl (Nat.le_of_ble_eq_true rfl) ?_))))
  refine step_storeB (H' := [(2, _), (1, .box [_, _, _, _, _, _]), (0, _)]) rfl rfl rfl rfl rfl rfl (.inl rfl) rfl ?_
  refine step_nil (seqK_n (sem_ret ?_))
  have e5 : first15 a source now = (⟨a.Id, source, 1, (addM now a.Ticks), 0, (leftA a 1)⟩ : GActive) := by
   unfold first15
   try dsimp only
   rewrite [if_pos g3]
   all_goals rfl
  rw [e5]
  exact answersR rfl ⟨Nat.le_of_ble_eq_true rfl, trivial⟩ (rfl) rfl

def isSame (x_ : GActive) (c1 : Int) (c2 : Int) : Bool :=
  if (x_.Aura : Int) = c1 then ((x_.Source : Int) == c2) else false
theorem isSame_ok (x_ : GActive) (c1 : Int) (c2 : Int) : Ok Try.prog 67 [aGActive x_, .pptr [i64 c1] 0, .pptr [i64 c2] 0] [] (B (isSame x_ c1 c2)) [] [] := by
 refine ok_of_sem Try.func67 rfl ?_
 show Walks Try.prog _ _ ⟨[(0, aGActive x_), (1, .pptr [i64 c1] 0), (2, .pptr [i64 c2] 0)], [], 0, [], 15, 0⟩
 refine sem_seq (sem_region rfl (step_n (o := .box [_, _, _, _, _, _]) (nx' := 1) rfl rfl rfl trivial (step_r rfl rfl trivial (step_nil (seqK_n (sem_seq (sem_region rfl (step_r rfl rfl (by decide) (step_r rfl rfl trivial (step_load_one rfl rfl rfl (rfl) rfl (step_bin rfl rfl rfl rfl rfl trivial ?_)))))))))))
 refine step_r rfl rfl trivial ?_
 refine step_gs rfl (fun h2 => ?_) (fun h2 => ?_)
 ·have g2 : (x_.Aura : Int) = c1 := beq_t h2
  refine step_g1 rfl h2 (step_r rfl rfl (by decide) (step_g1 rfl h2 (step_r rfl rfl trivial (step_g1 rfl h2 (step_load_one rfl rfl rfl (rfl) rfl (step_g1 rfl h2 (step_bin rfl rfl rfl rfl rfl trivial (step_pickT rfl h2 rfl rfl (step_r rfl rfl trivial (step_nil (seqK_n ?_)))))))))))
  refine sem_ret ?_
  have e4 : isSame x_ c1 c2 = ((x_.Source : Int) == c2) := by
   unfold isSame
   try dsimp only
   rewrite [if_pos g2]
   all_goals rfl
  rw [e4]
  exact answersR rfl ⟨trivial, trivial⟩ (rfl) rfl
 ·have g2 : ¬ ((x_.Aura : Int) = c1) := beq_f h2
  refine step_g0 rfl h2 rfl (step_g0 rfl h2 rfl (step_g0 rfl h2 rfl (step_g0 rfl h2 rfl (step_pickF rfl h2 rfl rfl (step_r rfl rfl trivial (step_nil (seqK_n (sem_ret ?_))))))))
  have e5 : isSame x_ c1 c2 = false := by
   unfold isSame
   try dsimp only
   rewrite [if_neg g2]
   all_goals rfl
  rw [e5]
  exact answersR rfl ⟨trivial, trivial⟩ (rfl) rfl

def apply15 (c : GContent) (l : List GActive) (id : Int) (source : Int) (now : Int) : (List GActive) × Int :=
  if (getU c id).2 = true then (if (fidx (fun x_ => isSame x_ id source) l : Int) ≥ 0 then ((l.set (fidx (fun x_ => isSame x_ id source) l).toNat (renewed (l.getD ((fidx (fun x_ => isSame x_ id source) l).toNat) default) ((getU c id).1) now)), 0) else if (l.length : Int) ≥ 16 then ([], 4) else ((l ++ [(first15 ((getU c id).1) source now)]), 0)) else ([], 5)
theorem apply15_ok (c : GContent) (l : List GActive) (l_f : Bool) (id : Int) (source : Int) (now : Int) (hl : l.length ≤ 16777215) : Ok Try.prog 51 [aGContent c, .pv (.slc l.length l_f (l.flatMap encGActive)), I id, I source, I now] [] (.tup [.ref 0 6 0 (apply15 c l id source now).1.length, I (apply15 c l id source now).2]) [.row 61 6 ((apply15 c l id source now).1.flatMap encGActive)] [] := by
 refine Ok.len fun hlen => ?_
 have hl_c_Abilities : c.Abilities.length ≤ maxLen := hlen _ (by simp [lensL, lens, lensP])
 have hl_c_Auras : c.Auras.length ≤ maxLen := hlen _ (by simp [lensL, lens, lensP])
 have hl_c_Foes : c.Foes.length ≤ maxLen := hlen _ (by simp [lensL, lens, lensP])
 have hl_c_Map_Wall : c.Map.Wall.length ≤ maxLen := hlen _ (by simp [lensL, lens, lensP])
 have hl_l : l.length ≤ maxLen := hlen _ (by simp [lensL, lens, lensP])
 unfold maxLen at hl_c_Abilities hl_c_Auras hl_c_Foes hl_c_Map_Wall hl_l
 refine ok_of_sem Try.func51 rfl ?_
 show Walks Try.prog _ _ ⟨[(0, aGContent c), (1, .pv (.slc l.length l_f (l.flatMap encGActive))), (2, I id), (3, I source), (4, I now)], [], 0, [], 54, 0⟩
 refine sem_seq (sem_region rfl (step_n (o := .box [_, _, _, _, _, _, _, _, _, _]) (nx' := 1) rfl rfl rfl trivial (step_n (o := .box [_]) (nx' := 2) rfl rfl rfl trivial (step_n (o := .box [_]) (nx' := 3) rfl rfl rfl trivial (step_n (nx' := 4) rfl rfl rfl trivial (step_r rfl rfl trivial (step_nil (seqK_n (sem_seq (sem_region rfl (step_r (v := (.agg [_, _, _, _, _, _, _, _, _, _])) rfl rfl (Nat.le_of_ble_eq_true rfl) ?_)))))))))))
 refine step_r rfl rfl trivial (step_call rfl rfl rfl rfl (getU_ok c id) rfl rfl rfl (step_r rfl rfl trivial (step_r rfl rfl trivial (step_r rfl rfl trivial (step_n (o := .box [_, _, _, _, _, _, _]) (nx' := 5) rfl rfl rfl trivial ?_)))))
 refine step_storeB (H' := [(4, .box [_, _, _, _, _, _, _]), (3, _), (2, _), (1, _), (0, _)]) rfl rfl rfl rfl rfl rfl (.inl rfl) rfl ?_
 refine step_r rfl rfl trivial (step_nil (seqK_n (sem_seq (sem_seq (sem_region rfl (step_r rfl rfl trivial (step_r rfl rfl trivial (step_nil (seqK_n ?_)))))))))
 refine sem_cond rfl (fun h2 => ?_) (fun h2 => ?_)
 ·have g2 : ¬ ((getU c id).2 = true) := boo_f (not_t h2)
  refine sem_seq (sem_region rfl (step_n (nx' := 6) rfl rfl rfl trivial (step_r rfl rfl trivial (step_nil (seqK_n (sem_ret (seqK_r ?_)))))))
  have e3 : apply15 c l id source now = ([], 5) := by
   unfold apply15
   try dsimp only
   rewrite [if_neg g2]
   all_goals rfl
  rw [e3]
  exact answersGR [] [5] rfl ⟨trivial, trivial, trivial⟩ rfl (by (repeat' apply And.intro) <;> first | trivial | rfl | exact flat_len (fun _ => rfl) _ | exact encI_len _ | assumption) (rfl) rfl rfl rfl (by decide) rfl rfl ⟨⟨rfl, rfl⟩, trivial⟩
 ·have g2 : (getU c id).2 = true := (not_f h2)
  refine sem_skip (seqK_n (sem_seq (sem_region rfl (step_r rfl rfl trivial ?_))))
  refine step_callN (out' := .ref 5 _ _ _) (H' := [(5, .row _ _ _), (4, _), (3, _), (2, _), (1, _), (0, _)]) (nx' := 6) rfl rfl rfl rfl rfl rfl rfl (by (repeat' apply And.intro) <;> first | trivial | rfl | exact flat_len (fun _ => rfl) _ | exact encI_len _ | exact Nat.le_of_ble_eq_true rfl | assumption) (clone_GActive l false (by first | assumption | omega | (simp; omega) | simp_all)) rfl rfl rfl rfl ?_
  refine step_r rfl rfl trivial (step_nil (seqK_n (sem_seq (sem_region rfl (step_r rfl rfl trivial (step_r rfl rfl trivial ?_))))))
  refine step_callJ (Hin := [.row _ _ _, .box [.pv _], .box [.pv _]]) (H' := [(5, _), (4, _), (3, _), (2, _), (1, _), (0, _)]) (nx' := 6) [5, 1, 2] rfl rfl rfl rfl rfl rfl rfl rfl rfl (by (repeat' apply And.intro) <;> first | trivial | rfl | exact flat_len (s := 6) (enc := encGActive) (fun _ => rfl) _ | exact flat_len (fun _ => rfl) _ | exact encI_len _ | exact Nat.le_of_ble_eq_true rfl | assumption) (ixf_GActive l false 67 [.pptr [i64 id] 0, .pptr [i64 source] 0] (fun x_ => isSame x_ id source) ⟨rfl, rfl, fun _ => rfl, fun _ => rfl, fun x_ => isSame_ok x_ id source⟩) rfl (by decide) rfl rfl trivial rfl rfl rfl rfl ?_
  have p4 := fidx_lt (fun x_ => isSame x_ id source) l
  refine step_r rfl rfl trivial (step_nil (seqK_n (sem_seq (sem_block (sem_seq (sem_region rfl (step_r rfl rfl trivial (step_bin rfl rfl rfl rfl rfl trivial (step_r rfl rfl trivial (step_nil (seqK_n ?_)))))))))))
  refine sem_cond rfl (fun h7 => ?_) (fun h7 => ?_)
  ·have g7 : (fidx (fun x_ => isSame x_ id source) l : Int) ≥ 0 := of_decide_eq_true h7
   refine sem_seq ?_
   refine sem_drawn rfl (by decide +kernel) rfl ?_
   refine step_r rfl rfl trivial (step_r rfl rfl trivial (step_r rfl rfl trivial (step_r rfl rfl trivial ?_)))
   have jk8 : (fidx (fun x_ => isSame x_ id source) l).toNat < l.length := by first | assumption | omega | (simp only [List.length_set, List.length_append]; omega) | (simp only [IntKind.wrap_i64] at *; omega) | (simp; omega) | simp_all
   refine step_idxR' (k := (fidx (fun x_ => isSame x_ id source) l).toNat) rfl rfl (Int.toNat_of_nonneg (by first | omega | (simp only [IntKind.wrap_i64]; omega) | (simp only [IntKind.wrap_i64] at *; omega) | (simp; omega))).symm rfl rfl jk8 rfl ?_
   refine step_load_rowR rfl rfl rfl rfl (flat_lt (s := 6) (enc := encGActive) (fun _ => rfl) jk8) (flat_take (s := 6) (enc := encGActive) (fun _ => rfl) (get_getD jk8)) rfl ?_
   refine step_r (v := (.agg [_, _, _, _, _, _, _])) rfl rfl (Nat.le_of_ble_eq_true rfl) (step_r rfl rfl trivial (step_call rfl rfl rfl rfl (renewed_ok (l.getD ((fidx (fun x_ => isSame x_ id source) l).toNat) default) ((getU c id).1) now) rfl rfl rfl ?_))
   refine step_idxR' (k := (fidx (fun x_ => isSame x_ id source) l).toNat) rfl rfl (Int.toNat_of_nonneg (by first | omega | (simp only [IntKind.wrap_i64]; omega) | (simp only [IntKind.wrap_i64] at *; omega) | (simp; omega))).symm rfl rfl jk8 rfl ?_
   refine step_putR (qs := encGActive (renewed (l.getD ((fidx (fun x_ => isSame x_ id source) l).toNat) default) ((getU c id).1) now)) rfl rfl rfl rfl rfl (flat_lt (s := 6) (enc := encGActive) (fun _ => rfl) jk8) (flat_put (s := 6) (enc := encGActive) (y := (renewed (l.getD ((fidx (fun x_ => isSame x_ id source) l).toNat) default) ((getU c id).1) now)) (fun _ => rfl) jk8) (.inr (by decide +kernel)) rfl ?_
   refine step_nil (seqK_n (sem_seq (sem_region rfl (step_r rfl rfl trivial (step_r rfl rfl trivial (step_r rfl rfl trivial (step_nil (seqK_n (sem_ret (blkK_r (seqK_r ?_)))))))))))
   have e10 : apply15 c l id source now = ((l.set (fidx (fun x_ => isSame x_ id source) l).toNat (renewed (l.getD ((fidx (fun x_ => isSame x_ id source) l).toNat) default) ((getU c id).1) now)), 0) := by
    unfold apply15
    try dsimp only
    rewrite [if_pos g2, if_pos g7]
    all_goals rfl
   rw [e10]
   try simp only [List.length_set]
   exact answersGR [] [5] rfl ⟨trivial, trivial, trivial⟩ rfl (by (repeat' apply And.intro) <;> first | trivial | rfl | exact flat_len (fun _ => rfl) _ | exact encI_len _ | assumption) (rfl) rfl rfl rfl (by decide) rfl rfl ⟨⟨rfl, rfl⟩, trivial⟩
  ·have g7 : ¬ ((fidx (fun x_ => isSame x_ id source) l : Int) ≥ 0) := of_decide_eq_false h7
   refine sem_seq (sem_region rfl (step_r rfl rfl trivial (step_r rfl rfl trivial (step_bin rfl rfl rfl rfl rfl trivial (step_r rfl rfl trivial (step_nil (seqK_n ?_)))))))
   refine sem_cond rfl (fun h12 => ?_) (fun h12 => ?_)
   ·have g12 : (l.length : Int) ≥ 16 := of_decide_eq_true h12
    refine sem_seq (sem_region rfl (step_n (nx' := 7) rfl rfl rfl trivial (step_r rfl rfl trivial (step_nil (seqK_n (sem_ret (blkK_r (seqK_r ?_))))))))
    have e13 : apply15 c l id source now = ([], 4) := by
     unfold apply15
     try dsimp only
     rewrite [if_pos g2, if_neg g7, if_pos g12]
     all_goals rfl
    rw [e13]
    exact answersGR [] [6] rfl ⟨trivial, trivial, trivial⟩ rfl (by (repeat' apply And.intro) <;> first | trivial | rfl | exact flat_len (fun _ => rfl) _ | exact encI_len _ | assumption) (rfl) rfl rfl rfl (by decide) rfl rfl ⟨⟨rfl, rfl⟩, trivial⟩
   ·have g12 : ¬ ((l.length : Int) ≥ 16) := of_decide_eq_false h12
    refine sem_skip (blkK_n (seqK_n (sem_seq (sem_region rfl (step_r rfl rfl trivial (step_r (v := (.agg [_, _, _, _, _, _, _])) rfl rfl (Nat.le_of_ble_eq_true rfl) (step_r rfl rfl trivial (step_r rfl rfl trivial (step_call rfl rfl rfl rfl (first15_ok ((getU c id).1) source now) rfl rfl rfl (step_n (o := .row _ _ [_, _, _, _, _, _]) (nx' := 7) rfl rfl rfl (by decide) ?_))))))))))
    refine step_appendC (m := 1) (new := [_, _, _, _, _, _]) (cs' := (l ++ [(first15 ((getU c id).1) source now)]).flatMap encGActive) (n' := (l ++ [(first15 ((getU c id).1) source now)]).length) (H' := [(6, .row _ _ _), (5, .row _ _ _), (4, .box [_, _, _, _, _, _, _]), (3, .row _ _ _), (2, .box [_]), (1, .box [_]), (0, .box [_, _, _, _, _, _, _, _, _, _])]) rfl rfl rfl (rfl) rfl rfl rfl rfl rfl rfl (flat_len (s := 6) (enc := encGActive) (fun _ => rfl) l) (rfl) (by first | decide | (unfold maxGrow; omega) | (unfold maxGrow; simp; omega) | (unfold maxGrow; simp only [List.length_append, List.length_take, List.length_drop, List.length_cons, List.length_nil, IntKind.wrap_i64] at *; omega)) (len_snoc l _) (((flat_snoc (enc := encGActive) (l := l) (first15 ((getU c id).1) source now))).symm) (.inl rfl) rfl rfl (.keep rfl (.keep rfl (.keep rfl (.keep rfl (.keep rfl (.keep rfl (.keep rfl .nil))))))) (.keep rfl (.keep rfl (.keep rfl (.keep rfl (.keep rfl (.lose (v' := .undef) rfl (.keep rfl (.keep rfl (.keep rfl (.keep rfl (.keep rfl (.keep rfl (.keep rfl (.keep rfl (.keep rfl (.keep rfl (.lose (v' := .undef) rfl (.lose (v' := .undef) rfl (.lose (v' := .undef) rfl (.keep rfl (.keep rfl (.keep rfl (.keep rfl (.keep rfl (.keep rfl (.keep rfl (.keep rfl (.keep rfl (.keep rfl (.keep rfl (.keep rfl (.keep rfl (.keep rfl (.keep rfl (.keep rfl (.keep rfl (.keep rfl (.keep rfl (.keep rfl (.keep rfl .nil)))))))))))))))))))))))))))))))))))))))) ?_
    refine step_r rfl rfl trivial (step_r rfl rfl trivial (step_nil (seqK_n (sem_ret ?_))))
    have e15 : apply15 c l id source now = ((l ++ [(first15 ((getU c id).1) source now)]), 0) := by
     unfold apply15
     try dsimp only
     rewrite [if_pos g2, if_neg g7, if_neg g12]
     all_goals rfl
    rw [e15]
    exact answersGR [] [5] rfl ⟨trivial, trivial, trivial⟩ rfl (by (repeat' apply And.intro) <;> first | trivial | rfl | exact flat_len (fun _ => rfl) _ | exact encI_len _ | assumption) (rfl) rfl rfl rfl (by decide) rfl rfl ⟨⟨rfl, rfl⟩, trivial⟩

def staysA (x_ : GActive) (c1 : Int) : Bool :=
  (decide ((x_.Until : Int) > c1))
theorem staysA_ok (x_ : GActive) (c1 : Int) : Ok Try.prog 43 [aGActive x_, .pptr [i64 c1] 0] [] (B (staysA x_ c1)) [] [] := by
 refine ok_of_sem Try.func43 rfl ?_
 show Walks Try.prog _ _ ⟨[(0, aGActive x_), (1, .pptr [i64 c1] 0)], [], 0, [], 8, 0⟩
 refine sem_seq (sem_region rfl (step_n (o := .box [_, _, _, _, _, _]) (nx' := 1) rfl rfl rfl trivial (step_r rfl rfl trivial (step_nil (seqK_n (sem_seq (sem_region rfl (step_r rfl rfl (by decide) (step_r rfl rfl trivial (step_load_one rfl rfl rfl (rfl) rfl (step_bin rfl rfl rfl rfl rfl trivial ?_)))))))))))
 refine step_r rfl rfl trivial (step_nil (seqK_n (sem_ret ?_)))
 have e2 : staysA x_ c1 = (decide ((x_.Until : Int) > c1)) := by
  unfold staysA
  try dsimp only
  all_goals rfl
 rw [e2]
 exact answersR rfl ⟨trivial, trivial⟩ (rfl) rfl

def part15_L0 (is : GActive → Bool) : List GActive → Nat → (List GActive) → (List GActive) → (List GActive) × (List GActive)
  | [], k0, yes0, no0 => (yes0, no0)
  | x0 :: l_, k0, yes0, no0 => if is x0 = true then part15_L0 is l_ (k0 + 1) (yes0 ++ [x0]) no0 else part15_L0 is l_ (k0 + 1) yes0 (no0 ++ [x0])
def part15 (l : List GActive) (is : GActive → Bool) : (List GActive) × (List GActive) :=
  (match part15_L0 is l 0 ([]) ([]) with
    | (yes_0, no_0) => (yes_0, no_0))
theorem part15_ok (l : List GActive) (l_f : Bool) (is_c : FuncId) (is_k : List AV) (is : GActive → Bool) (is_h : Fn1 Try.prog is_c is_k (fun x_ : GActive => [aGActive x_]) (fun x_ => B (is x_))) (hl : l.length ≤ 16777215) : Ok Try.prog 42 [.pv (.slc l.length l_f (l.flatMap encGActive)), .fnc is_c is_k] [] (.tup [.ref 0 6 0 (part15 l is).1.length, .ref 1 6 0 (part15 l is).2.length]) [.row 61 6 ((part15 l is).1.flatMap encGActive), .row 61 6 ((part15 l is).2.flatMap encGActive)] [] := by
 refine Ok.len fun hlen => ?_
 have hl_l : l.length ≤ maxLen := hlen _ (by simp [lensL, lens, lensP])
 unfold maxLen at hl_l
 refine ok_of_sem Try.func42 rfl ?_
 show Walks Try.prog _ _ ⟨[(0, .pv (.slc l.length l_f (l.flatMap encGActive))), (1, .fnc is_c is_k)], [], 0, [], 28, 0⟩
 refine sem_seq (sem_region rfl (step_n (nx' := 1) rfl rfl rfl trivial (step_n (nx' := 2) rfl rfl rfl trivial (step_nil (seqK_n (sem_seq (sem_seq (sem_region rfl (step_r rfl rfl trivial (step_r rfl rfl trivial (step_r rfl rfl trivial ?_)))))))))))
 refine step_nil (seqK_n ?_)
 refine sem_cutW (fun w_ : (List GActive) × (List GActive) => match w_ with | (yes_0, no_0) => (⟨[(4, .ref 0 6 0 yes_0.length), (5, .ref 1 6 0 no_0.length)], [(0, .row 61 6 (yes_0.flatMap encGActive)), (1, .row 61 6 (no_0.flatMap encGActive))], 2, [], 28, 0⟩ : St)) (fun w_ => part15_L0 is l 0 ([]) ([]) = w_) ?_ ?_
 ·refine sem_block ?_
  refine sem_loopT (fun w_ : Nat × (List GActive) × (List GActive) => match w_ with | (k0, yes0, no0) => (⟨[(1, .fnc is_c is_k), (4, .ref 0 6 0 yes0.length), (5, .ref 1 6 0 no0.length), (8, .pv (.slc l.length l_f (l.flatMap encGActive))), (9, I l.length), (10, I k0)], [(0, .row 61 6 (yes0.flatMap encGActive)), (1, .row 61 6 (no0.flatMap encGActive))], 2, [], 28, 0⟩ : St)) (fun w_ : Nat × (List GActive) × (List GActive) => match w_ with | (k0, yes0, no0) => part15_L0 is (l.drop k0) k0 yes0 no0 = part15_L0 is l 0 ([]) ([]) ∧ k0 ≤ l.length ∧ yes0.length ≤ k0 ∧ no0.length ≤ k0) (fun w_ : Nat × (List GActive) × (List GActive) => match w_ with | (k0, yes0, no0) => l.length - k0) (0, [], []) (⟨rfl, Nat.zero_le _, by first | omega | simp | (simp; omega)⟩) ?_ (fun w_ hh_ => ?_)
  ·exact (Trans.ren [] (by decide +kernel) (by decide +kernel) rfl ⟨⟨congrArg some is_h.renN.symm, is_h.belN⟩, ⟨congrArg (fun n => some (AV.ref 0 6 0 n)) (by first | rfl | simp only [List.length_set] | simp | omega | (simp; omega)), rfl⟩, ⟨congrArg (fun n => some (AV.ref 1 6 0 n)) (by first | rfl | simp only [List.length_set] | simp | omega | (simp; omega)), rfl⟩, ⟨rfl, rfl⟩, ⟨rfl, rfl⟩, ⟨rfl, rfl⟩, trivial⟩ ⟨⟨rfl, rfl, rfl⟩, ⟨rfl, rfl, rfl⟩, trivial⟩ (by decide))
  obtain ⟨k0, yes0, no0⟩ := w_
  obtain ⟨hI0, hb0, hv0⟩ := hh_
  show Walks Try.prog _ _ (⟨[(1, .fnc is_c is_k), (4, .ref 0 6 0 yes0.length), (5, .ref 1 6 0 no0.length), (8, .pv (.slc l.length l_f (l.flatMap encGActive))), (9, I l.length), (10, I k0)], [(0, .row 61 6 (yes0.flatMap encGActive)), (1, .row 61 6 (no0.flatMap encGActive))], 2, [], 28, 0⟩ : St)
  refine sem_seq (sem_region rfl (step_bin rfl rfl rfl rfl rfl trivial (step_nil (seqK_n (sem_seq ?_)))))
  refine sem_cond rfl (fun h2 => ?_) (fun h2 => ?_)
  ·have g2 : (k0 : Int) < l.length := of_decide_eq_true h2
   have hk0 : k0 < l.length := by omega
   obtain ⟨x0, hx0⟩ : ∃ z_, l[k0]? = some z_ := ⟨_, List.getElem?_eq_getElem hk0⟩
   refine sem_skip (seqK_n (sem_seq (sem_block (sem_seq (sem_region rfl (step_idxS (k := k0) rfl rfl rfl rfl hk0 (flat_ne (s := 6) (enc := encGActive) (fun _ => rfl) (by decide) hk0) rfl (step_load_row rfl rfl rfl (flat_lt (s := 6) (enc := encGActive) (fun _ => rfl) hk0) (flat_take (s := 6) (enc := encGActive) (fun _ => rfl) hx0) rfl (step_n (o := .box [_, _, _, _, _, _]) (nx' := 3) rfl rfl rfl trivial ?_))))))))
   refine step_storeB (H' := [(2, .box [_, _, _, _, _, _]), (0, _), (1, _)]) rfl rfl rfl rfl rfl rfl (.inl rfl) rfl ?_
   refine step_nil (seqK_n (sem_seq (sem_region rfl (step_r rfl rfl trivial (step_r (v := (.agg [_, _, _, _, _, _])) rfl rfl (Nat.le_of_ble_eq_true rfl) ?_)))))
   refine step_callF is_h x0 rfl rfl rfl rfl rfl rfl ?_
   refine step_nil (seqK_n ?_)
   refine sem_cond rfl (fun h3 => ?_) (fun h3 => ?_)
   ·have g3 : is x0 = true := h3
    refine sem_region rfl (step_r rfl rfl trivial (step_r (v := (.agg [_, _, _, _, _, _])) rfl rfl (Nat.le_of_ble_eq_true rfl) (step_n (o := .row _ _ [_, _, _, _, _, _]) (nx' := 4) rfl rfl rfl (by decide) ?_)))
    refine step_appendC (m := 1) (new := [_, _, _, _, _, _]) (cs' := (yes0 ++ [x0]).flatMap encGActive) (n' := (yes0 ++ [x0]).length) (H' := [(3, .row _ _ _), (2, .box [_, _, _, _, _, _]), (0, .row _ _ _), (1, .row _ _ _)]) rfl rfl rfl (rfl) rfl rfl rfl rfl rfl rfl (flat_len (s := 6) (enc := encGActive) (fun _ => rfl) yes0) (rfl) (by first | decide | (unfold maxGrow; omega) | (unfold maxGrow; simp; omega) | (unfold maxGrow; simp only [List.length_append, List.length_take, List.length_drop, List.length_cons, List.length_nil, IntKind.wrap_i64] at *; omega)) (len_snoc yes0 _) (((flat_snoc (enc := encGActive) (l := yes0) x0)).symm) (.inl rfl) rfl rfl (.keep rfl (.keep rfl (.keep rfl (.keep rfl .nil)))) (.keep rfl (.keep rfl (.lose (v' := .undef) rfl (.keep rfl (.keep rfl (.keep (is_h.purN _) (.keep rfl (.keep rfl (.keep rfl (.keep rfl (.keep (is_h.purN _) (.lose (v' := .undef) rfl (.keep rfl (.keep rfl (.keep rfl (.keep rfl .nil)))))))))))))))) ?_
    refine step_r rfl rfl trivial (step_nil (blkK_n (seqK_n (sem_region rfl (step_bin rfl rfl rfl rfl rfl trivial (step_r rfl rfl trivial (step_nil ?_)))))))
    have e5 : part15_L0 is (l.drop k0) k0 yes0 no0 = part15_L0 is (l.drop (k0 + 1)) (k0 + 1) (yes0 ++ [x0]) no0 := by
     rewrite [drop_cons hx0]
     rewrite [part15_L0]
     try dsimp only
     rewrite [if_pos g3]
     all_goals rfl
    exact lup_againT (k0 + 1, (yes0 ++ [x0]), no0) ⟨e5.symm.trans hI0, hk0, by first | omega | assumption | (simp only [List.length_append, List.length_cons, List.length_nil, List.length_set]; omega) | (simp; omega) | grind⟩ (by show l.length - (k0 + 1) < l.length - k0; omega) (Trans.ren [] (by decide +kernel) (by decide +kernel) rfl ⟨⟨congrArg some is_h.renN.symm, is_h.belN⟩, ⟨rfl, rfl⟩, ⟨rfl, rfl⟩, ⟨rfl, rfl⟩, ⟨rfl, rfl⟩, ⟨congrArg (fun n => some (I n)) (wrapI (k := k0) (by first | omega | (simp; omega))), rfl⟩, trivial⟩ ⟨⟨rfl, rfl, rfl⟩, ⟨rfl, rfl, rfl⟩, trivial⟩ (by decide))
   ·have g3 : ¬ (is x0 = true) := boo_f h3
    refine sem_region rfl (step_r rfl rfl trivial (step_r (v := (.agg [_, _, _, _, _, _])) rfl rfl (Nat.le_of_ble_eq_true rfl) (step_n (o := .row _ _ [_, _, _, _, _, _]) (nx' := 4) rfl rfl rfl (by decide) ?_)))
    refine step_appendC (m := 1) (new := [_, _, _, _, _, _]) (cs' := (no0 ++ [x0]).flatMap encGActive) (n' := (no0 ++ [x0]).length) (H' := [(3, .row _ _ _), (2, .box [_, _, _, _, _, _]), (0, .row _ _ _), (1, .row _ _ _)]) rfl rfl rfl (rfl) rfl rfl rfl rfl rfl rfl (flat_len (s := 6) (enc := encGActive) (fun _ => rfl) no0) (rfl) (by first | decide | (unfold maxGrow; omega) | (unfold maxGrow; simp; omega) | (unfold maxGrow; simp only [List.length_append, List.length_take, List.length_drop, List.length_cons, List.length_nil, IntKind.wrap_i64] at *; omega)) (len_snoc no0 _) (((flat_snoc (enc := encGActive) (l := no0) x0)).symm) (.inl rfl) rfl rfl (.keep rfl (.keep rfl (.keep rfl (.keep rfl .nil)))) (.keep rfl (.keep rfl (.lose (v' := .undef) rfl (.keep rfl (.keep rfl (.keep (is_h.purN _) (.keep rfl (.keep rfl (.keep rfl (.keep rfl (.keep (is_h.purN _) (.keep rfl (.lose (v' := .undef) rfl (.keep rfl (.keep rfl (.keep rfl .nil)))))))))))))))) ?_
    refine step_r rfl rfl trivial (step_nil (blkK_n (seqK_n (sem_region rfl (step_bin rfl rfl rfl rfl rfl trivial (step_r rfl rfl trivial (step_nil ?_)))))))
    have e7 : part15_L0 is (l.drop k0) k0 yes0 no0 = part15_L0 is (l.drop (k0 + 1)) (k0 + 1) yes0 (no0 ++ [x0]) := by
     rewrite [drop_cons hx0]
     rewrite [part15_L0]
     try dsimp only
     rewrite [if_neg g3]
     all_goals rfl
    exact lup_againT (k0 + 1, yes0, (no0 ++ [x0])) ⟨e7.symm.trans hI0, hk0, by first | omega | assumption | (simp only [List.length_append, List.length_cons, List.length_nil, List.length_set]; omega) | (simp; omega) | grind⟩ (by show l.length - (k0 + 1) < l.length - k0; omega) (Trans.ren [] (by decide +kernel) (by decide +kernel) rfl ⟨⟨congrArg some is_h.renN.symm, is_h.belN⟩, ⟨rfl, rfl⟩, ⟨rfl, rfl⟩, ⟨rfl, rfl⟩, ⟨rfl, rfl⟩, ⟨congrArg (fun n => some (I n)) (wrapI (k := k0) (by first | omega | (simp; omega))), rfl⟩, trivial⟩ ⟨⟨rfl, rfl, rfl⟩, ⟨rfl, rfl, rfl⟩, trivial⟩ (by decide))
  ·have g2 : ¬ ((k0 : Int) < l.length) := of_decide_eq_false h2
   have hk0 : k0 = l.length := by omega
   refine sem_exit (seqK_e (lupK_e (blkK_t rfl ?_)))
   have e8 : part15_L0 is l 0 ([]) ([]) = (yes0, no0) := by
    rewrite [← hI0, hk0, List.drop_length]
    rewrite [part15_L0]
    try dsimp only
    all_goals rfl
   exact cutW_n (yes0, no0) e8 (Trans.ren [] (by decide +kernel) (by decide +kernel) rfl ⟨⟨rfl, rfl⟩, ⟨rfl, rfl⟩, trivial⟩ ⟨⟨rfl, rfl, rfl⟩, ⟨rfl, rfl, rfl⟩, trivial⟩ (by decide))
 ·rintro ⟨yes_0, no_0⟩ (hJ1 : part15_L0 is l 0 ([]) ([]) = (yes_0, no_0))
  show seqK _ _ _ .normal (⟨[(4, .ref 0 6 0 yes_0.length), (5, .ref 1 6 0 no_0.length)], [(0, .row 61 6 (yes_0.flatMap encGActive)), (1, .row 61 6 (no_0.flatMap encGActive))], 2, [], 28, 0⟩ : St)
  refine seqK_n (sem_seq (sem_region rfl (step_r rfl rfl trivial (step_r rfl rfl trivial (step_r rfl rfl trivial (step_r rfl rfl trivial (step_nil (seqK_n (sem_ret ?_)))))))))
  have e9 : part15 l is = (yes_0, no_0) := by
   unfold part15
   try dsimp only
   rewrite [hJ1]
   try dsimp only
   all_goals rfl
  rw [e9]
  exact answersGR [] [0, 1] rfl ⟨trivial, trivial, trivial⟩ rfl (by (repeat' apply And.intro) <;> first | trivial | rfl | exact flat_len (fun _ => rfl) _ | exact encI_len _ | assumption) (rfl) rfl rfl rfl (by decide) rfl rfl ⟨⟨rfl, rfl⟩, ⟨rfl, rfl⟩, trivial⟩

def expire15 (l : List GActive) (now : Int) : (List GActive) × (List GActive) :=
  ((part15 l (fun x_ => staysA x_ now)).1, (part15 l (fun x_ => staysA x_ now)).2)
theorem expire15_ok (l : List GActive) (l_f : Bool) (now : Int) (hl : l.length ≤ 16777215) : Ok Try.prog 19 [.pv (.slc l.length l_f (l.flatMap encGActive)), I now] [] (.tup [.ref 0 6 0 (expire15 l now).1.length, .ref 1 6 0 (expire15 l now).2.length]) [.row 61 6 ((expire15 l now).1.flatMap encGActive), .row 61 6 ((expire15 l now).2.flatMap encGActive)] [] := by
 refine Ok.len fun hlen => ?_
 have hl_l : l.length ≤ maxLen := hlen _ (by simp [lensL, lens, lensP])
 unfold maxLen at hl_l
 refine ok_of_sem Try.func19 rfl ?_
 show Walks Try.prog _ _ ⟨[(0, .pv (.slc l.length l_f (l.flatMap encGActive))), (1, I now)], [], 0, [], 11, 0⟩
 refine sem_seq (sem_region rfl (step_n (o := .box [_]) (nx' := 1) rfl rfl rfl trivial (step_n (nx' := 2) rfl rfl rfl trivial (step_n (nx' := 3) rfl rfl rfl trivial (step_nil (seqK_n (sem_seq (sem_region rfl (step_r rfl rfl trivial (step_r rfl rfl trivial ?_))))))))))
 refine step_callJ (Hin := [.box [.pv _]]) (out' := .tup [.ref 3 _ _ _, .ref 4 _ _ _]) (H' := [(3, .row _ _ _), (4, .row _ _ _), (2, _), (1, _), (0, _)]) (nx' := 5) [0] rfl rfl rfl rfl rfl rfl rfl rfl rfl (by (repeat' apply And.intro) <;> first | trivial | rfl | exact flat_len (fun _ => rfl) _ | exact encI_len _ | exact Nat.le_of_ble_eq_true rfl | assumption) (part15_ok l false 43 [.pptr [i64 now] 0] (fun x_ => staysA x_ now) ⟨rfl, rfl, fun _ => rfl, fun _ => rfl, fun x_ => staysA_ok x_ now⟩ (by first | assumption | omega | (simp only [List.length_nil, List.length_cons, List.length_append] at *; omega) | (simp; done) | (simp; omega))) rfl (by decide) rfl rfl ⟨encGActive_solid, encGActive_solid, trivial⟩ rfl rfl rfl rfl ?_
 refine step_r rfl rfl trivial (step_r rfl rfl trivial (step_r rfl rfl trivial (step_r rfl rfl trivial (step_nil (seqK_n (sem_ret ?_))))))
 have e1 : expire15 l now = ((part15 l (fun x_ => staysA x_ now)).1, (part15 l (fun x_ => staysA x_ now)).2) := by
  unfold expire15
  try dsimp only
  all_goals rfl
 rw [e1]
 exact answersGR [] [3, 4] rfl ⟨trivial, trivial, trivial⟩ rfl (by (repeat' apply And.intro) <;> first | trivial | rfl | exact flat_len (fun _ => rfl) _ | exact encI_len _ | assumption) (rfl) rfl rfl rfl (by decide) rfl rfl ⟨⟨rfl, rfl⟩, ⟨rfl, rfl⟩, trivial⟩

def sumF (v_ : Int) (x_ : GActive) (a : GAura) (c3 : Int) : Int :=
  (addM c3 (mul1 a.Amount x_.Stacks))
theorem sumF_ok (v_ : Int) (x_ : GActive) (a : GAura) (c3 : Int) : Ok Try.prog 48 [I v_, aGActive x_, aGAura a, .ptr 0 0] [.box [I c3]] (.tup []) [.box [I (sumF v_ x_ a c3)]] [] := by
 refine ok_of_sem Try.func48 rfl ?_
 show Walks Try.prog _ _ ⟨[(0, I v_), (1, aGActive x_), (2, aGAura a), (3, .ptr 0 0)], [(0, .box [I c3])], 1, [], 14, 1⟩
 refine sem_seq (sem_region rfl (step_n (o := .box [_, _, _, _, _, _]) (nx' := 2) rfl rfl rfl trivial (step_n (o := .box [_, _, _, _, _, _, _]) (nx' := 3) rfl rfl rfl trivial (step_nil (seqK_n ?_)))))
 refine sem_drawn rfl (by decide +kernel) rfl ?_
 refine step_r rfl rfl trivial (step_r rfl rfl (by decide) (step_r rfl rfl trivial (step_r rfl rfl (by decide) (step_r rfl rfl trivial (step_call rfl rfl rfl rfl (mul1_ok a.Amount x_.Stacks) rfl rfl rfl (step_call rfl rfl rfl rfl (add_ok c3 (mul1 a.Amount x_.Stacks)) rfl rfl rfl ?_))))))
 refine step_storeB (H' := [(2, _), (1, _), (0, .box [_])]) rfl rfl rfl rfl rfl rfl (.inr (by decide +kernel)) rfl ?_
 refine step_nil ?_
 have e1 : sumF v_ x_ a c3 = (addM c3 (mul1 a.Amount x_.Stacks)) := by
  unfold sumF
  try dsimp only
  all_goals rfl
 rw [e1]
 exact answersGN [] [] rfl trivial rfl (by (repeat' apply And.intro) <;> first | trivial | rfl | exact flat_len (fun _ => rfl) _ | exact encI_len _ | assumption) (rfl) rfl rfl rfl (by decide) rfl rfl ⟨⟨rfl, rfl⟩, trivial⟩

def ofSum_J16 (c : GContent) (kind : Int) (o00 : Int) (k0 : Nat) (x0 : GActive) : Int :=
  if (getU c x0.Aura).2 = true then (if (((getU c x0.Aura).1).Kind : Int) = kind then (sumF k0 x0 ((getU c x0.Aura).1) o00) else o00) else o00
def ofSum_L0 (c : GContent) (kind : Int) : List GActive → Nat → Int → Int
  | [], k0, o00 => o00
  | x0 :: l_, k0, o00 => (let o0_16 := ofSum_J16 c kind o00 k0 x0; ofSum_L0 c kind l_ (k0 + 1) o0_16)
def ofSum (c : GContent) (l : List GActive) (kind : Int) (n : Int) : Int :=
  (let o0_0 := ofSum_L0 c kind l 0 n; o0_0)
theorem ofSum_ok (c : GContent) (l : List GActive) (l_f : Bool) (kind : Int) (n : Int) : Ok Try.prog 47 [aGContent c, .pv (.slc l.length l_f (l.flatMap encGActive)), I kind, .fnc 48 [.ptr 0 0]] [.box [I n]] (.tup []) [.box [I (ofSum c l kind n)]] [] := by
 refine Ok.len fun hlen => ?_
 have hl_c_Abilities : c.Abilities.length ≤ maxLen := hlen _ (by simp [lensL, lens, lensP])
 have hl_c_Auras : c.Auras.length ≤ maxLen := hlen _ (by simp [lensL, lens, lensP])
 have hl_c_Foes : c.Foes.length ≤ maxLen := hlen _ (by simp [lensL, lens, lensP])
 have hl_c_Map_Wall : c.Map.Wall.length ≤ maxLen := hlen _ (by simp [lensL, lens, lensP])
 have hl_l : l.length ≤ maxLen := hlen _ (by simp [lensL, lens, lensP])
 unfold maxLen at hl_c_Abilities hl_c_Auras hl_c_Foes hl_c_Map_Wall hl_l
 refine ok_of_sem Try.func47 rfl ?_
 show Walks Try.prog _ _ ⟨[(0, aGContent c), (1, .pv (.slc l.length l_f (l.flatMap encGActive))), (2, I kind), (3, .fnc 48 [.ptr 0 0])], [(0, .box [I n])], 1, [], 39, 1⟩
 refine sem_seq (sem_region rfl (step_n (o := .box [_, _, _, _, _, _, _, _, _, _]) (nx' := 2) rfl rfl rfl trivial (step_nil (seqK_n (sem_seq (sem_region rfl (step_r rfl rfl trivial (step_r rfl rfl trivial (step_r rfl rfl trivial (step_nil (seqK_n ?_)))))))))))
 refine sem_cutW (fun o0_0 : Int => (⟨[], [(0, .box [I o0_0])], 1, [], 39, 1⟩ : St)) (fun w_ => ofSum_L0 c kind l 0 n = w_) ?_ ?_
 ·refine sem_block ?_
  refine sem_loopT (fun w_ : Nat × Int => match w_ with | (k0, o00) => (⟨[(2, I kind), (3, .fnc 48 [.ptr 0 0]), (4, .ptr 1 0), (12, .pv (.slc l.length l_f (l.flatMap encGActive))), (13, I l.length), (14, I k0)], [(0, .box [I o00]), (1, .box [.pv (.slc c.Abilities.length false (c.Abilities.flatMap encGAbility)), .pv (.slc c.Auras.length false (c.Auras.flatMap encGAura)), .pv (.slc c.Foes.length false (c.Foes.flatMap encGFoe)), I c.Map.W, I c.Map.H, .pv (.slc c.Map.Wall.length false (encB c.Map.Wall)), I c.Door.X, I c.Door.Y, I c.Lair.X, I c.Lair.Y])], 2, [], 39, 1⟩ : St)) (fun w_ : Nat × Int => match w_ with | (k0, o00) => ofSum_L0 c kind (l.drop k0) k0 o00 = ofSum_L0 c kind l 0 n ∧ k0 ≤ l.length) (fun w_ : Nat × Int => match w_ with | (k0, o00) => l.length - k0) (0, n) (⟨rfl, Nat.zero_le _⟩) ?_ (fun w_ hh_ => ?_)
  ·exact (Trans.ren [] (by decide +kernel) (by decide +kernel) rfl ⟨⟨rfl, rfl⟩, ⟨rfl, rfl⟩, ⟨rfl, rfl⟩, ⟨rfl, rfl⟩, ⟨rfl, rfl⟩, ⟨rfl, rfl⟩, trivial⟩ ⟨⟨rfl, rfl, rfl⟩, ⟨rfl, rfl, rfl⟩, trivial⟩ (by decide))
  obtain ⟨k0, o00⟩ := w_
  obtain ⟨hI0, hb0⟩ := hh_
  show Walks Try.prog _ _ (⟨[(2, I kind), (3, .fnc 48 [.ptr 0 0]), (4, .ptr 1 0), (12, .pv (.slc l.length l_f (l.flatMap encGActive))), (13, I l.length), (14, I k0)], [(0, .box [I o00]), (1, .box [.pv (.slc c.Abilities.length false (c.Abilities.flatMap encGAbility)), .pv (.slc c.Auras.length false (c.Auras.flatMap encGAura)), .pv (.slc c.Foes.length false (c.Foes.flatMap encGFoe)), I c.Map.W, I c.Map.H, .pv (.slc c.Map.Wall.length false (encB c.Map.Wall)), I c.Door.X, I c.Door.Y, I c.Lair.X, I c.Lair.Y])], 2, [], 39, 1⟩ : St)
  refine sem_seq (sem_region rfl (step_bin rfl rfl rfl rfl rfl trivial (step_nil (seqK_n (sem_seq ?_)))))
  refine sem_cond rfl (fun h2 => ?_) (fun h2 => ?_)
  ·have g2 : (k0 : Int) < l.length := of_decide_eq_true h2
   have hk0 : k0 < l.length := by omega
   obtain ⟨x0, hx0⟩ : ∃ z_, l[k0]? = some z_ := ⟨_, List.getElem?_eq_getElem hk0⟩
   refine sem_skip (seqK_n (sem_seq ?_))
   refine sem_cutW (fun o0_16 : Int => (⟨[(2, I kind), (3, .fnc 48 [.ptr 0 0]), (4, .ptr 1 0), (12, .pv (.slc l.length l_f (l.flatMap encGActive))), (13, I l.length), (14, I k0)], [(0, .box [I o0_16]), (1, .box [.pv (.slc c.Abilities.length false (c.Abilities.flatMap encGAbility)), .pv (.slc c.Auras.length false (c.Auras.flatMap encGAura)), .pv (.slc c.Foes.length false (c.Foes.flatMap encGFoe)), I c.Map.W, I c.Map.H, .pv (.slc c.Map.Wall.length false (encB c.Map.Wall)), I c.Door.X, I c.Door.Y, I c.Lair.X, I c.Lair.Y])], 2, [], 39, 1⟩ : St)) (fun w_ => ofSum_J16 c kind o00 k0 x0 = w_) ?_ ?_
   ·refine sem_block (sem_seq (sem_region rfl (step_r rfl rfl trivial (step_idxS (k := k0) rfl rfl rfl rfl hk0 (flat_ne (s := 6) (enc := encGActive) (fun _ => rfl) (by decide) hk0) rfl (step_load_row rfl rfl rfl (flat_lt (s := 6) (enc := encGActive) (fun _ => rfl) hk0) (flat_take (s := 6) (enc := encGActive) (fun _ => rfl) hx0) rfl (step_n (o := .box [_, _, _, _, _, _]) (nx' := 3) rfl rfl rfl trivial (step_r rfl rfl trivial ?_)))))))
    refine step_storeB (H' := [(2, .box [_, _, _, _, _, _]), (0, _), (1, _)]) rfl rfl rfl rfl rfl rfl (.inl rfl) rfl ?_
    refine step_nil (seqK_n (sem_seq (sem_region rfl (step_r (v := (.agg [_, _, _, _, _, _, _, _, _, _])) rfl rfl (Nat.le_of_ble_eq_true rfl) (step_r rfl rfl (by decide) (step_r rfl rfl trivial (step_call rfl rfl rfl rfl (getU_ok c x0.Aura) rfl rfl rfl (step_r rfl rfl trivial (step_r rfl rfl trivial (step_r rfl rfl trivial (step_n (o := .box [_, _, _, _, _, _, _]) (nx' := 4) rfl rfl rfl trivial ?_)))))))))))
    refine step_storeB (H' := [(3, .box [_, _, _, _, _, _, _]), (2, _), (0, _), (1, _)]) rfl rfl rfl rfl rfl rfl (.inl rfl) rfl ?_
    refine step_r rfl rfl trivial (step_nil (seqK_n (sem_seq (sem_region rfl (step_r rfl rfl trivial (step_r rfl rfl trivial ?_))))))
    refine step_gs rfl (fun h6 => ?_) (fun h6 => ?_)
    ·have g6 : (getU c x0.Aura).2 = true := h6
     refine step_g1 rfl h6 (step_r rfl rfl (by decide) (step_g1 rfl h6 (step_r rfl rfl trivial (step_g1 rfl h6 (step_r rfl rfl trivial (step_g1 rfl h6 (step_bin rfl rfl rfl rfl rfl trivial (step_pickT rfl h6 rfl rfl (step_nil (seqK_n ?_))))))))))
     refine sem_cond rfl (fun h9 => ?_) (fun h9 => ?_)
     ·have g9 : (((getU c x0.Aura).1).Kind : Int) = kind := beq_t h9
      refine sem_region rfl (step_r rfl rfl trivial (step_r rfl rfl trivial (step_r (v := (.agg [_, _, _, _, _, _])) rfl rfl (Nat.le_of_ble_eq_true rfl) (step_r (v := (.agg [_, _, _, _, _, _, _])) rfl rfl (Nat.le_of_ble_eq_true rfl) ?_))))
      refine step_callM (Hin := [.box [.pv _]]) (out' := .tup []) (H' := [(3, .box [_, _, _, _, _, _, _]), (2, .box [_, _, _, _, _, _]), (0, .box [_]), (1, .box [_, _, _, _, _, _, _, _, _, _])]) (nx' := 4) [0] rfl rfl rfl rfl (.inl rfl) rfl rfl rfl rfl (sumF_ok k0 x0 ((getU c x0.Aura).1) o00) rfl (by decide) rfl rfl rfl rfl rfl ?_
      refine step_nil (blkK_n ?_)
      have e10 : ofSum_J16 c kind o00 k0 x0 = (sumF k0 x0 ((getU c x0.Aura).1) o00) := by
       unfold ofSum_J16
       try dsimp only
       rewrite [if_pos g6, if_pos g9]
       all_goals rfl
      exact cutW_n (sumF k0 x0 ((getU c x0.Aura).1) o00) e10 (Trans.ren [] (by decide +kernel) (by decide +kernel) rfl ⟨⟨rfl, rfl⟩, ⟨rfl, rfl⟩, ⟨rfl, rfl⟩, ⟨rfl, rfl⟩, ⟨rfl, rfl⟩, ⟨rfl, rfl⟩, trivial⟩ ⟨⟨rfl, rfl, rfl⟩, ⟨rfl, rfl, rfl⟩, trivial⟩ (by decide))
     ·have g9 : ¬ ((((getU c x0.Aura).1).Kind : Int) = kind) := beq_f h9
      refine sem_skip (blkK_n ?_)
      have e11 : ofSum_J16 c kind o00 k0 x0 = o00 := by
       unfold ofSum_J16
       try dsimp only
       rewrite [if_pos g6, if_neg g9]
       all_goals rfl
      exact cutW_n o00 e11 (Trans.ren [] (by decide +kernel) (by decide +kernel) rfl ⟨⟨rfl, rfl⟩, ⟨rfl, rfl⟩, ⟨rfl, rfl⟩, ⟨rfl, rfl⟩, ⟨rfl, rfl⟩, ⟨rfl, rfl⟩, trivial⟩ ⟨⟨rfl, rfl, rfl⟩, ⟨rfl, rfl, rfl⟩, trivial⟩ (by decide))
    ·have g6 : ¬ ((getU c x0.Aura).2 = true) := boo_f h6
     refine step_g0 rfl h6 rfl (step_g0 rfl h6 rfl (step_g0 rfl h6 rfl (step_g0 rfl h6 rfl (step_pickF rfl h6 rfl rfl (step_nil (seqK_n (sem_condF rfl (sem_skip (blkK_n ?_)))))))))
     have e12 : ofSum_J16 c kind o00 k0 x0 = o00 := by
      unfold ofSum_J16
      try dsimp only
      rewrite [if_neg g6]
      all_goals rfl
     exact cutW_n o00 e12 (Trans.ren [] (by decide +kernel) (by decide +kernel) rfl ⟨⟨rfl, rfl⟩, ⟨rfl, rfl⟩, ⟨rfl, rfl⟩, ⟨rfl, rfl⟩, ⟨rfl, rfl⟩, ⟨rfl, rfl⟩, trivial⟩ ⟨⟨rfl, rfl, rfl⟩, ⟨rfl, rfl, rfl⟩, trivial⟩ (by decide))
   ·rintro o0_16 (hJ3 : ofSum_J16 c kind o00 k0 x0 = o0_16)
    show seqK _ _ _ .normal (⟨[(2, I kind), (3, .fnc 48 [.ptr 0 0]), (4, .ptr 1 0), (12, .pv (.slc l.length l_f (l.flatMap encGActive))), (13, I l.length), (14, I k0)], [(0, .box [I o0_16]), (1, .box [.pv (.slc c.Abilities.length false (c.Abilities.flatMap encGAbility)), .pv (.slc c.Auras.length false (c.Auras.flatMap encGAura)), .pv (.slc c.Foes.length false (c.Foes.flatMap encGFoe)), I c.Map.W, I c.Map.H, .pv (.slc c.Map.Wall.length false (encB c.Map.Wall)), I c.Door.X, I c.Door.Y, I c.Lair.X, I c.Lair.Y])], 2, [], 39, 1⟩ : St)
    refine seqK_n (sem_region rfl (step_bin rfl rfl rfl rfl rfl trivial (step_r rfl rfl trivial (step_nil ?_))))
    have e14 : ofSum_L0 c kind (l.drop k0) k0 o00 = ofSum_L0 c kind (l.drop (k0 + 1)) (k0 + 1) o0_16 := by
     rewrite [drop_cons hx0]
     rewrite [ofSum_L0]
     try dsimp only
     rewrite [hJ3]
     try dsimp only
     all_goals rfl
    exact lup_againT (k0 + 1, o0_16) ⟨e14.symm.trans hI0, hk0⟩ (by show l.length - (k0 + 1) < l.length - k0; omega) (Trans.ren [] (by decide +kernel) (by decide +kernel) rfl ⟨⟨rfl, rfl⟩, ⟨rfl, rfl⟩, ⟨rfl, rfl⟩, ⟨rfl, rfl⟩, ⟨rfl, rfl⟩, ⟨congrArg (fun n => some (I n)) (wrapI (k := k0) (by first | omega | (simp; omega))), rfl⟩, trivial⟩ ⟨⟨rfl, rfl, rfl⟩, ⟨rfl, rfl, rfl⟩, trivial⟩ (by decide))
  ·have g2 : ¬ ((k0 : Int) < l.length) := of_decide_eq_false h2
   have hk0 : k0 = l.length := by omega
   refine sem_exit (seqK_e (lupK_e (blkK_t rfl ?_)))
   have e15 : ofSum_L0 c kind l 0 n = o00 := by
    rewrite [← hI0, hk0, List.drop_length]
    rewrite [ofSum_L0]
    try dsimp only
    all_goals rfl
   exact cutW_n o00 e15 (Trans.ren [] (by decide +kernel) (by decide +kernel) rfl trivial ⟨⟨rfl, rfl, rfl⟩, trivial⟩ (by decide))
 ·rintro o0_0 (hJ1 : ofSum_L0 c kind l 0 n = o0_0)
  show AnswersE _ _ _ _ _ _ .normal (⟨[], [(0, .box [I o0_0])], 1, [], 39, 1⟩ : St)
  have e16 : ofSum c l kind n = o0_0 := by
   unfold ofSum
   try dsimp only
   rewrite [hJ1]
   try dsimp only
   all_goals rfl
  rw [e16]
  exact answersGN [] [] rfl trivial rfl (by (repeat' apply And.intro) <;> first | trivial | rfl | exact flat_len (fun _ => rfl) _ | exact encI_len _ | assumption) (rfl) rfl rfl rfl (by decide) rfl rfl ⟨⟨rfl, rfl⟩, trivial⟩

def sum15 (c : GContent) (l : List GActive) (kind : Int) : Int :=
  (ofSum c l kind 0)
theorem sum15_ok (c : GContent) (l : List GActive) (l_f : Bool) (kind : Int) : Ok Try.prog 21 [aGContent c, .pv (.slc l.length l_f (l.flatMap encGActive)), I kind] [] (I (sum15 c l kind)) [] [] := by
 refine Ok.len fun hlen => ?_
 have hl_c_Abilities : c.Abilities.length ≤ maxLen := hlen _ (by simp [lensL, lens, lensP])
 have hl_c_Auras : c.Auras.length ≤ maxLen := hlen _ (by simp [lensL, lens, lensP])
 have hl_c_Foes : c.Foes.length ≤ maxLen := hlen _ (by simp [lensL, lens, lensP])
 have hl_c_Map_Wall : c.Map.Wall.length ≤ maxLen := hlen _ (by simp [lensL, lens, lensP])
 have hl_l : l.length ≤ maxLen := hlen _ (by simp [lensL, lens, lensP])
 unfold maxLen at hl_c_Abilities hl_c_Auras hl_c_Foes hl_c_Map_Wall hl_l
 refine ok_of_sem Try.func21 rfl ?_
 show Walks Try.prog _ _ ⟨[(0, aGContent c), (1, .pv (.slc l.length l_f (l.flatMap encGActive))), (2, I kind)], [], 0, [], 14, 0⟩
 refine sem_seq (sem_region rfl (step_n (o := .box [_, _, _, _, _, _, _, _, _, _]) (nx' := 1) rfl rfl rfl trivial (step_r rfl rfl trivial (step_nil (seqK_n (sem_seq (sem_region rfl (step_n (o := .box [_]) (nx' := 2) rfl rfl rfl trivial ?_))))))))
 refine step_storeB (H' := [(1, .box [_]), (0, _)]) rfl rfl rfl rfl rfl rfl (.inl rfl) rfl ?_
 refine step_nil (seqK_n (sem_seq (sem_region rfl (step_r (v := (.agg [_, _, _, _, _, _, _, _, _, _])) rfl rfl (Nat.le_of_ble_eq_true rfl) (step_r rfl rfl trivial (step_r rfl rfl trivial (step_r rfl rfl trivial ?_)))))))
 refine step_callM (Hin := [.box [.pv _]]) (out' := .tup []) (H' := [(1, .box [_]), (0, .box [_, _, _, _, _, _, _, _, _, _])]) (nx' := 2) [1] rfl rfl rfl rfl (.inl rfl) rfl rfl rfl rfl (ofSum_ok c l l_f kind 0) rfl (by decide) rfl rfl rfl rfl rfl ?_
 refine step_nil (seqK_n (sem_seq (sem_region rfl (step_r rfl rfl trivial (step_r rfl rfl trivial (step_nil (seqK_n (sem_ret ?_))))))))
 have e3 : sum15 c l kind = (ofSum c l kind 0) := by
  unfold sum15
  try dsimp only
  all_goals rfl
 rw [e3]
 exact answersR rfl ⟨trivial, trivial⟩ (rfl) rfl

def tick15_L0 (c : GContent) (now : Int) : Nat → Nat → (List GActive) → (List GActive) → (List GActive) × (List GActive)
  | 0, k0, row0, due0 => (row0, due0)
  | n_ + 1, k0, row0, due0 => if (getU c ((row0.getD k0 default).Aura)).2 = true then (if (((getU c ((row0.getD k0 default).Aura)).1).Every : Int) > 0 then (if ((row0.getD k0 default).Next : Int) ≤ now then tick15_L0 c now n_ (k0 + 1) (row0.set k0 { (row0.getD k0 default) with Next := (addM ((row0.getD k0 default).Next) (((getU c ((row0.getD k0 default).Aura)).1).Every)) }) (due0 ++ [(row0.getD k0 default)]) else tick15_L0 c now n_ (k0 + 1) row0 due0) else tick15_L0 c now n_ (k0 + 1) row0 due0) else tick15_L0 c now n_ (k0 + 1) row0 due0
def tick15 (c : GContent) (l : List GActive) (now : Int) : (List GActive) × (List GActive) :=
  (match tick15_L0 c now (l.length - 0) 0 l ([]) with
    | (row_0, due_0) => (row_0, due_0))
theorem tick15_ok (c : GContent) (l : List GActive) (l_f : Bool) (now : Int) (hl : l.length ≤ 16777215) : Ok Try.prog 15 [aGContent c, .pv (.slc l.length l_f (l.flatMap encGActive)), I now] [] (.tup [.ref 0 6 0 (tick15 c l now).1.length, .ref 1 6 0 (tick15 c l now).2.length]) [.row 61 6 ((tick15 c l now).1.flatMap encGActive), .row 61 6 ((tick15 c l now).2.flatMap encGActive)] [] := by
 refine Ok.len fun hlen => ?_
 have hl_c_Abilities : c.Abilities.length ≤ maxLen := hlen _ (by simp [lensL, lens, lensP])
 have hl_c_Auras : c.Auras.length ≤ maxLen := hlen _ (by simp [lensL, lens, lensP])
 have hl_c_Foes : c.Foes.length ≤ maxLen := hlen _ (by simp [lensL, lens, lensP])
 have hl_c_Map_Wall : c.Map.Wall.length ≤ maxLen := hlen _ (by simp [lensL, lens, lensP])
 have hl_l : l.length ≤ maxLen := hlen _ (by simp [lensL, lens, lensP])
 unfold maxLen at hl_c_Abilities hl_c_Auras hl_c_Foes hl_c_Map_Wall hl_l
 refine ok_of_sem Try.func15 rfl ?_
 show Walks Try.prog _ _ ⟨[(0, aGContent c), (1, .pv (.slc l.length l_f (l.flatMap encGActive))), (2, I now)], [], 0, [], 56, 0⟩
 refine sem_seq (sem_region rfl (step_n (o := .box [_, _, _, _, _, _, _, _, _, _]) (nx' := 1) rfl rfl rfl trivial (step_n (nx' := 2) rfl rfl rfl trivial (step_n (nx' := 3) rfl rfl rfl trivial (step_nil (seqK_n (sem_seq (sem_region rfl (step_r rfl rfl trivial ?_)))))))))
 refine step_callN (out' := .ref 3 _ _ _) (H' := [(3, .row _ _ _), (2, _), (1, _), (0, _)]) (nx' := 4) rfl rfl rfl rfl rfl rfl rfl (by (repeat' apply And.intro) <;> first | trivial | rfl | exact flat_len (fun _ => rfl) _ | exact encI_len _ | exact Nat.le_of_ble_eq_true rfl | assumption) (clone_GActive l false (by first | assumption | omega | (simp; omega) | simp_all)) rfl rfl rfl rfl ?_
 refine step_r rfl rfl trivial (step_nil (seqK_n (sem_seq (sem_seq (sem_region rfl (step_r rfl rfl trivial (step_r rfl rfl trivial (step_r rfl rfl trivial (step_nil (seqK_n ?_))))))))))
 refine sem_cutW (fun w_ : (List GActive) × (List GActive) => match w_ with | (row_0, due_0) => (⟨[(6, .ref 0 6 0 row_0.length), (7, .ref 1 6 0 due_0.length)], [(0, .row 61 6 (row_0.flatMap encGActive)), (1, .row 61 6 (due_0.flatMap encGActive))], 2, [], 56, 0⟩ : St)) (fun w_ => tick15_L0 c now (l.length - 0) 0 l ([]) = w_) ?_ ?_
 ·refine sem_block ?_
  refine sem_loopT (fun w_ : Nat × (List GActive) × (List GActive) => match w_ with | (k0, row0, due0) => (⟨[(2, I now), (3, .ptr 0 0), (6, .ref 1 6 0 row0.length), (7, .ref 2 6 0 due0.length), (14, .ref 1 6 0 row0.length), (15, I l.length), (16, I k0)], [(0, .box [.pv (.slc c.Abilities.length false (c.Abilities.flatMap encGAbility)), .pv (.slc c.Auras.length false (c.Auras.flatMap encGAura)), .pv (.slc c.Foes.length false (c.Foes.flatMap encGFoe)), I c.Map.W, I c.Map.H, .pv (.slc c.Map.Wall.length false (encB c.Map.Wall)), I c.Door.X, I c.Door.Y, I c.Lair.X, I c.Lair.Y]), (1, .row 61 6 (row0.flatMap encGActive)), (2, .row 61 6 (due0.flatMap encGActive))], 3, [], 56, 0⟩ : St)) (fun w_ : Nat × (List GActive) × (List GActive) => match w_ with | (k0, row0, due0) => tick15_L0 c now (l.length - k0) k0 row0 due0 = tick15_L0 c now (l.length - 0) 0 l ([]) ∧ k0 ≤ l.length ∧ row0.length = l.length ∧ due0.length ≤ k0) (fun w_ : Nat × (List GActive) × (List GActive) => match w_ with | (k0, row0, due0) => l.length - k0) (0, l, []) (⟨rfl, (by first | omega | (simp; omega)), by first | omega | simp | (simp; omega)⟩) ?_ (fun w_ hh_ => ?_)
  ·exact (Trans.ren [(1, 3), (3, 1)] (by decide +kernel) (by decide +kernel) rfl ⟨⟨rfl, rfl⟩, ⟨rfl, rfl⟩, ⟨rfl, rfl⟩, ⟨congrArg (fun n => some (AV.ref 2 6 0 n)) (by first | rfl | simp only [List.length_set] | simp | omega | (simp; omega)), rfl⟩, ⟨rfl, rfl⟩, ⟨rfl, rfl⟩, ⟨rfl, rfl⟩, trivial⟩ ⟨⟨rfl, rfl, rfl⟩, ⟨rfl, rfl, rfl⟩, ⟨rfl, rfl, rfl⟩, trivial⟩ (by decide))
  obtain ⟨k0, row0, due0⟩ := w_
  obtain ⟨hI0, hb0, hv0⟩ := hh_
  show Walks Try.prog _ _ (⟨[(2, I now), (3, .ptr 0 0), (6, .ref 1 6 0 row0.length), (7, .ref 2 6 0 due0.length), (14, .ref 1 6 0 row0.length), (15, I l.length), (16, I k0)], [(0, .box [.pv (.slc c.Abilities.length false (c.Abilities.flatMap encGAbility)), .pv (.slc c.Auras.length false (c.Auras.flatMap encGAura)), .pv (.slc c.Foes.length false (c.Foes.flatMap encGFoe)), I c.Map.W, I c.Map.H, .pv (.slc c.Map.Wall.length false (encB c.Map.Wall)), I c.Door.X, I c.Door.Y, I c.Lair.X, I c.Lair.Y]), (1, .row 61 6 (row0.flatMap encGActive)), (2, .row 61 6 (due0.flatMap encGActive))], 3, [], 56, 0⟩ : St)
  refine sem_seq (sem_region rfl (step_bin rfl rfl rfl rfl rfl trivial (step_nil (seqK_n (sem_seq ?_)))))
  refine sem_cond rfl (fun h2 => ?_) (fun h2 => ?_)
  ·have g2 : (k0 : Int) < l.length := of_decide_eq_true h2
   have hm0 : l.length - k0 = (l.length - (k0 + 1)) + 1 := by omega
   refine sem_skip (seqK_n (sem_seq (sem_block (sem_seq (sem_region rfl (step_r rfl rfl trivial ?_))))))
   have jk4 : k0 < row0.length := by first | assumption | omega | (simp only [List.length_set, List.length_append]; omega) | (simp only [IntKind.wrap_i64] at *; omega) | (simp; omega) | simp_all
   refine step_idxR (k := k0) rfl rfl rfl rfl jk4 rfl ?_
   refine step_load_rowR rfl rfl rfl rfl (flat_lt (s := 6) (enc := encGActive) (fun _ => rfl) jk4) (flat_take (s := 6) (enc := encGActive) (fun _ => rfl) (get_getD jk4)) rfl ?_
   refine step_n (o := .box [_, _, _, _, _, _]) (nx' := 4) rfl rfl rfl trivial (step_r rfl rfl trivial ?_)
   refine step_storeB (H' := [(3, .box [_, _, _, _, _, _]), (0, _), (1, _), (2, _)]) rfl rfl rfl rfl rfl rfl (.inl rfl) rfl ?_
   refine step_nil (seqK_n (sem_seq (sem_region rfl (step_r (v := (.agg [_, _, _, _, _, _, _, _, _, _])) rfl rfl (Nat.le_of_ble_eq_true rfl) (step_r rfl rfl (by decide) (step_r rfl rfl trivial (step_call rfl rfl rfl rfl (getU_ok c ((row0.getD k0 default).Aura)) rfl rfl rfl (step_r rfl rfl trivial (step_r rfl rfl trivial (step_r rfl rfl trivial (step_n (o := .box [_, _, _, _, _, _, _]) (nx' := 5) rfl rfl rfl trivial ?_)))))))))))
   refine step_storeB (H' := [(4, .box [_, _, _, _, _, _, _]), (3, _), (0, _), (1, _), (2, _)]) rfl rfl rfl rfl rfl rfl (.inl rfl) rfl ?_
   refine step_r rfl rfl trivial (step_nil (seqK_n (sem_seq (sem_region rfl (step_r rfl rfl trivial (step_r rfl rfl trivial ?_))))))
   refine step_gs rfl (fun h6 => ?_) (fun h6 => ?_)
   ·have g6 : (getU c ((row0.getD k0 default).Aura)).2 = true := h6
    refine step_g1 rfl h6 (step_r rfl rfl (by decide) (step_g1 rfl h6 (step_r rfl rfl trivial (step_g1 rfl h6 (step_bin rfl rfl rfl rfl rfl trivial (step_pickT rfl h6 rfl rfl (step_r rfl rfl trivial ?_)))))))
    refine step_gs rfl (fun h8 => ?_) (fun h8 => ?_)
    ·have g8 : (((getU c ((row0.getD k0 default).Aura)).1).Every : Int) > 0 := of_decide_eq_true h8
     refine step_g1 rfl h8 (step_r rfl rfl (by decide) (step_g1 rfl h8 (step_r rfl rfl trivial (step_g1 rfl h8 (step_r rfl rfl trivial (step_g1 rfl h8 (step_bin rfl rfl rfl rfl rfl trivial (step_pickT rfl h8 rfl rfl (step_nil (seqK_n ?_))))))))))
     refine sem_cond rfl (fun h11 => ?_) (fun h11 => ?_)
     ·have g11 : ((row0.getD k0 default).Next : Int) ≤ now := of_decide_eq_true h11
      refine sem_seq (sem_region rfl (step_r rfl rfl trivial (step_r (v := (.agg [_, _, _, _, _, _])) rfl rfl (Nat.le_of_ble_eq_true rfl) (step_n (o := .row _ _ [_, _, _, _, _, _]) (nx' := 6) rfl rfl rfl (by decide) ?_))))
      refine step_appendC (m := 1) (new := [_, _, _, _, _, _]) (cs' := (due0 ++ [(row0.getD k0 default)]).flatMap encGActive) (n' := (due0 ++ [(row0.getD k0 default)]).length) (H' := [(5, .row _ _ _), (4, .box [_, _, _, _, _, _, _]), (3, .box [_, _, _, _, _, _]), (0, .box [_, _, _, _, _, _, _, _, _, _]), (1, .row _ _ _), (2, .row _ _ _)]) rfl rfl rfl (rfl) rfl rfl rfl rfl rfl rfl (flat_len (s := 6) (enc := encGActive) (fun _ => rfl) due0) (rfl) (by first | decide | (unfold maxGrow; omega) | (unfold maxGrow; simp; omega) | (unfold maxGrow; simp only [List.length_append, List.length_take, List.length_drop, List.length_cons, List.length_nil, IntKind.wrap_i64] at *; omega)) (len_snoc due0 _) (((flat_snoc (enc := encGActive) (l := due0) (row0.getD k0 default))).symm) (.inl rfl) rfl rfl (.keep rfl (.keep rfl (.keep rfl (.keep rfl (.keep rfl (.keep rfl .nil)))))) (.keep rfl (.keep rfl (.lose (v' := .undef) rfl (.keep rfl (.keep rfl (.keep rfl (.keep rfl (.keep rfl (.keep rfl (.keep rfl (.keep rfl (.keep rfl (.keep rfl (.keep rfl (.keep rfl (.keep rfl (.keep rfl (.keep rfl (.keep rfl (.keep rfl (.keep rfl (.keep rfl (.keep rfl (.keep rfl (.keep rfl (.keep rfl (.keep rfl (.keep rfl (.keep rfl (.keep rfl (.keep rfl (.keep rfl (.keep rfl (.lose (v' := .undef) rfl (.keep rfl (.keep rfl (.keep rfl .nil))))))))))))))))))))))))))))))))))))) ?_
      refine step_r rfl rfl trivial (step_nil (seqK_n (sem_region rfl (step_r rfl rfl trivial (step_r rfl rfl trivial (step_r rfl rfl (by decide) (step_r rfl rfl trivial (step_r rfl rfl (by decide) (step_r rfl rfl trivial (step_call rfl rfl rfl rfl (add_ok ((row0.getD k0 default).Next) (((getU c ((row0.getD k0 default).Aura)).1).Every)) rfl rfl rfl (step_idxR (k := k0) rfl rfl rfl rfl jk4 rfl ?_)))))))))))
      refine step_r rfl rfl (by decide) ?_
      refine step_storeR rfl rfl rfl rfl (by first | decide | (have := flat_lt (s := 6) (enc := encGActive) (fun _ => rfl) jk4; show k0 * 6 + 4 < _; omega)) (flat_set (enc := encGActive) (s := 6) (y := { (row0.getD k0 default) with Next := (addM ((row0.getD k0 default).Next) (((getU c ((row0.getD k0 default).Aura)).1).Every)) }) (fun _ => rfl) (get_getD jk4) (by decide) rfl) (.inl rfl) rfl ?_
      refine step_nil (blkK_n (seqK_n (sem_region rfl (step_bin rfl rfl rfl rfl rfl trivial (step_r rfl rfl trivial (step_nil ?_))))))
      have e13 : tick15_L0 c now (l.length - k0) k0 row0 due0 = tick15_L0 c now (l.length - (k0 + 1)) (k0 + 1) (row0.set k0 { (row0.getD k0 default) with Next := (addM ((row0.getD k0 default).Next) (((getU c ((row0.getD k0 default).Aura)).1).Every)) }) (due0 ++ [(row0.getD k0 default)]) := by
       rewrite [hm0]
       rewrite [tick15_L0]
       try dsimp only
       rewrite [if_pos g6, if_pos g8, if_pos g11]
       all_goals rfl
      exact lup_againT (k0 + 1, (row0.set k0 { (row0.getD k0 default) with Next := (addM ((row0.getD k0 default).Next) (((getU c ((row0.getD k0 default).Aura)).1).Every)) }), (due0 ++ [(row0.getD k0 default)])) ⟨e13.symm.trans hI0, (by omega), by first | omega | assumption | (simp only [List.length_append, List.length_cons, List.length_nil, List.length_set]; omega) | (simp; omega) | grind⟩ (by show l.length - (k0 + 1) < l.length - k0; omega) (Trans.ren [] (by decide +kernel) (by decide +kernel) rfl ⟨⟨rfl, rfl⟩, ⟨rfl, rfl⟩, ⟨congrArg (fun n => some (AV.ref 1 6 0 n)) (by first | rfl | simp only [List.length_set] | simp | omega | (simp; omega)), rfl⟩, ⟨rfl, rfl⟩, ⟨congrArg (fun n => some (AV.ref 1 6 0 n)) (by first | rfl | simp only [List.length_set] | simp | omega | (simp; omega)), rfl⟩, ⟨rfl, rfl⟩, ⟨congrArg (fun n => some (I n)) (wrapI (k := k0) (by first | omega | (simp; omega))), rfl⟩, trivial⟩ ⟨⟨rfl, rfl, rfl⟩, ⟨rfl, rfl, rfl⟩, ⟨rfl, rfl, rfl⟩, trivial⟩ (by decide))
     ·have g11 : ¬ (((row0.getD k0 default).Next : Int) ≤ now) := of_decide_eq_false h11
      refine sem_skip (blkK_n (seqK_n (sem_region rfl (step_bin rfl rfl rfl rfl rfl trivial (step_r rfl rfl trivial (step_nil ?_))))))
      have e15 : tick15_L0 c now (l.length - k0) k0 row0 due0 = tick15_L0 c now (l.length - (k0 + 1)) (k0 + 1) row0 due0 := by
       rewrite [hm0]
       rewrite [tick15_L0]
       try dsimp only
       rewrite [if_pos g6, if_pos g8, if_neg g11]
       all_goals rfl
      exact lup_againT (k0 + 1, row0, due0) ⟨e15.symm.trans hI0, (by omega), by first | omega | assumption | (simp only [List.length_append, List.length_cons, List.length_nil, List.length_set]; omega) | (simp; omega) | grind⟩ (by show l.length - (k0 + 1) < l.length - k0; omega) (Trans.ren [] (by decide +kernel) (by decide +kernel) rfl ⟨⟨rfl, rfl⟩, ⟨rfl, rfl⟩, ⟨rfl, rfl⟩, ⟨rfl, rfl⟩, ⟨rfl, rfl⟩, ⟨rfl, rfl⟩, ⟨congrArg (fun n => some (I n)) (wrapI (k := k0) (by first | omega | (simp; omega))), rfl⟩, trivial⟩ ⟨⟨rfl, rfl, rfl⟩, ⟨rfl, rfl, rfl⟩, ⟨rfl, rfl, rfl⟩, trivial⟩ (by decide))
    ·have g8 : ¬ ((((getU c ((row0.getD k0 default).Aura)).1).Every : Int) > 0) := of_decide_eq_false h8
     refine step_g0 rfl h8 rfl (step_g0 rfl h8 rfl (step_g0 rfl h8 rfl (step_g0 rfl h8 rfl (step_pickF rfl h8 rfl rfl (step_nil (seqK_n (sem_condF rfl (sem_skip (blkK_n (seqK_n (sem_region rfl ?_)))))))))))
     refine step_bin rfl rfl rfl rfl rfl trivial (step_r rfl rfl trivial (step_nil ?_))
     have e17 : tick15_L0 c now (l.length - k0) k0 row0 due0 = tick15_L0 c now (l.length - (k0 + 1)) (k0 + 1) row0 due0 := by
      rewrite [hm0]
      rewrite [tick15_L0]
      try dsimp only
      rewrite [if_pos g6, if_neg g8]
      all_goals rfl
     exact lup_againT (k0 + 1, row0, due0) ⟨e17.symm.trans hI0, (by omega), by first | omega | assumption | (simp only [List.length_append, List.length_cons, List.length_nil, List.length_set]; omega) | (simp; omega) | grind⟩ (by show l.length - (k0 + 1) < l.length - k0; omega) (Trans.ren [] (by decide +kernel) (by decide +kernel) rfl ⟨⟨rfl, rfl⟩, ⟨rfl, rfl⟩, ⟨rfl, rfl⟩, ⟨rfl, rfl⟩, ⟨rfl, rfl⟩, ⟨rfl, rfl⟩, ⟨congrArg (fun n => some (I n)) (wrapI (k := k0) (by first | omega | (simp; omega))), rfl⟩, trivial⟩ ⟨⟨rfl, rfl, rfl⟩, ⟨rfl, rfl, rfl⟩, ⟨rfl, rfl, rfl⟩, trivial⟩ (by decide))
   ·have g6 : ¬ ((getU c ((row0.getD k0 default).Aura)).2 = true) := boo_f h6
    refine step_g0 rfl h6 rfl (step_g0 rfl h6 rfl (step_g0 rfl h6 rfl (step_pickF rfl h6 rfl rfl (step_r rfl rfl trivial (step_gf rfl rfl (step_gf rfl rfl (step_gf rfl rfl (step_gf rfl rfl (step_r rfl rfl trivial (step_nil (seqK_n ?_)))))))))))
    refine sem_condF rfl (sem_skip (blkK_n (seqK_n (sem_region rfl (step_bin rfl rfl rfl rfl rfl trivial (step_r rfl rfl trivial (step_nil ?_)))))))
    have e19 : tick15_L0 c now (l.length - k0) k0 row0 due0 = tick15_L0 c now (l.length - (k0 + 1)) (k0 + 1) row0 due0 := by
     rewrite [hm0]
     rewrite [tick15_L0]
     try dsimp only
     rewrite [if_neg g6]
     all_goals rfl
    exact lup_againT (k0 + 1, row0, due0) ⟨e19.symm.trans hI0, (by omega), by first | omega | assumption | (simp only [List.length_append, List.length_cons, List.length_nil, List.length_set]; omega) | (simp; omega) | grind⟩ (by show l.length - (k0 + 1) < l.length - k0; omega) (Trans.ren [] (by decide +kernel) (by decide +kernel) rfl ⟨⟨rfl, rfl⟩, ⟨rfl, rfl⟩, ⟨rfl, rfl⟩, ⟨rfl, rfl⟩, ⟨rfl, rfl⟩, ⟨rfl, rfl⟩, ⟨congrArg (fun n => some (I n)) (wrapI (k := k0) (by first | omega | (simp; omega))), rfl⟩, trivial⟩ ⟨⟨rfl, rfl, rfl⟩, ⟨rfl, rfl, rfl⟩, ⟨rfl, rfl, rfl⟩, trivial⟩ (by decide))
  ·have g2 : ¬ ((k0 : Int) < l.length) := of_decide_eq_false h2
   have hm0 : l.length - k0 = 0 := by omega
   refine sem_exit (seqK_e (lupK_e (blkK_t rfl ?_)))
   have e20 : tick15_L0 c now (l.length - 0) 0 l ([]) = (row0, due0) := by
    rewrite [← hI0, hm0]
    rewrite [tick15_L0]
    try dsimp only
    all_goals rfl
   exact cutW_n (row0, due0) e20 (Trans.ren [(0, 1), (1, 2), (2, 0)] (by decide +kernel) (by decide +kernel) rfl ⟨⟨rfl, rfl⟩, ⟨rfl, rfl⟩, trivial⟩ ⟨⟨rfl, rfl, rfl⟩, ⟨rfl, rfl, rfl⟩, trivial⟩ (by decide))
 ·rintro ⟨row_0, due_0⟩ (hJ1 : tick15_L0 c now (l.length - 0) 0 l ([]) = (row_0, due_0))
  show seqK _ _ _ .normal (⟨[(6, .ref 0 6 0 row_0.length), (7, .ref 1 6 0 due_0.length)], [(0, .row 61 6 (row_0.flatMap encGActive)), (1, .row 61 6 (due_0.flatMap encGActive))], 2, [], 56, 0⟩ : St)
  refine seqK_n (sem_seq (sem_region rfl (step_r rfl rfl trivial (step_r rfl rfl trivial (step_r rfl rfl trivial (step_r rfl rfl trivial (step_nil (seqK_n (sem_ret ?_)))))))))
  have e21 : tick15 c l now = (row_0, due_0) := by
   unfold tick15
   try dsimp only
   rewrite [hJ1]
   try dsimp only
   all_goals rfl
  rw [e21]
  exact answersGR [] [0, 1] rfl ⟨trivial, trivial, trivial⟩ rfl (by (repeat' apply And.intro) <;> first | trivial | rfl | exact flat_len (fun _ => rfl) _ | exact encI_len _ | assumption) (rfl) rfl rfl rfl (by decide) rfl rfl ⟨⟨rfl, rfl⟩, ⟨rfl, rfl⟩, trivial⟩

def dispelF (x_ : GActive) (c1 : GContent) (c2 : Int) : Bool × GContent × Int :=
  if (getU c1 x_.Aura).2 = true then (if ((getU c1 x_.Aura).1).Harm = true then (if (c2 : Int) < 1 then (true, c1, c2) else (false, c1, (IntKind.i64.wrap (c2 - 1)))) else (true, c1, c2)) else (true, c1, c2)
theorem dispelF_ok (x_ : GActive) (c1 : GContent) (c2 : Int) : Ok Try.prog 70 [aGActive x_, .ptr 0 0, .ptr 1 0] [.box [.pv (.slc c1.Abilities.length false (c1.Abilities.flatMap encGAbility)), .pv (.slc c1.Auras.length false (c1.Auras.flatMap encGAura)), .pv (.slc c1.Foes.length false (c1.Foes.flatMap encGFoe)), I c1.Map.W, I c1.Map.H, .pv (.slc c1.Map.Wall.length false (encB c1.Map.Wall)), I c1.Door.X, I c1.Door.Y, I c1.Lair.X, I c1.Lair.Y], .box [I c2]] (B (dispelF x_ c1 c2).1) [.box [.pv (.slc (dispelF x_ c1 c2).2.1.Abilities.length false ((dispelF x_ c1 c2).2.1.Abilities.flatMap encGAbility)), .pv (.slc (dispelF x_ c1 c2).2.1.Auras.length false ((dispelF x_ c1 c2).2.1.Auras.flatMap encGAura)), .pv (.slc (dispelF x_ c1 c2).2.1.Foes.length false ((dispelF x_ c1 c2).2.1.Foes.flatMap encGFoe)), I (dispelF x_ c1 c2).2.1.Map.W, I (dispelF x_ c1 c2).2.1.Map.H, .pv (.slc (dispelF x_ c1 c2).2.1.Map.Wall.length false (encB (dispelF x_ c1 c2).2.1.Map.Wall)), I (dispelF x_ c1 c2).2.1.Door.X, I (dispelF x_ c1 c2).2.1.Door.Y, I (dispelF x_ c1 c2).2.1.Lair.X, I (dispelF x_ c1 c2).2.1.Lair.Y], .box [I (dispelF x_ c1 c2).2.2]] [] := by
 refine ok_of_sem Try.func70 rfl ?_
 show Walks Try.prog _ _ ⟨[(0, aGActive x_), (1, .ptr 0 0), (2, .ptr 1 0)], [(0, .box [.pv (.slc c1.Abilities.length false (c1.Abilities.flatMap encGAbility)), .pv (.slc c1.Auras.length false (c1.Auras.flatMap encGAura)), .pv (.slc c1.Foes.length false (c1.Foes.flatMap encGFoe)), I c1.Map.W, I c1.Map.H, .pv (.slc c1.Map.Wall.length false (encB c1.Map.Wall)), I c1.Door.X, I c1.Door.Y, I c1.Lair.X, I c1.Lair.Y]), (1, .box [I c2])], 2, [], 27, 2⟩
 refine sem_seq (sem_region rfl (step_n (o := .box [_, _, _, _, _, _]) (nx' := 3) rfl rfl rfl trivial (step_r rfl rfl trivial (step_nil (seqK_n (sem_seq (sem_region rfl (step_r (v := (.agg [_, _, _, _, _, _, _, _, _, _])) rfl rfl (Nat.le_of_ble_eq_true rfl) (step_r rfl rfl (by decide) (step_r rfl rfl trivial (step_call rfl rfl rfl rfl (getU_ok c1 x_.Aura) rfl rfl rfl ?_)))))))))))
 refine step_r rfl rfl trivial (step_r rfl rfl trivial (step_r rfl rfl trivial (step_n (o := .box [_, _, _, _, _, _, _]) (nx' := 4) rfl rfl rfl trivial ?_)))
 refine step_storeB (H' := [(3, .box [_, _, _, _, _, _, _]), (2, _), (0, _), (1, _)]) rfl rfl rfl rfl rfl rfl (.inl rfl) rfl ?_
 refine step_r rfl rfl trivial (step_nil (seqK_n (sem_seq (sem_seq (sem_region rfl (step_r rfl rfl trivial (step_r rfl rfl trivial (step_r rfl rfl trivial ?_))))))))
 refine step_gs rfl (fun h3 => ?_) (fun h3 => ?_)
 ·have g3 : ¬ ((getU c1 x_.Aura).2 = true) := boo_f (not_t h3)
  refine step_g0 rfl h3 rfl (step_g0 rfl h3 rfl (step_g0 rfl h3 rfl (step_pickT rfl h3 rfl rfl (step_r rfl rfl trivial (step_gf rfl rfl (step_gf rfl rfl (step_r rfl rfl trivial (step_nil (seqK_n (sem_condT rfl (sem_seq ?_)))))))))))
  refine sem_region rfl (step_r rfl rfl trivial (step_nil (seqK_n (sem_ret (seqK_r ?_)))))
  have e4 : dispelF x_ c1 c2 = (true, c1, c2) := by
   unfold dispelF
   try dsimp only
   rewrite [if_neg g3]
   all_goals rfl
  rw [e4]
  exact answersGR [] [] rfl ⟨trivial, trivial⟩ rfl (by (repeat' apply And.intro) <;> first | trivial | rfl | exact flat_len (fun _ => rfl) _ | exact encI_len _ | assumption) (rfl) rfl rfl rfl (by decide) rfl rfl ⟨⟨rfl, rfl⟩, ⟨rfl, rfl⟩, trivial⟩
 ·have g3 : (getU c1 x_.Aura).2 = true := (not_f h3)
  refine step_g1 rfl h3 (step_r rfl rfl (by decide) (step_g1 rfl h3 (step_r rfl rfl trivial (step_g1 rfl h3 (step_r rfl rfl trivial (step_pickF rfl h3 rfl rfl (step_r rfl rfl trivial ?_)))))))
  refine step_gs rfl (fun h6 => ?_) (fun h6 => ?_)
  ·have g6 : ¬ (((getU c1 x_.Aura).1).Harm = true) := boo_f (not_t h6)
   refine step_g0 rfl h6 rfl (step_g0 rfl h6 rfl (step_pickT rfl h6 rfl rfl (step_nil (seqK_n (sem_condT rfl (sem_seq (sem_region rfl (step_r rfl rfl trivial (step_nil (seqK_n (sem_ret ?_)))))))))))
   refine seqK_r ?_
   have e7 : dispelF x_ c1 c2 = (true, c1, c2) := by
    unfold dispelF
    try dsimp only
    rewrite [if_pos g3, if_neg g6]
    all_goals rfl
   rw [e7]
   exact answersGR [] [] rfl ⟨trivial, trivial⟩ rfl (by (repeat' apply And.intro) <;> first | trivial | rfl | exact flat_len (fun _ => rfl) _ | exact encI_len _ | assumption) (rfl) rfl rfl rfl (by decide) rfl rfl ⟨⟨rfl, rfl⟩, ⟨rfl, rfl⟩, trivial⟩
  ·have g6 : ((getU c1 x_.Aura).1).Harm = true := (not_f h6)
   refine step_g1 rfl h6 (step_r rfl rfl trivial (step_g1 rfl h6 (step_bin rfl rfl rfl rfl rfl trivial (step_pickF rfl h6 rfl rfl (step_nil (seqK_n ?_))))))
   refine sem_cond rfl (fun h9 => ?_) (fun h9 => ?_)
   ·have g9 : (c2 : Int) < 1 := of_decide_eq_true h9
    refine sem_seq (sem_region rfl (step_r rfl rfl trivial (step_nil (seqK_n (sem_ret (seqK_r ?_))))))
    have e10 : dispelF x_ c1 c2 = (true, c1, c2) := by
     unfold dispelF
     try dsimp only
     rewrite [if_pos g3, if_pos g6, if_pos g9]
     all_goals rfl
    rw [e10]
    exact answersGR [] [] rfl ⟨trivial, trivial⟩ rfl (by (repeat' apply And.intro) <;> first | trivial | rfl | exact flat_len (fun _ => rfl) _ | exact encI_len _ | assumption) (rfl) rfl rfl rfl (by decide) rfl rfl ⟨⟨rfl, rfl⟩, ⟨rfl, rfl⟩, trivial⟩
   ·have g9 : ¬ ((c2 : Int) < 1) := of_decide_eq_false h9
    refine sem_skip (seqK_n (sem_seq (sem_region rfl (step_r rfl rfl trivial (step_bin rfl rfl rfl rfl rfl trivial ?_)))))
    refine step_storeB (H' := [(3, _), (2, _), (0, _), (1, .box [_])]) rfl rfl rfl rfl rfl rfl (.inl rfl) rfl ?_
    refine step_nil (seqK_n (sem_seq (sem_region rfl (step_r rfl rfl trivial (step_nil (seqK_n (sem_ret ?_)))))))
    have e11 : dispelF x_ c1 c2 = (false, c1, (IntKind.i64.wrap (c2 - 1))) := by
     unfold dispelF
     try dsimp only
     rewrite [if_pos g3, if_pos g6, if_neg g9]
     all_goals rfl
    rw [e11]
    exact answersGR [] [] rfl ⟨trivial, trivial⟩ rfl (by (repeat' apply And.intro) <;> first | trivial | rfl | exact flat_len (fun _ => rfl) _ | exact encI_len _ | assumption) (rfl) rfl rfl rfl (by decide) rfl rfl ⟨⟨rfl, rfl⟩, ⟨rfl, rfl⟩, trivial⟩

def partD_L0 : List GActive → Nat → (List GActive) → (List GActive) → GContent → Int → (List GActive) × (List GActive) × GContent × Int
  | [], k0, yes0, no0, o00, o10 => (yes0, no0, o00, o10)
  | x0 :: l_, k0, yes0, no0, o00, o10 => if (dispelF x0 o00 o10).1 = true then partD_L0 l_ (k0 + 1) (yes0 ++ [x0]) no0 ((dispelF x0 o00 o10).2.1) ((dispelF x0 o00 o10).2.2) else partD_L0 l_ (k0 + 1) yes0 (no0 ++ [x0]) ((dispelF x0 o00 o10).2.1) ((dispelF x0 o00 o10).2.2)
def partD (l : List GActive) (c : GContent) (n : Int) : (List GActive) × (List GActive) × GContent × Int :=
  (match partD_L0 l 0 ([]) ([]) c n with
    | (yes_0, no_0, o0_0, o1_0) => (yes_0, no_0, o0_0, o1_0))
theorem partD_ok (l : List GActive) (l_f : Bool) (c : GContent) (n : Int) (hl : l.length ≤ 16777215) : Ok Try.prog 42 [.pv (.slc l.length l_f (l.flatMap encGActive)), .fnc 70 [.ptr 0 0, .ptr 1 0]] [.box [.pv (.slc c.Abilities.length false (c.Abilities.flatMap encGAbility)), .pv (.slc c.Auras.length false (c.Auras.flatMap encGAura)), .pv (.slc c.Foes.length false (c.Foes.flatMap encGFoe)), I c.Map.W, I c.Map.H, .pv (.slc c.Map.Wall.length false (encB c.Map.Wall)), I c.Door.X, I c.Door.Y, I c.Lair.X, I c.Lair.Y], .box [I n]] (.tup [.ref 2 6 0 (partD l c n).1.length, .ref 3 6 0 (partD l c n).2.1.length]) [.box [.pv (.slc (partD l c n).2.2.1.Abilities.length false ((partD l c n).2.2.1.Abilities.flatMap encGAbility)), .pv (.slc (partD l c n).2.2.1.Auras.length false ((partD l c n).2.2.1.Auras.flatMap encGAura)), .pv (.slc (partD l c n).2.2.1.Foes.length false ((partD l c n).2.2.1.Foes.flatMap encGFoe)), I (partD l c n).2.2.1.Map.W, I (partD l c n).2.2.1.Map.H, .pv (.slc (partD l c n).2.2.1.Map.Wall.length false (encB (partD l c n).2.2.1.Map.Wall)), I (partD l c n).2.2.1.Door.X, I (partD l c n).2.2.1.Door.Y, I (partD l c n).2.2.1.Lair.X, I (partD l c n).2.2.1.Lair.Y], .box [I (partD l c n).2.2.2], .row 61 6 ((partD l c n).1.flatMap encGActive), .row 61 6 ((partD l c n).2.1.flatMap encGActive)] [] := by
 refine Ok.len fun hlen => ?_
 have hl_l : l.length ≤ maxLen := hlen _ (by simp [lensL, lens, lensP])
 unfold maxLen at hl_l
 refine ok_of_sem Try.func42 rfl ?_
 show Walks Try.prog _ _ ⟨[(0, .pv (.slc l.length l_f (l.flatMap encGActive))), (1, .fnc 70 [.ptr 0 0, .ptr 1 0])], [(0, .box [.pv (.slc c.Abilities.length false (c.Abilities.flatMap encGAbility)), .pv (.slc c.Auras.length false (c.Auras.flatMap encGAura)), .pv (.slc c.Foes.length false (c.Foes.flatMap encGFoe)), I c.Map.W, I c.Map.H, .pv (.slc c.Map.Wall.length false (encB c.Map.Wall)), I c.Door.X, I c.Door.Y, I c.Lair.X, I c.Lair.Y]), (1, .box [I n])], 2, [], 28, 2⟩
 refine sem_seq (sem_region rfl (step_n (nx' := 3) rfl rfl rfl trivial (step_n (nx' := 4) rfl rfl rfl trivial (step_nil (seqK_n (sem_seq (sem_seq (sem_region rfl (step_r rfl rfl trivial (step_r rfl rfl trivial (step_r rfl rfl trivial ?_)))))))))))
 refine step_nil (seqK_n ?_)
 refine sem_cutW (fun w_ : (List GActive) × (List GActive) × GContent × Int => match w_ with | (yes_0, no_0, o0_0, o1_0) => (⟨[(4, .ref 2 6 0 yes_0.length), (5, .ref 3 6 0 no_0.length)], [(0, .box [.pv (.slc o0_0.Abilities.length false (o0_0.Abilities.flatMap encGAbility)), .pv (.slc o0_0.Auras.length false (o0_0.Auras.flatMap encGAura)), .pv (.slc o0_0.Foes.length false (o0_0.Foes.flatMap encGFoe)), I o0_0.Map.W, I o0_0.Map.H, .pv (.slc o0_0.Map.Wall.length false (encB o0_0.Map.Wall)), I o0_0.Door.X, I o0_0.Door.Y, I o0_0.Lair.X, I o0_0.Lair.Y]), (1, .box [I o1_0]), (2, .row 61 6 (yes_0.flatMap encGActive)), (3, .row 61 6 (no_0.flatMap encGActive))], 4, [], 28, 2⟩ : St)) (fun w_ => partD_L0 l 0 ([]) ([]) c n = w_) ?_ ?_
 ·refine sem_block ?_
  refine sem_loopT (fun w_ : Nat × (List GActive) × (List GActive) × GContent × Int => match w_ with | (k0, yes0, no0, o00, o10) => (⟨[(1, .fnc 70 [.ptr 0 0, .ptr 1 0]), (4, .ref 2 6 0 yes0.length), (5, .ref 3 6 0 no0.length), (8, .pv (.slc l.length l_f (l.flatMap encGActive))), (9, I l.length), (10, I k0)], [(0, .box [.pv (.slc o00.Abilities.length false (o00.Abilities.flatMap encGAbility)), .pv (.slc o00.Auras.length false (o00.Auras.flatMap encGAura)), .pv (.slc o00.Foes.length false (o00.Foes.flatMap encGFoe)), I o00.Map.W, I o00.Map.H, .pv (.slc o00.Map.Wall.length false (encB o00.Map.Wall)), I o00.Door.X, I o00.Door.Y, I o00.Lair.X, I o00.Lair.Y]), (1, .box [I o10]), (2, .row 61 6 (yes0.flatMap encGActive)), (3, .row 61 6 (no0.flatMap encGActive))], 4, [], 28, 2⟩ : St)) (fun w_ : Nat × (List GActive) × (List GActive) × GContent × Int => match w_ with | (k0, yes0, no0, o00, o10) => partD_L0 (l.drop k0) k0 yes0 no0 o00 o10 = partD_L0 l 0 ([]) ([]) c n ∧ k0 ≤ l.length ∧ yes0.length ≤ k0 ∧ no0.length ≤ k0) (fun w_ : Nat × (List GActive) × (List GActive) × GContent × Int => match w_ with | (k0, yes0, no0, o00, o10) => l.length - k0) (0, [], [], c, n) (⟨rfl, Nat.zero_le _, by first | omega | simp | (simp; omega)⟩) ?_ (fun w_ hh_ => ?_)
  ·exact (Trans.ren [] (by decide +kernel) (by decide +kernel) rfl ⟨⟨rfl, rfl⟩, ⟨congrArg (fun n => some (AV.ref 2 6 0 n)) (by first | rfl | simp only [List.length_set] | simp | omega | (simp; omega)), rfl⟩, ⟨congrArg (fun n => some (AV.ref 3 6 0 n)) (by first | rfl | simp only [List.length_set] | simp | omega | (simp; omega)), rfl⟩, ⟨rfl, rfl⟩, ⟨rfl, rfl⟩, ⟨rfl, rfl⟩, trivial⟩ ⟨⟨rfl, rfl, rfl⟩, ⟨rfl, rfl, rfl⟩, ⟨rfl, rfl, rfl⟩, ⟨rfl, rfl, rfl⟩, trivial⟩ (by decide))
  obtain ⟨k0, yes0, no0, o00, o10⟩ := w_
  obtain ⟨hI0, hb0, hv0⟩ := hh_
  show Walks Try.prog _ _ (⟨[(1, .fnc 70 [.ptr 0 0, .ptr 1 0]), (4, .ref 2 6 0 yes0.length), (5, .ref 3 6 0 no0.length), (8, .pv (.slc l.length l_f (l.flatMap encGActive))), (9, I l.length), (10, I k0)], [(0, .box [.pv (.slc o00.Abilities.length false (o00.Abilities.flatMap encGAbility)), .pv (.slc o00.Auras.length false (o00.Auras.flatMap encGAura)), .pv (.slc o00.Foes.length false (o00.Foes.flatMap encGFoe)), I o00.Map.W, I o00.Map.H, .pv (.slc o00.Map.Wall.length false (encB o00.Map.Wall)), I o00.Door.X, I o00.Door.Y, I o00.Lair.X, I o00.Lair.Y]), (1, .box [I o10]), (2, .row 61 6 (yes0.flatMap encGActive)), (3, .row 61 6 (no0.flatMap encGActive))], 4, [], 28, 2⟩ : St)
  refine sem_seq (sem_region rfl (step_bin rfl rfl rfl rfl rfl trivial (step_nil (seqK_n (sem_seq ?_)))))
  refine sem_cond rfl (fun h2 => ?_) (fun h2 => ?_)
  ·have g2 : (k0 : Int) < l.length := of_decide_eq_true h2
   have hk0 : k0 < l.length := by omega
   obtain ⟨x0, hx0⟩ : ∃ z_, l[k0]? = some z_ := ⟨_, List.getElem?_eq_getElem hk0⟩
   refine sem_skip (seqK_n (sem_seq (sem_block (sem_seq (sem_region rfl (step_idxS (k := k0) rfl rfl rfl rfl hk0 (flat_ne (s := 6) (enc := encGActive) (fun _ => rfl) (by decide) hk0) rfl (step_load_row rfl rfl rfl (flat_lt (s := 6) (enc := encGActive) (fun _ => rfl) hk0) (flat_take (s := 6) (enc := encGActive) (fun _ => rfl) hx0) rfl (step_n (o := .box [_, _, _, _, _, _]) (nx' := 5) rfl rfl rfl trivial ?_))))))))
   refine step_storeB (H' := [(4, .box [_, _, _, _, _, _]), (0, _), (1, _), (2, _), (3, _)]) rfl rfl rfl rfl rfl rfl (.inl rfl) rfl ?_
   refine step_nil (seqK_n (sem_seq (sem_region rfl (step_r rfl rfl trivial (step_r (v := (.agg [_, _, _, _, _, _])) rfl rfl (Nat.le_of_ble_eq_true rfl) ?_)))))
   refine step_callM (Hin := [.box [.pv _, .pv _, .pv _, .pv _, .pv _, .pv _, .pv _, .pv _, .pv _, .pv _], .box [.pv _]]) (H' := [(4, .box [_, _, _, _, _, _]), (0, .box [_, _, _, _, _, _, _, _, _, _]), (1, .box [_]), (2, .row _ _ _), (3, .row _ _ _)]) (nx' := 5) [0, 1] rfl rfl rfl rfl (.inl rfl) rfl rfl rfl rfl (dispelF_ok x0 o00 o10) rfl (by decide) rfl rfl rfl rfl rfl ?_
   refine step_nil (seqK_n ?_)
   refine sem_cond rfl (fun h3 => ?_) (fun h3 => ?_)
   ·have g3 : (dispelF x0 o00 o10).1 = true := h3
    refine sem_region rfl (step_r rfl rfl trivial (step_r (v := (.agg [_, _, _, _, _, _])) rfl rfl (Nat.le_of_ble_eq_true rfl) (step_n (o := .row _ _ [_, _, _, _, _, _]) (nx' := 6) rfl rfl rfl (by decide) ?_)))
    refine step_appendC (m := 1) (new := [_, _, _, _, _, _]) (cs' := (yes0 ++ [x0]).flatMap encGActive) (n' := (yes0 ++ [x0]).length) (H' := [(5, .row _ _ _), (4, .box [_, _, _, _, _, _]), (0, .box [_, _, _, _, _, _, _, _, _, _]), (1, .box [_]), (2, .row _ _ _), (3, .row _ _ _)]) rfl rfl rfl (rfl) rfl rfl rfl rfl rfl rfl (flat_len (s := 6) (enc := encGActive) (fun _ => rfl) yes0) (rfl) (by first | decide | (unfold maxGrow; omega) | (unfold maxGrow; simp; omega) | (unfold maxGrow; simp only [List.length_append, List.length_take, List.length_drop, List.length_cons, List.length_nil, IntKind.wrap_i64] at *; omega)) (len_snoc yes0 _) (((flat_snoc (enc := encGActive) (l := yes0) x0)).symm) (.inl rfl) rfl rfl (.keep rfl (.keep rfl (.keep rfl (.keep rfl (.keep rfl (.keep rfl .nil)))))) (.keep rfl (.keep rfl (.lose (v' := .undef) rfl (.keep rfl (.keep rfl (.keep rfl (.keep rfl (.keep rfl (.keep rfl (.keep rfl (.keep rfl (.lose (v' := .undef) rfl (.keep rfl (.keep rfl (.keep rfl (.keep rfl .nil)))))))))))))))) ?_
    refine step_r rfl rfl trivial (step_nil (blkK_n (seqK_n (sem_region rfl (step_bin rfl rfl rfl rfl rfl trivial (step_r rfl rfl trivial (step_nil ?_)))))))
    have e5 : partD_L0 (l.drop k0) k0 yes0 no0 o00 o10 = partD_L0 (l.drop (k0 + 1)) (k0 + 1) (yes0 ++ [x0]) no0 ((dispelF x0 o00 o10).2.1) ((dispelF x0 o00 o10).2.2) := by
     rewrite [drop_cons hx0]
     rewrite [partD_L0]
     try dsimp only
     rewrite [if_pos g3]
     all_goals rfl
    exact lup_againT (k0 + 1, (yes0 ++ [x0]), no0, (dispelF x0 o00 o10).2.1, (dispelF x0 o00 o10).2.2) ⟨e5.symm.trans hI0, hk0, by first | omega | assumption | (simp only [List.length_append, List.length_cons, List.length_nil, List.length_set]; omega) | (simp; omega) | grind⟩ (by show l.length - (k0 + 1) < l.length - k0; omega) (Trans.ren [] (by decide +kernel) (by decide +kernel) rfl ⟨⟨rfl, rfl⟩, ⟨rfl, rfl⟩, ⟨rfl, rfl⟩, ⟨rfl, rfl⟩, ⟨rfl, rfl⟩, ⟨congrArg (fun n => some (I n)) (wrapI (k := k0) (by first | omega | (simp; omega))), rfl⟩, trivial⟩ ⟨⟨rfl, rfl, rfl⟩, ⟨rfl, rfl, rfl⟩, ⟨rfl, rfl, rfl⟩, ⟨rfl, rfl, rfl⟩, trivial⟩ (by decide))
   ·have g3 : ¬ ((dispelF x0 o00 o10).1 = true) := boo_f h3
    refine sem_region rfl (step_r rfl rfl trivial (step_r (v := (.agg [_, _, _, _, _, _])) rfl rfl (Nat.le_of_ble_eq_true rfl) (step_n (o := .row _ _ [_, _, _, _, _, _]) (nx' := 6) rfl rfl rfl (by decide) ?_)))
    refine step_appendC (m := 1) (new := [_, _, _, _, _, _]) (cs' := (no0 ++ [x0]).flatMap encGActive) (n' := (no0 ++ [x0]).length) (H' := [(5, .row _ _ _), (4, .box [_, _, _, _, _, _]), (0, .box [_, _, _, _, _, _, _, _, _, _]), (1, .box [_]), (2, .row _ _ _), (3, .row _ _ _)]) rfl rfl rfl (rfl) rfl rfl rfl rfl rfl rfl (flat_len (s := 6) (enc := encGActive) (fun _ => rfl) no0) (rfl) (by first | decide | (unfold maxGrow; omega) | (unfold maxGrow; simp; omega) | (unfold maxGrow; simp only [List.length_append, List.length_take, List.length_drop, List.length_cons, List.length_nil, IntKind.wrap_i64] at *; omega)) (len_snoc no0 _) (((flat_snoc (enc := encGActive) (l := no0) x0)).symm) (.inl rfl) rfl rfl (.keep rfl (.keep rfl (.keep rfl (.keep rfl (.keep rfl (.keep rfl .nil)))))) (.keep rfl (.keep rfl (.lose (v' := .undef) rfl (.keep rfl (.keep rfl (.keep rfl (.keep rfl (.keep rfl (.keep rfl (.keep rfl (.keep rfl (.keep rfl (.lose (v' := .undef) rfl (.keep rfl (.keep rfl (.keep rfl .nil)))))))))))))))) ?_
    refine step_r rfl rfl trivial (step_nil (blkK_n (seqK_n (sem_region rfl (step_bin rfl rfl rfl rfl rfl trivial (step_r rfl rfl trivial (step_nil ?_)))))))
    have e7 : partD_L0 (l.drop k0) k0 yes0 no0 o00 o10 = partD_L0 (l.drop (k0 + 1)) (k0 + 1) yes0 (no0 ++ [x0]) ((dispelF x0 o00 o10).2.1) ((dispelF x0 o00 o10).2.2) := by
     rewrite [drop_cons hx0]
     rewrite [partD_L0]
     try dsimp only
     rewrite [if_neg g3]
     all_goals rfl
    exact lup_againT (k0 + 1, yes0, (no0 ++ [x0]), (dispelF x0 o00 o10).2.1, (dispelF x0 o00 o10).2.2) ⟨e7.symm.trans hI0, hk0, by first | omega | assumption | (simp only [List.length_append, List.length_cons, List.length_nil, List.length_set]; omega) | (simp; omega) | grind⟩ (by show l.length - (k0 + 1) < l.length - k0; omega) (Trans.ren [] (by decide +kernel) (by decide +kernel) rfl ⟨⟨rfl, rfl⟩, ⟨rfl, rfl⟩, ⟨rfl, rfl⟩, ⟨rfl, rfl⟩, ⟨rfl, rfl⟩, ⟨congrArg (fun n => some (I n)) (wrapI (k := k0) (by first | omega | (simp; omega))), rfl⟩, trivial⟩ ⟨⟨rfl, rfl, rfl⟩, ⟨rfl, rfl, rfl⟩, ⟨rfl, rfl, rfl⟩, ⟨rfl, rfl, rfl⟩, trivial⟩ (by decide))
  ·have g2 : ¬ ((k0 : Int) < l.length) := of_decide_eq_false h2
   have hk0 : k0 = l.length := by omega
   refine sem_exit (seqK_e (lupK_e (blkK_t rfl ?_)))
   have e8 : partD_L0 l 0 ([]) ([]) c n = (yes0, no0, o00, o10) := by
    rewrite [← hI0, hk0, List.drop_length]
    rewrite [partD_L0]
    try dsimp only
    all_goals rfl
   exact cutW_n (yes0, no0, o00, o10) e8 (Trans.ren [] (by decide +kernel) (by decide +kernel) rfl ⟨⟨rfl, rfl⟩, ⟨rfl, rfl⟩, trivial⟩ ⟨⟨rfl, rfl, rfl⟩, ⟨rfl, rfl, rfl⟩, ⟨rfl, rfl, rfl⟩, ⟨rfl, rfl, rfl⟩, trivial⟩ (by decide))
 ·rintro ⟨yes_0, no_0, o0_0, o1_0⟩ (hJ1 : partD_L0 l 0 ([]) ([]) c n = (yes_0, no_0, o0_0, o1_0))
  show seqK _ _ _ .normal (⟨[(4, .ref 2 6 0 yes_0.length), (5, .ref 3 6 0 no_0.length)], [(0, .box [.pv (.slc o0_0.Abilities.length false (o0_0.Abilities.flatMap encGAbility)), .pv (.slc o0_0.Auras.length false (o0_0.Auras.flatMap encGAura)), .pv (.slc o0_0.Foes.length false (o0_0.Foes.flatMap encGFoe)), I o0_0.Map.W, I o0_0.Map.H, .pv (.slc o0_0.Map.Wall.length false (encB o0_0.Map.Wall)), I o0_0.Door.X, I o0_0.Door.Y, I o0_0.Lair.X, I o0_0.Lair.Y]), (1, .box [I o1_0]), (2, .row 61 6 (yes_0.flatMap encGActive)), (3, .row 61 6 (no_0.flatMap encGActive))], 4, [], 28, 2⟩ : St)
  refine seqK_n (sem_seq (sem_region rfl (step_r rfl rfl trivial (step_r rfl rfl trivial (step_r rfl rfl trivial (step_r rfl rfl trivial (step_nil (seqK_n (sem_ret ?_)))))))))
  have e9 : partD l c n = (yes_0, no_0, o0_0, o1_0) := by
   unfold partD
   try dsimp only
   rewrite [hJ1]
   try dsimp only
   all_goals rfl
  rw [e9]
  exact answersGR [] [2, 3] rfl ⟨trivial, trivial, trivial⟩ rfl (by (repeat' apply And.intro) <;> first | trivial | rfl | exact flat_len (fun _ => rfl) _ | exact encI_len _ | assumption) (rfl) rfl rfl rfl (by decide) rfl rfl ⟨⟨rfl, rfl⟩, ⟨rfl, rfl⟩, ⟨rfl, rfl⟩, ⟨rfl, rfl⟩, trivial⟩

def dispel15 (c : GContent) (l : List GActive) (n : Int) : (List GActive) × (List GActive) :=
  ((partD l c n).1, (partD l c n).2.1)
theorem dispel15_ok (c : GContent) (l : List GActive) (l_f : Bool) (n : Int) (hl : l.length ≤ 16777215) : Ok Try.prog 52 [aGContent c, .pv (.slc l.length l_f (l.flatMap encGActive)), I n] [] (.tup [.ref 0 6 0 (dispel15 c l n).1.length, .ref 1 6 0 (dispel15 c l n).2.length]) [.row 61 6 ((dispel15 c l n).1.flatMap encGActive), .row 61 6 ((dispel15 c l n).2.flatMap encGActive)] [] := by
 refine Ok.len fun hlen => ?_
 have hl_c_Abilities : c.Abilities.length ≤ maxLen := hlen _ (by simp [lensL, lens, lensP])
 have hl_c_Auras : c.Auras.length ≤ maxLen := hlen _ (by simp [lensL, lens, lensP])
 have hl_c_Foes : c.Foes.length ≤ maxLen := hlen _ (by simp [lensL, lens, lensP])
 have hl_c_Map_Wall : c.Map.Wall.length ≤ maxLen := hlen _ (by simp [lensL, lens, lensP])
 have hl_l : l.length ≤ maxLen := hlen _ (by simp [lensL, lens, lensP])
 unfold maxLen at hl_c_Abilities hl_c_Auras hl_c_Foes hl_c_Map_Wall hl_l
 refine ok_of_sem Try.func52 rfl ?_
 show Walks Try.prog _ _ ⟨[(0, aGContent c), (1, .pv (.slc l.length l_f (l.flatMap encGActive))), (2, I n)], [], 0, [], 13, 0⟩
 refine sem_seq (sem_region rfl (step_n (o := .box [_, _, _, _, _, _, _, _, _, _]) (nx' := 1) rfl rfl rfl trivial (step_n (o := .box [_]) (nx' := 2) rfl rfl rfl trivial (step_n (nx' := 3) rfl rfl rfl trivial (step_n (nx' := 4) rfl rfl rfl trivial (step_nil (seqK_n (sem_seq (sem_region rfl (step_r rfl rfl trivial (step_r rfl rfl trivial ?_)))))))))))
 refine step_callM (Hin := [.box [.pv _, .pv _, .pv _, .pv _, .pv _, .pv _, .pv _, .pv _, .pv _, .pv _], .box [.pv _]]) (out' := .tup [.ref 4 _ _ _, .ref 5 _ _ _]) (H' := [(4, .row _ _ _), (5, .row _ _ _), (3, .row _ _ _), (2, .row _ _ _), (1, .box [_]), (0, .box [_, _, _, _, _, _, _, _, _, _])]) (nx' := 6) [0, 1] rfl rfl rfl rfl (.inl rfl) rfl rfl rfl rfl (partD_ok l l_f c n (by first | assumption | omega | (simp only [List.length_nil, List.length_cons, List.length_append] at *; omega) | (simp; done) | (simp; omega))) rfl (by decide) rfl rfl rfl rfl rfl ?_
 refine step_r rfl rfl trivial (step_r rfl rfl trivial (step_r rfl rfl trivial (step_r rfl rfl trivial (step_nil (seqK_n (sem_ret ?_))))))
 have e1 : dispel15 c l n = ((partD l c n).1, (partD l c n).2.1) := by
  unfold dispel15
  try dsimp only
  all_goals rfl
 rw [e1]
 exact answersGR [] [4, 5] rfl ⟨trivial, trivial, trivial⟩ rfl (by (repeat' apply And.intro) <;> first | trivial | rfl | exact flat_len (fun _ => rfl) _ | exact encI_len _ | assumption) (rfl) rfl rfl rfl (by decide) rfl rfl ⟨⟨rfl, rfl⟩, ⟨rfl, rfl⟩, trivial⟩

theorem apply_one {c : GContent} {id source now : Int} (h : (apply15 c [] id source now).2 = 0) : (apply15 c [] id source now).1.length = 1 := by
  unfold apply15 at h ⊢
  have e : fidx (fun x_ => isSame x_ id source) [] = -1 := by simp [fidx]
  simp only [e] at h ⊢
  split at h
  · rename_i h1
    rw [if_pos h1]
    simp
  · cases h
theorem apply15_len (c : GContent) (l : List GActive) (id source now : Int) : (apply15 c l id source now).1.length ≤ l.length + 1 ∧ (apply15 c l id source now).1.length ≤ max l.length 16 := by
  unfold apply15
  repeat' split
  all_goals (simp; try omega)
theorem tick15_go (c : GContent) (now : Int) : ∀ (n k : Nat) (r d : List GActive), (tick15_L0 c now n k r d).1.length = r.length ∧ (tick15_L0 c now n k r d).2.length ≤ d.length + n
  | 0, k, r, d => by rw [tick15_L0]; exact ⟨rfl, Nat.le_refl _⟩
  | n + 1, k, r, d => by
    rw [tick15_L0]
    have h1 := tick15_go c now n (k + 1)
    repeat' split
    all_goals (refine ⟨by simp [(h1 _ _).1], Nat.le_trans (h1 _ _).2 ?_⟩; (try simp only [List.length_append, List.length_cons, List.length_nil]); omega)
theorem tick15_len (c : GContent) (l : List GActive) (now : Int) : (tick15 c l now).1.length = l.length ∧ (tick15 c l now).2.length ≤ l.length := by
  have h := tick15_go c now (l.length - 0) 0 l []
  unfold tick15
  simpa using h
theorem part15_go (f : GActive → Bool) : ∀ (l : List GActive) (k : Nat) (y n : List GActive), part15_L0 f l k y n = (y ++ l.filter f, n ++ l.filter fun x => !f x)
  | [], k, y, n => by rw [part15_L0]; simp
  | x :: l, k, y, n => by
    rw [part15_L0]
    by_cases h : f x = true
    · rw [if_pos h, part15_go f l]; simp [h]
    · rw [if_neg h, part15_go f l]; simp [h]
theorem expire15_is (l : List GActive) (now : Int) : expire15 l now = (l.filter (fun x_ => staysA x_ now), l.filter fun x_ => !staysA x_ now) := by
  unfold expire15 part15; rw [part15_go]; simp
theorem expire15_len (l : List GActive) (now : Int) : (expire15 l now).1.length ≤ l.length ∧ (expire15 l now).2.length ≤ l.length := by
  rw [expire15_is]; exact ⟨List.length_filter_le .., List.length_filter_le ..⟩
theorem partD_go : ∀ (l : List GActive) (k : Nat) (y n : List GActive) (c : GContent) (m : Int), (partD_L0 l k y n c m).1.length ≤ y.length + l.length ∧ (partD_L0 l k y n c m).2.1.length ≤ n.length + l.length
  | [], k, y, n, c, m => by rw [partD_L0]; exact ⟨by simp, by simp⟩
  | x :: l, k, y, n, c, m => by
    rw [partD_L0]
    split
    · have h := partD_go l (k + 1) (y ++ [x]) n ((dispelF x c m).2.1) ((dispelF x c m).2.2)
      simp only [List.length_append, List.length_cons, List.length_nil] at h ⊢; omega
    · have h := partD_go l (k + 1) y (n ++ [x]) ((dispelF x c m).2.1) ((dispelF x c m).2.2)
      simp only [List.length_append, List.length_cons, List.length_nil] at h ⊢; omega
theorem dispel15_len (c : GContent) (l : List GActive) (n : Int) : (dispel15 c l n).1.length ≤ l.length ∧ (dispel15 c l n).2.length ≤ l.length := by
  have h := partD_go l 0 [] [] c n
  unfold dispel15 partD
  simpa using h
end Go.Proofs.Ytmijbjpdjggppaa

import Derived.Test.YtnboadipofkcjaaDoorLock
namespace Go.Proofs.YtnboadipofkcjaaDoor
open Go Go.RowKit Go.Proofs.YtnboadipofkcjaaDoorVm
attribute [local irreducible] opsWp AnswersE OpsS
set_option maxHeartbeats 400000
set_option maxRecDepth 100000
set_option linter.all false
theorem getD_mem {α : Type} {l : List α} {k : Nat} {d : α} (h : k < l.length) : l.getD k d ∈ l := by
  rw [List.getD_eq_getElem?_getD, List.getElem?_eq_getElem h]; exact List.getElem_mem h

def aheadR (a : GLock) (b : GLock) : Bool :=
  if Op.bytesLess a.Name b.Name = true then true else if a.Name = b.Name then (decide ((a.Foe : Int) < b.Foe)) else false
theorem aheadR_ok (a : GLock) (b : GLock) : Ok Tryd.prog 34 [aGLock a, aGLock b] [] (B (aheadR a b)) [] [] := by
 refine ok_of_sem Tryd.func34 rfl ?_
 show Walks Tryd.prog _ _ ⟨[(0, aGLock a), (1, aGLock b)], [], 0, [], 24, 0⟩
 refine sem_seq (sem_region rfl (step_n (o := .box [_, _, _]) (nx' := 1) rfl rfl rfl trivial (step_n (o := .box [_, _, _]) (nx' := 2) rfl rfl rfl trivial (step_r rfl rfl trivial (step_nil (seqK_n (sem_seq (sem_region rfl (step_r rfl rfl (by decide) (step_r rfl rfl trivial (step_r rfl rfl (by decide) ?_)))))))))))
 refine step_r rfl rfl trivial (step_bin rfl rfl rfl rfl rfl trivial (step_r rfl rfl trivial ?_))
 refine step_gs rfl (fun h2 => ?_) (fun h2 => ?_)
 ·have g2 : Op.bytesLess a.Name b.Name = true := h2
  refine step_g0 rfl h2 rfl (step_g0 rfl h2 rfl (step_g0 rfl h2 rfl (step_g0 rfl h2 rfl (step_g0 rfl h2 rfl (step_g0 rfl h2 rfl (step_gf rfl rfl (step_gf rfl rfl (step_gf rfl rfl (step_gf rfl rfl (step_gf rfl rfl (step_g0 rfl h2 rfl ?_)))))))))))
  refine step_pickT rfl h2 rfl rfl (step_r rfl rfl trivial (step_nil (seqK_n (sem_ret ?_))))
  have e3 : aheadR a b = true := by
   unfold aheadR
   try dsimp only
   rewrite [if_pos g2]
   all_goals rfl
  rw [e3]
  exact answersR rfl ⟨trivial, trivial⟩ (rfl) rfl
 ·have g2 : ¬ (Op.bytesLess a.Name b.Name = true) := boo_f h2
  refine step_g1 rfl h2 (step_r rfl rfl (by decide) (step_g1 rfl h2 (step_r rfl rfl trivial (step_g1 rfl h2 (step_r rfl rfl (by decide) (step_g1 rfl h2 (step_r rfl rfl trivial (step_g1 rfl h2 (step_bin rfl rfl rfl rfl rfl trivial (step_g1 rfl h2 (step_r rfl rfl trivial ?_)))))))))))
  refine step_gs rfl (fun h5 => ?_) (fun h5 => ?_)
  ·have g5 : a.Name = b.Name := beq_t h5
   refine step_g1 rfl h5 (step_r rfl rfl (by decide) (step_g1 rfl h5 (step_r rfl rfl trivial (step_g1 rfl h5 (step_r rfl rfl (by decide) (step_g1 rfl h5 (step_r rfl rfl trivial (step_g1 rfl h5 (step_bin rfl rfl rfl rfl rfl trivial (step_g1 rfl h2 (step_pickT rfl h5 rfl rfl ?_)))))))))))
   refine step_pickF rfl h2 rfl rfl (step_r rfl rfl trivial (step_nil (seqK_n (sem_ret ?_))))
   have e7 : aheadR a b = (decide ((a.Foe : Int) < b.Foe)) := by
    unfold aheadR
    try dsimp only
    rewrite [if_neg g2, if_pos g5]
    all_goals rfl
   rw [e7]
   exact answersR rfl ⟨trivial, trivial⟩ (rfl) rfl
  ·have g5 : ¬ (a.Name = b.Name) := beq_f h5
   refine step_g0 rfl h5 rfl (step_g0 rfl h5 rfl (step_g0 rfl h5 rfl (step_g0 rfl h5 rfl (step_g0 rfl h5 rfl (step_g1 rfl h2 (step_pickF rfl h5 rfl rfl (step_pickF rfl h2 rfl rfl (step_r rfl rfl trivial (step_nil (seqK_n (sem_ret ?_)))))))))))
   have e8 : aheadR a b = false := by
    unfold aheadR
    try dsimp only
    rewrite [if_neg g2, if_neg g5]
    all_goals rfl
   rw [e8]
   exact answersR rfl ⟨trivial, trivial⟩ (rfl) rfl

def rightR_L0 (l : List GLock) : Nat → Nat → Sum Bool Unit
  | 0, k0 => .inr ()
  | n_ + 1, k0 => if nameR ((l.getD k0 default).Name) = true then (if ((l.getD k0 default).Foe : Int) < 1 then .inl false else if (k0 : Int) > 0 then (if aheadR (l.getD ((IntKind.i64.wrap (k0 - 1)).toNat) default) (l.getD k0 default) = true then rightR_L0 l n_ (k0 + 1) else .inl false) else rightR_L0 l n_ (k0 + 1)) else .inl false
def rightR (l : List GLock) : Bool :=
  (match rightR_L0 l (l.length - 0) 0 with
    | .inl r_ => r_
    | .inr () => (decide ((l.length : Int) ≤ 200)))
theorem rightR_ok (l : List GLock) (l_f : Bool) (hN : ∀ z ∈ l, z.Name.length ≤ 9223372036854775807) : Ok Tryd.prog 17 [.pv (.slc l.length l_f (l.flatMap encGLock))] [] (B (rightR l)) [] [] := by
 refine Ok.len fun hlen => ?_
 have hl_l : l.length ≤ maxLen := hlen _ (by simp [lensL, lens, lensP])
 unfold maxLen at hl_l
 refine ok_of_sem Tryd.func17 rfl ?_
 show Walks Tryd.prog _ _ ⟨[(0, .pv (.slc l.length l_f (l.flatMap encGLock)))], [], 0, [], 47, 0⟩
 refine sem_seq (sem_region rfl (step_r rfl rfl trivial (step_nil (seqK_n (sem_seq (sem_seq (sem_region rfl (step_r rfl rfl trivial (step_nil (seqK_n ?_))))))))))
 refine sem_cutW (fun w_ : Unit => match w_ with | () => (⟨[(0, .pv (.slc l.length l_f (l.flatMap encGLock)))], [], 0, [], 47, 0⟩ : St)) (fun w_ => rightR_L0 l (l.length - 0) 0 = .inr w_) ?_ ?_
 ·refine sem_block ?_
  refine sem_loopT (fun k0 : Nat => (⟨[(0, .pv (.slc l.length l_f (l.flatMap encGLock))), (3, I k0)], [], 0, [], 47, 0⟩ : St)) (fun k0 : Nat => rightR_L0 l (l.length - k0) k0 = rightR_L0 l (l.length - 0) 0 ∧ k0 ≤ l.length) (fun k0 : Nat => l.length - k0) 0 (⟨rfl, (by first | omega | (simp; omega))⟩) ?_ (fun k0 hh_ => ?_)
  ·exact (Trans.ren [] (by decide +kernel) (by decide +kernel) rfl ⟨⟨rfl, rfl⟩, ⟨rfl, rfl⟩, trivial⟩ trivial (by decide))
  obtain ⟨hI0, hb0⟩ := hh_
  show Walks Tryd.prog _ _ (⟨[(0, .pv (.slc l.length l_f (l.flatMap encGLock))), (3, I k0)], [], 0, [], 47, 0⟩ : St)
  refine sem_seq (sem_seq (sem_region rfl (step_r rfl rfl trivial (step_r rfl rfl trivial (step_r rfl rfl trivial (step_bin rfl rfl rfl rfl rfl trivial (step_nil (seqK_n ?_))))))))
  refine sem_cond rfl (fun h3 => ?_) (fun h3 => ?_)
  ·have g3 : (k0 : Int) < l.length := of_decide_eq_true h3
   have hm0 : l.length - k0 = (l.length - (k0 + 1)) + 1 := by omega
   refine sem_skip (seqK_n (sem_seq (sem_block (sem_seq (sem_region rfl (step_r rfl rfl trivial (step_r rfl rfl trivial ?_)))))))
   have jk4 : k0 < l.length := by first | assumption | omega | (simp only [List.length_set, List.length_append]; omega) | (simp only [IntKind.wrap_i64] at *; omega) | (simp; omega) | simp_all
   refine step_idxS (k := k0) rfl rfl rfl rfl jk4 (flat_ne (s := 3) (enc := encGLock) (fun _ => rfl) (by decide) jk4) rfl (step_r rfl rfl (by decide) (step_load_one rfl rfl rfl (flat_get (s := 3) (enc := encGLock) (fun _ => rfl) (get_getD jk4) (o := 0) rfl (by decide)) rfl ?_))
   refine step_call rfl rfl rfl rfl (nameR_ok ((l.getD k0 default).Name) (by first | assumption | omega | exact hN _ (List.mem_of_getElem? (by assumption)) | exact hN _ (getD_mem (by first | assumption | omega)) | exact hNb _ (List.mem_of_getElem? (by assumption)) | exact hNb _ (getD_mem (by first | assumption | omega)) | (simp only [IntKind.wrap_i64] at *; omega) | (simp; omega))) rfl rfl rfl ?_
   refine step_r rfl rfl trivial (step_nil (seqK_n (sem_seq ?_)))
   refine sem_drawn rfl (by decide +kernel) rfl ?_
   refine step_r rfl rfl trivial (step_r rfl rfl trivial (step_r rfl rfl trivial ?_))
   refine step_gs rfl (fun h7 => ?_) (fun h7 => ?_)
   ·have g7 : ¬ (nameR ((l.getD k0 default).Name) = true) := boo_f (not_t h7)
    refine step_g0 rfl h7 rfl (step_g0 rfl h7 rfl (step_g0 rfl h7 rfl (step_g0 rfl h7 rfl (step_g0 rfl h7 rfl (step_g0 rfl h7 rfl (step_pickT rfl h7 rfl rfl (step_r rfl rfl trivial (step_gf rfl rfl (step_gf rfl rfl (step_gf rfl rfl (step_gf rfl rfl ?_)))))))))))
    refine step_gf rfl rfl (step_gf rfl rfl (step_gf rfl rfl (step_gf rfl rfl (step_gf rfl rfl (step_gf rfl rfl (step_gf rfl rfl (step_gf rfl rfl (step_gf rfl rfl (step_gf rfl rfl (step_gf rfl rfl (step_r rfl rfl trivial ?_)))))))))))
    refine step_nil (seqK_n (sem_condT rfl (sem_seq (sem_region rfl (step_r rfl rfl trivial (step_nil (seqK_n (sem_ret (blkK_r (seqK_r (lupK_r ?_)))))))))))
    refine blkK_r (cutW_r (seqK_r ?_))
    have e8 : rightR_L0 l (l.length - 0) 0 = .inl false := by
     rewrite [← hI0, hm0]
     rewrite [rightR_L0]
     try dsimp only
     rewrite [if_neg g7]
     all_goals rfl
    have e9 : rightR l = false := by
     unfold rightR
     try dsimp only
     rewrite [e8]
     try dsimp only
     all_goals rfl
    rw [e9]
    exact answersR rfl ⟨trivial, trivial⟩ (rfl) rfl
   ·have g7 : nameR ((l.getD k0 default).Name) = true := (not_f h7)
    refine step_g1 rfl h7 (step_r rfl rfl trivial (step_g1 rfl h7 (step_r rfl rfl trivial (step_g1 rfl h7 (step_idxS (k := k0) rfl rfl rfl rfl jk4 (flat_ne (s := 3) (enc := encGLock) (fun _ => rfl) (by decide) jk4) rfl (step_g1 rfl h7 (step_r rfl rfl (by decide) (step_g1 rfl h7 (step_load_one rfl rfl rfl (flat_get (s := 3) (enc := encGLock) (fun _ => rfl) (get_getD jk4) (o := 1) rfl (by decide)) rfl (step_g1 rfl h7 (step_bin rfl rfl rfl rfl rfl trivial ?_)))))))))))
    refine step_pickF rfl h7 rfl rfl (step_r rfl rfl trivial ?_)
    refine step_gs rfl (fun h11 => ?_) (fun h11 => ?_)
    ·have g11 : ((l.getD k0 default).Foe : Int) < 1 := of_decide_eq_true h11
     refine step_g0 rfl h11 rfl (step_g0 rfl h11 rfl (step_g0 rfl h11 rfl (step_gf rfl rfl (step_gf rfl rfl (step_gf rfl rfl (step_gf rfl rfl (step_gf rfl rfl (step_gf rfl rfl (step_gf rfl rfl (step_gf rfl rfl (step_gf rfl rfl ?_)))))))))))
     refine step_gf rfl rfl (step_gf rfl rfl (step_g0 rfl h11 rfl (step_pickT rfl h11 rfl rfl (step_nil (seqK_n (sem_condT rfl (sem_seq (sem_region rfl (step_r rfl rfl trivial (step_nil (seqK_n ?_)))))))))))
     refine sem_ret (blkK_r (seqK_r (lupK_r (blkK_r (cutW_r (seqK_r ?_))))))
     have e12 : rightR_L0 l (l.length - 0) 0 = .inl false := by
      rewrite [← hI0, hm0]
      rewrite [rightR_L0]
      try dsimp only
      rewrite [if_pos g7, if_pos g11]
      all_goals rfl
     have e13 : rightR l = false := by
      unfold rightR
      try dsimp only
      rewrite [e12]
      try dsimp only
      all_goals rfl
     rw [e13]
     exact answersR rfl ⟨trivial, trivial⟩ (rfl) rfl
    ·have g11 : ¬ (((l.getD k0 default).Foe : Int) < 1) := of_decide_eq_false h11
     refine step_g1 rfl h11 (step_r rfl rfl trivial (step_g1 rfl h11 (step_bin rfl rfl rfl rfl rfl trivial (step_g1 rfl h11 (step_r rfl rfl trivial ?_)))))
     refine step_gs rfl (fun h15 => ?_) (fun h15 => ?_)
     ·have g15 : (k0 : Int) > 0 := of_decide_eq_true h15
      refine step_g1 rfl h15 (step_r rfl rfl trivial (step_g1 rfl h15 (step_r rfl rfl trivial (step_g1 rfl h15 (step_bin rfl rfl rfl rfl rfl trivial (step_g1 rfl h15 ?_))))))
      have jk16 : (IntKind.i64.wrap (k0 - 1)).toNat < l.length := by first | assumption | omega | (simp only [List.length_set, List.length_append]; omega) | (simp only [IntKind.wrap_i64] at *; omega) | (simp; omega) | simp_all
      refine step_idxS' (k := (IntKind.i64.wrap (k0 - 1)).toNat) rfl rfl (Int.toNat_of_nonneg (by first | omega | (simp only [IntKind.wrap_i64]; omega) | (simp only [IntKind.wrap_i64] at *; omega) | (simp; omega))).symm rfl rfl jk16 (flat_ne (s := 3) (enc := encGLock) (fun _ => rfl) (by decide) jk16) rfl ?_
      refine step_g1 rfl h15 (step_load_row rfl rfl rfl (flat_lt (s := 3) (enc := encGLock) (fun _ => rfl) jk16) (flat_take (s := 3) (enc := encGLock) (fun _ => rfl) (get_getD jk16)) rfl (step_g1 rfl h15 (step_r rfl rfl trivial (step_g1 rfl h15 (step_r rfl rfl trivial (step_g1 rfl h15 (step_idxS (k := k0) rfl rfl rfl rfl jk4 (flat_ne (s := 3) (enc := encGLock) (fun _ => rfl) (by decide) jk4) rfl (step_g1 rfl h15 (step_load_row rfl rfl rfl (flat_lt (s := 3) (enc := encGLock) (fun _ => rfl) jk4) (flat_take (s := 3) (enc := encGLock) (fun _ => rfl) (get_getD jk4)) rfl (step_g1 rfl h15 (step_call rfl rfl rfl rfl (aheadR_ok (l.getD ((IntKind.i64.wrap (k0 - 1)).toNat) default) (l.getD k0 default)) rfl rfl rfl ?_)))))))))))
      refine step_g1 rfl h15 (step_r rfl rfl trivial (step_g1 rfl h11 (step_pickT rfl h15 rfl rfl (step_pickF rfl h11 rfl rfl (step_nil (seqK_n ?_))))))
      refine sem_cond rfl (fun h18 => ?_) (fun h18 => ?_)
      ·have g18 : ¬ (aheadR (l.getD ((IntKind.i64.wrap (k0 - 1)).toNat) default) (l.getD k0 default) = true) := boo_f (not_t h18)
       refine sem_seq (sem_region rfl (step_r rfl rfl trivial (step_nil (seqK_n (sem_ret (blkK_r (seqK_r (lupK_r (blkK_r (cutW_r (seqK_r ?_)))))))))))
       have e19 : rightR_L0 l (l.length - 0) 0 = .inl false := by
        rewrite [← hI0, hm0]
        rewrite [rightR_L0]
        try dsimp only
        rewrite [if_pos g7, if_neg g11, if_pos g15, if_neg g18]
        all_goals rfl
       have e20 : rightR l = false := by
        unfold rightR
        try dsimp only
        rewrite [e19]
        try dsimp only
        all_goals rfl
       rw [e20]
       exact answersR rfl ⟨trivial, trivial⟩ (rfl) rfl
      ·have g18 : aheadR (l.getD ((IntKind.i64.wrap (k0 - 1)).toNat) default) (l.getD k0 default) = true := (not_f h18)
       refine sem_skip (blkK_n (seqK_n (sem_region rfl (step_r rfl rfl trivial (step_bin rfl rfl rfl rfl rfl trivial (step_r rfl rfl trivial (step_nil ?_)))))))
       have e22 : rightR_L0 l (l.length - k0) k0 = rightR_L0 l (l.length - (k0 + 1)) (k0 + 1) := by
        rewrite [hm0]
        rewrite [rightR_L0]
        try dsimp only
        rewrite [if_pos g7, if_neg g11, if_pos g15, if_pos g18]
        all_goals rfl
       exact lup_againT (k0 + 1) ⟨e22.symm.trans hI0, (by omega)⟩ (by show l.length - (k0 + 1) < l.length - k0; omega) (Trans.ren [] (by decide +kernel) (by decide +kernel) rfl ⟨⟨rfl, rfl⟩, ⟨congrArg (fun n => some (I n)) (wrapI (k := k0) (by first | omega | (simp; omega))), rfl⟩, trivial⟩ trivial (by decide))
     ·have g15 : ¬ ((k0 : Int) > 0) := of_decide_eq_false h15
      refine step_g0 rfl h15 rfl (step_g0 rfl h15 rfl (step_g0 rfl h15 rfl (step_g0 rfl h15 rfl (step_g0 rfl h15 rfl (step_g0 rfl h15 rfl (step_g0 rfl h15 rfl (step_g0 rfl h15 rfl (step_g0 rfl h15 rfl (step_g0 rfl h15 rfl (step_g0 rfl h15 rfl (step_g1 rfl h11 ?_)))))))))))
      refine step_pickF rfl h15 rfl rfl (step_pickF rfl h11 rfl rfl (step_nil (seqK_n (sem_condF rfl (sem_skip (blkK_n (seqK_n (sem_region rfl (step_r rfl rfl trivial (step_bin rfl rfl rfl rfl rfl trivial (step_r rfl rfl trivial ?_)))))))))))
      refine step_nil ?_
      have e24 : rightR_L0 l (l.length - k0) k0 = rightR_L0 l (l.length - (k0 + 1)) (k0 + 1) := by
       rewrite [hm0]
       rewrite [rightR_L0]
       try dsimp only
       rewrite [if_pos g7, if_neg g11, if_neg g15]
       all_goals rfl
      exact lup_againT (k0 + 1) ⟨e24.symm.trans hI0, (by omega)⟩ (by show l.length - (k0 + 1) < l.length - k0; omega) (Trans.ren [] (by decide +kernel) (by decide +kernel) rfl ⟨⟨rfl, rfl⟩, ⟨congrArg (fun n => some (I n)) (wrapI (k := k0) (by first | omega | (simp; omega))), rfl⟩, trivial⟩ trivial (by decide))
  ·have g3 : ¬ ((k0 : Int) < l.length) := of_decide_eq_false h3
   have hm0 : l.length - k0 = 0 := by omega
   refine sem_exit (seqK_e (lupK_e (blkK_t rfl ?_)))
   have e25 : rightR_L0 l (l.length - 0) 0 = .inr () := by
    rewrite [← hI0, hm0]
    rewrite [rightR_L0]
    try dsimp only
    all_goals rfl
   exact cutW_n () e25 (Trans.ren [] (by decide +kernel) (by decide +kernel) rfl ⟨⟨rfl, rfl⟩, trivial⟩ trivial (by decide))
 ·rintro ⟨⟩ (hJ1 : rightR_L0 l (l.length - 0) 0 = .inr ())
  show seqK _ _ _ .normal (⟨[(0, .pv (.slc l.length l_f (l.flatMap encGLock)))], [], 0, [], 47, 0⟩ : St)
  refine seqK_n (sem_seq (sem_region rfl (step_r rfl rfl trivial (step_r rfl rfl trivial (step_bin rfl rfl rfl rfl rfl trivial (step_r rfl rfl trivial (step_nil (seqK_n (sem_ret ?_)))))))))
  have e27 : rightR l = (decide ((l.length : Int) ≤ 200)) := by
   unfold rightR
   try dsimp only
   rewrite [hJ1]
   try dsimp only
   all_goals rfl
  rw [e27]
  exact answersR rfl ⟨trivial, trivial⟩ (rfl) rfl

def turnR_J36 (now : Int) (period : Int) (offset : Int) : Int :=
  if ((IntKind.i64.wrap (now - offset) : Int).tmod period : Int) < 0 then (IntKind.i64.wrap (((IntKind.i64.wrap (now - offset) : Int).tmod period) + period)) else ((IntKind.i64.wrap (now - offset) : Int).tmod period)
def turnR (now : Int) (period : Int) (offset : Int) : Int :=
  if (now : Int) < (-1125899906842624) then now else if (now : Int) > 1125899906842624 then now else if (offset : Int) < (-1125899906842624) then now else if (offset : Int) > 1125899906842624 then now else if (period : Int) < 1 then now else if (period : Int) > 1125899906842624 then now else (let left_36 := turnR_J36 now period offset; (IntKind.i64.wrap ((IntKind.i64.wrap (now - left_36)) + period)))
theorem turnR_ok (now : Int) (period : Int) (offset : Int) : Ok Tryd.prog 28 [I now, I period, I offset] [] (I (turnR now period offset)) [] [] := by
 refine ok_of_sem Tryd.func28 rfl ?_
 show Walks Tryd.prog _ _ ⟨[(0, I now), (1, I period), (2, I offset)], [], 0, [], 46, 0⟩
 refine sem_seq (sem_region rfl (step_r rfl rfl trivial (step_nil (seqK_n (sem_seq (sem_seq (sem_region rfl (step_r rfl rfl trivial (step_bin rfl rfl rfl rfl rfl trivial (step_r rfl rfl trivial ?_))))))))))
 refine step_gs rfl (fun h3 => ?_) (fun h3 => ?_)
 ·have g3 : (now : Int) < (-1125899906842624) := of_decide_eq_true h3
  refine step_g0 rfl h3 rfl (step_g0 rfl h3 rfl (step_pickT rfl h3 rfl rfl (step_r rfl rfl trivial (step_gf rfl rfl (step_gf rfl rfl (step_r rfl rfl trivial (step_r rfl rfl trivial (step_gf rfl rfl (step_gf rfl rfl (step_r rfl rfl trivial (step_r rfl rfl trivial ?_)))))))))))
  refine step_gf rfl rfl (step_gf rfl rfl (step_r rfl rfl trivial (step_r rfl rfl trivial (step_gf rfl rfl (step_gf rfl rfl (step_r rfl rfl trivial (step_nil (seqK_n (sem_condT rfl (sem_seq (sem_region rfl ?_)))))))))))
  refine step_r rfl rfl trivial (step_r rfl rfl trivial (step_nil (seqK_n (sem_ret (seqK_r ?_)))))
  have e4 : turnR now period offset = now := by
   unfold turnR
   try dsimp only
   rewrite [if_pos g3]
   all_goals rfl
  rw [e4]
  exact answersR rfl ⟨trivial, trivial⟩ (rfl) rfl
 ·have g3 : ¬ ((now : Int) < (-1125899906842624)) := of_decide_eq_false h3
  refine step_g1 rfl h3 (step_r rfl rfl trivial (step_g1 rfl h3 (step_bin rfl rfl rfl rfl rfl trivial (step_pickF rfl h3 rfl rfl (step_r rfl rfl trivial ?_)))))
  refine step_gs rfl (fun h6 => ?_) (fun h6 => ?_)
  ·have g6 : (now : Int) > 1125899906842624 := of_decide_eq_true h6
   refine step_g0 rfl h6 rfl (step_g0 rfl h6 rfl (step_pickT rfl h6 rfl rfl (step_r rfl rfl trivial (step_gf rfl rfl (step_gf rfl rfl (step_r rfl rfl trivial (step_r rfl rfl trivial (step_gf rfl rfl (step_gf rfl rfl (step_r rfl rfl trivial (step_r rfl rfl trivial ?_)))))))))))
   refine step_gf rfl rfl (step_gf rfl rfl (step_r rfl rfl trivial (step_nil (seqK_n (sem_condT rfl (sem_seq (sem_region rfl (step_r rfl rfl trivial (step_r rfl rfl trivial (step_nil (seqK_n ?_)))))))))))
   refine sem_ret (seqK_r ?_)
   have e7 : turnR now period offset = now := by
    unfold turnR
    try dsimp only
    rewrite [if_neg g3, if_pos g6]
    all_goals rfl
   rw [e7]
   exact answersR rfl ⟨trivial, trivial⟩ (rfl) rfl
  ·have g6 : ¬ ((now : Int) > 1125899906842624) := of_decide_eq_false h6
   refine step_g1 rfl h6 (step_r rfl rfl trivial (step_g1 rfl h6 (step_bin rfl rfl rfl rfl rfl trivial (step_pickF rfl h6 rfl rfl (step_r rfl rfl trivial ?_)))))
   refine step_gs rfl (fun h10 => ?_) (fun h10 => ?_)
   ·have g10 : (offset : Int) < (-1125899906842624) := of_decide_eq_true h10
    refine step_g0 rfl h10 rfl (step_g0 rfl h10 rfl (step_pickT rfl h10 rfl rfl (step_r rfl rfl trivial (step_gf rfl rfl (step_gf rfl rfl (step_r rfl rfl trivial (step_r rfl rfl trivial (step_gf rfl rfl (step_gf rfl rfl (step_r rfl rfl trivial (step_nil ?_)))))))))))
    refine seqK_n (sem_condT rfl (sem_seq (sem_region rfl (step_r rfl rfl trivial (step_r rfl rfl trivial (step_nil (seqK_n (sem_ret (seqK_r ?_)))))))))
    have e11 : turnR now period offset = now := by
     unfold turnR
     try dsimp only
     rewrite [if_neg g3, if_neg g6, if_pos g10]
     all_goals rfl
    rw [e11]
    exact answersR rfl ⟨trivial, trivial⟩ (rfl) rfl
   ·have g10 : ¬ ((offset : Int) < (-1125899906842624)) := of_decide_eq_false h10
    refine step_g1 rfl h10 (step_r rfl rfl trivial (step_g1 rfl h10 (step_bin rfl rfl rfl rfl rfl trivial (step_pickF rfl h10 rfl rfl (step_r rfl rfl trivial ?_)))))
    refine step_gs rfl (fun h13 => ?_) (fun h13 => ?_)
    ·have g13 : (offset : Int) > 1125899906842624 := of_decide_eq_true h13
     refine step_g0 rfl h13 rfl (step_g0 rfl h13 rfl (step_pickT rfl h13 rfl rfl (step_r rfl rfl trivial (step_gf rfl rfl (step_gf rfl rfl (step_r rfl rfl trivial (step_nil (seqK_n (sem_condT rfl (sem_seq (sem_region rfl ?_)))))))))))
     refine step_r rfl rfl trivial (step_r rfl rfl trivial (step_nil (seqK_n (sem_ret (seqK_r ?_)))))
     have e14 : turnR now period offset = now := by
      unfold turnR
      try dsimp only
      rewrite [if_neg g3, if_neg g6, if_neg g10, if_pos g13]
      all_goals rfl
     rw [e14]
     exact answersR rfl ⟨trivial, trivial⟩ (rfl) rfl
    ·have g13 : ¬ ((offset : Int) > 1125899906842624) := of_decide_eq_false h13
     refine step_g1 rfl h13 (step_r rfl rfl trivial (step_g1 rfl h13 (step_bin rfl rfl rfl rfl rfl trivial (step_pickF rfl h13 rfl rfl (step_r rfl rfl trivial ?_)))))
     refine step_gs rfl (fun h17 => ?_) (fun h17 => ?_)
     ·have g17 : (period : Int) < 1 := of_decide_eq_true h17
      refine step_g0 rfl h17 rfl (step_g0 rfl h17 rfl (step_pickT rfl h17 rfl rfl (step_nil (seqK_n (sem_condT rfl (sem_seq (sem_region rfl (step_r rfl rfl trivial (step_r rfl rfl trivial (step_nil (seqK_n ?_)))))))))))
      refine sem_ret (seqK_r ?_)
      have e18 : turnR now period offset = now := by
       unfold turnR
       try dsimp only
       rewrite [if_neg g3, if_neg g6, if_neg g10, if_neg g13, if_pos g17]
       all_goals rfl
      rw [e18]
      exact answersR rfl ⟨trivial, trivial⟩ (rfl) rfl
     ·have g17 : ¬ ((period : Int) < 1) := of_decide_eq_false h17
      refine step_g1 rfl h17 (step_r rfl rfl trivial (step_g1 rfl h17 (step_bin rfl rfl rfl rfl rfl trivial (step_pickF rfl h17 rfl rfl (step_nil (seqK_n ?_))))))
      refine sem_cond rfl (fun h20 => ?_) (fun h20 => ?_)
      ·have g20 : (period : Int) > 1125899906842624 := of_decide_eq_true h20
       refine sem_seq (sem_region rfl (step_r rfl rfl trivial (step_r rfl rfl trivial (step_nil (seqK_n (sem_ret (seqK_r ?_)))))))
       have e21 : turnR now period offset = now := by
        unfold turnR
        try dsimp only
        rewrite [if_neg g3, if_neg g6, if_neg g10, if_neg g13, if_neg g17, if_pos g20]
        all_goals rfl
       rw [e21]
       exact answersR rfl ⟨trivial, trivial⟩ (rfl) rfl
      ·have g20 : ¬ ((period : Int) > 1125899906842624) := of_decide_eq_false h20
       refine sem_skip (seqK_n (sem_seq (sem_region rfl (step_r rfl rfl trivial (step_r rfl rfl trivial (step_bin rfl rfl rfl rfl rfl trivial (step_r rfl rfl trivial ?_)))))))
       refine step_bin rfl rfl rfl rfl rfl (by first | decide | omega | (show (0 : Int) ≤ IntKind.i64.wrap _; rw [wrap_lt (by omega) (by omega)]; omega) | simp_all) ?_
       refine step_r rfl rfl trivial (step_nil (seqK_n (sem_seq ?_)))
       refine sem_cutW (fun left_36 : Int => (⟨[(0, I now), (1, I period), (7, I left_36)], [], 0, [], 46, 0⟩ : St)) (fun w_ => turnR_J36 now period offset = w_) ?_ ?_
       ·refine sem_seq (sem_region rfl (step_r rfl rfl trivial (step_bin rfl rfl rfl rfl rfl trivial (step_nil (seqK_n ?_)))))
        refine sem_cond rfl (fun h24 => ?_) (fun h24 => ?_)
        ·have g24 : ((IntKind.i64.wrap (now - offset) : Int).tmod period : Int) < 0 := of_decide_eq_true h24
         refine sem_region rfl (step_r rfl rfl trivial (step_r rfl rfl trivial (step_bin rfl rfl rfl rfl rfl trivial (step_r rfl rfl trivial (step_nil ?_)))))
         have e26 : turnR_J36 now period offset = (IntKind.i64.wrap (((IntKind.i64.wrap (now - offset) : Int).tmod period) + period)) := by
          unfold turnR_J36
          try dsimp only
          rewrite [if_pos g24]
          all_goals rfl
         exact cutW_n (IntKind.i64.wrap (((IntKind.i64.wrap (now - offset) : Int).tmod period) + period)) e26 (Trans.ren [] (by decide +kernel) (by decide +kernel) rfl ⟨⟨rfl, rfl⟩, ⟨rfl, rfl⟩, ⟨rfl, rfl⟩, trivial⟩ trivial (by decide))
        ·have g24 : ¬ (((IntKind.i64.wrap (now - offset) : Int).tmod period : Int) < 0) := of_decide_eq_false h24
         refine sem_skip ?_
         have e27 : turnR_J36 now period offset = ((IntKind.i64.wrap (now - offset) : Int).tmod period) := by
          unfold turnR_J36
          try dsimp only
          rewrite [if_neg g24]
          all_goals rfl
         exact cutW_n ((IntKind.i64.wrap (now - offset) : Int).tmod period) e27 (Trans.ren [] (by decide +kernel) (by decide +kernel) rfl ⟨⟨rfl, rfl⟩, ⟨rfl, rfl⟩, ⟨rfl, rfl⟩, trivial⟩ trivial (by decide))
       ·rintro left_36 (hJ23 : turnR_J36 now period offset = left_36)
        show seqK _ _ _ .normal (⟨[(0, I now), (1, I period), (7, I left_36)], [], 0, [], 46, 0⟩ : St)
        refine seqK_n (sem_seq (sem_region rfl (step_r rfl rfl trivial (step_r rfl rfl trivial (step_bin rfl rfl rfl rfl rfl trivial (step_r rfl rfl trivial (step_bin rfl rfl rfl rfl rfl trivial (step_r rfl rfl trivial (step_nil (seqK_n (sem_ret ?_)))))))))))
        have e32 : turnR now period offset = (IntKind.i64.wrap ((IntKind.i64.wrap (now - left_36)) + period)) := by
         unfold turnR
         try dsimp only
         rewrite [if_neg g3, if_neg g6, if_neg g10, if_neg g13, if_neg g17, if_neg g20, hJ23]
         try dsimp only
         all_goals rfl
        rw [e32]
        exact answersR rfl ⟨trivial, trivial⟩ (rfl) rfl

def copyR (l : List GLock) : List GLock :=
  l
theorem copyR_ok (l : List GLock) (l_f : Bool) (hl : l.length ≤ 16777000) : Ok Tryd.prog 35 [.pv (.slc l.length l_f (l.flatMap encGLock))] [] (.ref 0 3 0 (copyR l).length) [.row 24 3 ((copyR l).flatMap encGLock)] [] := by
 refine Ok.len fun hlen => ?_
 have hl_l : l.length ≤ maxLen := hlen _ (by simp [lensL, lens, lensP])
 unfold maxLen at hl_l
 refine ok_of_sem Tryd.func35 rfl ?_
 show Walks Tryd.prog _ _ ⟨[(0, .pv (.slc l.length l_f (l.flatMap encGLock)))], [], 0, [], 6, 0⟩
 refine sem_seq (sem_region rfl (step_n (nx' := 1) rfl rfl rfl trivial (step_nil (seqK_n (sem_seq (sem_region rfl (step_r rfl rfl ⟨by decide, rfl⟩ (step_r rfl rfl trivial ?_))))))))
 refine step_appendN (m := l.length) (new := l.flatMap encGLock) (cs' := l.flatMap encGLock) (n' := l.length) rfl rfl (rfl) rfl rfl rfl rfl rfl rfl (flat_len (s := 3) (enc := encGLock) (fun _ => rfl) l) (by first | decide | (unfold maxGrow; omega) | (unfold maxGrow; simp; omega) | (unfold maxGrow; simp only [List.length_append, List.length_take, List.length_drop, List.length_cons, List.length_nil, IntKind.wrap_i64] at *; omega)) rfl rfl rfl rfl ?_
 refine step_r rfl rfl trivial (step_nil (seqK_n (sem_ret ?_)))
 have e1 : copyR l = l := by
  unfold copyR
  try dsimp only
  all_goals rfl
 rw [e1]
 exact answersGR [] [1] rfl ⟨trivial, trivial⟩ rfl (by (repeat' apply And.intro) <;> first | trivial | rfl | exact flat_len (fun _ => rfl) _ | exact encI_len _ | assumption) (rfl) rfl rfl rfl (by decide) rfl rfl ⟨⟨rfl, rfl⟩, trivial⟩

theorem copyR_len (l : List GLock) : (copyR l).length = l.length := rfl

def addLR_L0 (l : List GLock) (name : List UInt8) (foe : Int) (until_ : Int) : Nat → Int → Int
  | 0, _ => default
  | n_ + 1, k0' => if (k0' : Int) < l.length then (if aheadR (l.getD ((k0').toNat) default) (⟨name, foe, until_⟩ : GLock) = true then addLR_L0 l name foe until_ n_ (IntKind.i64.wrap ((k0') + 1)) else (k0')) else (k0')
def addLR_J49 (l : List GLock) (name : List UInt8) (foe : Int) (until_ : Int) (k_0 : Int) : Sum ((List GLock) × Int) Unit :=
  if (k_0 : Int) < l.length then (if aheadR (⟨name, foe, until_⟩ : GLock) (l.getD k_0.toNat default) = true then .inr () else .inl (((copyR l).set k_0.toNat { ((copyR l).getD k_0.toNat default) with Until := (max ((l.getD k_0.toNat default).Until) until_) }), 0)) else .inr ()
def addLR (l : List GLock) (name : List UInt8) (foe : Int) (until_ : Int) : (List GLock) × Int :=
  if rightR l = true then (if nameR name = true then (if (foe : Int) < 1 then ([], 1) else (let k_0 := addLR_L0 l name foe until_ (l.length + 1) 0; (match addLR_J49 l name foe until_ k_0 with
    | .inl r_ => r_
    | .inr () => if (l.length : Int) ≥ 200 then ([], 4) else ((((copyR (l.take k_0.toNat)) ++ [(⟨name, foe, until_⟩ : GLock)]) ++ (l.drop k_0.toNat)), 0)))) else ([], 1)) else ([], 1)
theorem addLR_ok (l : List GLock) (l_f : Bool) (name : List UInt8) (foe : Int) (until_ : Int) (hl : l.length ≤ 16777000) (hN : ∀ z ∈ l, z.Name.length ≤ 9223372036854775807) (hn : name.length ≤ 9223372036854775807) : Ok Tryd.prog 10 [.pv (.slc l.length l_f (l.flatMap encGLock)), .pv (.str name), I foe, I until_] [] (.tup [.ref 0 3 0 (addLR l name foe until_).1.length, I (addLR l name foe until_).2]) [.row 24 3 ((addLR l name foe until_).1.flatMap encGLock)] [] := by
 refine Ok.len fun hlen => ?_
 have hl_l : l.length ≤ maxLen := hlen _ (by simp [lensL, lens, lensP])
 unfold maxLen at hl_l
 refine ok_of_sem Tryd.func10 rfl ?_
 show Walks Tryd.prog _ _ ⟨[(0, .pv (.slc l.length l_f (l.flatMap encGLock))), (1, .pv (.str name)), (2, I foe), (3, I until_)], [], 0, [], 88, 0⟩
 refine sem_seq (sem_region rfl (step_n (nx' := 1) rfl rfl rfl trivial (step_r rfl rfl trivial (step_nil (seqK_n (sem_seq (sem_region rfl (step_r rfl rfl trivial (step_call rfl rfl rfl rfl (rightR_ok l l_f (by first | assumption | exact hN)) rfl rfl rfl (step_r rfl rfl trivial (step_nil ?_)))))))))))
 refine seqK_n (sem_seq (sem_region rfl (step_r rfl rfl trivial ?_)))
 refine step_call rfl rfl rfl rfl (nameR_ok name (by first | assumption | omega | exact hN _ (List.mem_of_getElem? (by assumption)) | exact hN _ (getD_mem (by first | assumption | omega)) | exact hNb _ (List.mem_of_getElem? (by assumption)) | exact hNb _ (getD_mem (by first | assumption | omega)) | (simp only [IntKind.wrap_i64] at *; omega) | (simp; omega))) rfl rfl rfl ?_
 refine step_r rfl rfl trivial (step_nil (seqK_n (sem_seq (sem_seq (sem_region rfl (step_r rfl rfl trivial (step_r rfl rfl trivial (step_r rfl rfl trivial ?_))))))))
 refine step_gs rfl (fun h5 => ?_) (fun h5 => ?_)
 ·have g5 : ¬ (rightR l = true) := boo_f (not_t h5)
  refine step_g0 rfl h5 rfl (step_g0 rfl h5 rfl (step_pickT rfl h5 rfl rfl (step_r rfl rfl trivial (step_gf rfl rfl (step_gf rfl rfl (step_r rfl rfl trivial (step_nil (seqK_n (sem_condT rfl (sem_seq (sem_region rfl ?_)))))))))))
  refine step_n (nx' := 2) rfl rfl rfl trivial (step_r rfl rfl trivial (step_nil (seqK_n (sem_ret (seqK_r ?_)))))
  have e6 : addLR l name foe until_ = ([], 1) := by
   unfold addLR
   try dsimp only
   rewrite [if_neg g5]
   all_goals rfl
  rw [e6]
  exact answersGR [] [1] rfl ⟨trivial, trivial, trivial⟩ rfl (by (repeat' apply And.intro) <;> first | trivial | rfl | exact flat_len (fun _ => rfl) _ | exact encI_len _ | assumption) (rfl) rfl rfl rfl (by decide) rfl rfl ⟨⟨rfl, rfl⟩, trivial⟩
 ·have g5 : rightR l = true := (not_f h5)
  refine step_g1 rfl h5 (step_r rfl rfl trivial (step_g1 rfl h5 (step_r rfl rfl trivial (step_pickF rfl h5 rfl rfl (step_r rfl rfl trivial ?_)))))
  refine step_gs rfl (fun h8 => ?_) (fun h8 => ?_)
  ·have g8 : ¬ (nameR name = true) := boo_f (not_t h8)
   refine step_g0 rfl h8 rfl (step_g0 rfl h8 rfl (step_pickT rfl h8 rfl rfl (step_nil (seqK_n (sem_condT rfl (sem_seq (sem_region rfl (step_n (nx' := 2) rfl rfl rfl trivial (step_r rfl rfl trivial (step_nil (seqK_n ?_)))))))))))
   refine sem_ret (seqK_r ?_)
   have e9 : addLR l name foe until_ = ([], 1) := by
    unfold addLR
    try dsimp only
    rewrite [if_pos g5, if_neg g8]
    all_goals rfl
   rw [e9]
   exact answersGR [] [1] rfl ⟨trivial, trivial, trivial⟩ rfl (by (repeat' apply And.intro) <;> first | trivial | rfl | exact flat_len (fun _ => rfl) _ | exact encI_len _ | assumption) (rfl) rfl rfl rfl (by decide) rfl rfl ⟨⟨rfl, rfl⟩, trivial⟩
  ·have g8 : nameR name = true := (not_f h8)
   refine step_g1 rfl h8 (step_r rfl rfl trivial (step_g1 rfl h8 (step_bin rfl rfl rfl rfl rfl trivial (step_pickF rfl h8 rfl rfl (step_nil (seqK_n ?_))))))
   refine sem_cond rfl (fun h12 => ?_) (fun h12 => ?_)
   ·have g12 : (foe : Int) < 1 := of_decide_eq_true h12
    refine sem_seq (sem_region rfl (step_n (nx' := 2) rfl rfl rfl trivial (step_r rfl rfl trivial (step_nil (seqK_n (sem_ret (seqK_r ?_)))))))
    have e13 : addLR l name foe until_ = ([], 1) := by
     unfold addLR
     try dsimp only
     rewrite [if_pos g5, if_pos g8, if_pos g12]
     all_goals rfl
    rw [e13]
    exact answersGR [] [1] rfl ⟨trivial, trivial, trivial⟩ rfl (by (repeat' apply And.intro) <;> first | trivial | rfl | exact flat_len (fun _ => rfl) _ | exact encI_len _ | assumption) (rfl) rfl rfl rfl (by decide) rfl rfl ⟨⟨rfl, rfl⟩, trivial⟩
   ·have g12 : ¬ ((foe : Int) < 1) := of_decide_eq_false h12
    refine sem_skip (seqK_n (sem_seq (sem_region rfl (step_r rfl rfl trivial (step_r rfl rfl trivial (step_r rfl rfl trivial (step_r (v := (.agg [_, _, _])) rfl rfl trivial (step_n (o := .box [_, _, _]) (nx' := 2) rfl rfl rfl trivial ?_))))))))
    refine step_storeB (H' := [(1, .box [_, _, _]), (0, _)]) rfl rfl rfl rfl rfl rfl (.inl rfl) rfl ?_
    refine step_nil (seqK_n (sem_seq (sem_region rfl (step_r rfl rfl trivial (step_nil (seqK_n (sem_seq ?_)))))))
    refine sem_cutW (fun k_0 : Int => (⟨[(0, .pv (.slc l.length l_f (l.flatMap encGLock))), (3, I until_), (12, .ptr 0 0), (13, I k_0)], [(0, .box [.pv (.str name), I foe, I until_])], 1, [], 88, 0⟩ : St)) (fun k_0 : Int => addLR_L0 l name foe until_ (l.length + 1) 0 = k_0 ∧ (0 ≤ k_0 ∧ k_0 ≤ l.length)) ?_ ?_
    ·refine sem_block ?_
     refine sem_loopT (fun w_ : Nat × Int => match w_ with | (f0, k0') => (⟨[(0, .pv (.slc l.length l_f (l.flatMap encGLock))), (3, I until_), (12, .ptr 0 0), (13, I (k0'))], [(0, .box [.pv (.str name), I foe, I until_])], 1, [], 88, 0⟩ : St)) (fun w_ : Nat × Int => match w_ with | (f0, k0') => addLR_L0 l name foe until_ f0 (k0') = addLR_L0 l name foe until_ (l.length + 1) 0 ∧ l.length - k0'.toNat < f0 ∧ 0 ≤ k0' ∧ k0' ≤ l.length) (fun w_ : Nat × Int => match w_ with | (f0, k0') => f0) (l.length + 1, 0) (⟨rfl, (by first | omega | (simp; omega)), by first | omega | simp | (simp; omega)⟩) ?_ (fun w_ hh_ => ?_)
     ·exact (Trans.ren [(0, 1), (1, 0)] (by decide +kernel) (by decide +kernel) rfl ⟨⟨rfl, rfl⟩, ⟨rfl, rfl⟩, ⟨rfl, rfl⟩, ⟨rfl, rfl⟩, trivial⟩ ⟨⟨rfl, rfl, rfl⟩, trivial⟩ (by decide))
     obtain ⟨f0, k0'⟩ := w_
     obtain ⟨hI0, hb0, hv0⟩ := hh_
     obtain ⟨f0, rfl⟩ : ∃ z_, f0 = z_ + 1 := ⟨f0 - 1, by omega⟩
     show Walks Tryd.prog _ _ (⟨[(0, .pv (.slc l.length l_f (l.flatMap encGLock))), (3, I until_), (12, .ptr 0 0), (13, I (k0'))], [(0, .box [.pv (.str name), I foe, I until_])], 1, [], 88, 0⟩ : St)
     refine sem_seq (sem_seq ?_)
     refine sem_drawn rfl (by decide +kernel) rfl ?_
     refine step_r rfl rfl trivial (step_r rfl rfl trivial (step_r rfl rfl trivial (step_bin rfl rfl rfl rfl rfl trivial (step_r rfl rfl trivial ?_))))
     refine step_gs rfl (fun h18 => ?_) (fun h18 => ?_)
     ·have g18 : (k0' : Int) < l.length := of_decide_eq_true h18
      refine step_g1 rfl h18 (step_r rfl rfl trivial (step_g1 rfl h18 (step_r rfl rfl trivial (step_g1 rfl h18 ?_))))
      have jk19 : (k0').toNat < l.length := by first | assumption | omega | (simp only [List.length_set, List.length_append]; omega) | (simp only [IntKind.wrap_i64] at *; omega) | (simp; omega) | simp_all
      refine step_idxS' (k := (k0').toNat) rfl rfl (Int.toNat_of_nonneg (by first | omega | (simp only [IntKind.wrap_i64]; omega) | (simp only [IntKind.wrap_i64] at *; omega) | (simp; omega))).symm rfl rfl jk19 (flat_ne (s := 3) (enc := encGLock) (fun _ => rfl) (by decide) jk19) rfl ?_
      refine step_g1 rfl h18 (step_load_row rfl rfl rfl (flat_lt (s := 3) (enc := encGLock) (fun _ => rfl) jk19) (flat_take (s := 3) (enc := encGLock) (fun _ => rfl) (get_getD jk19)) rfl (step_g1 rfl h18 (step_r (v := (.agg [_, _, _])) rfl rfl (Nat.le_of_ble_eq_true rfl) (step_g1 rfl h18 (step_call rfl rfl rfl rfl (aheadR_ok (l.getD ((k0').toNat) default) (⟨name, foe, until_⟩ : GLock)) rfl rfl rfl (step_pickT rfl h18 rfl rfl (step_nil (seqK_n ?_))))))))
      refine sem_cond rfl (fun h21 => ?_) (fun h21 => ?_)
      ·have g21 : aheadR (l.getD ((k0').toNat) default) (⟨name, foe, until_⟩ : GLock) = true := h21
       refine sem_skip (seqK_n (sem_block (sem_region rfl (step_r rfl rfl trivial (step_bin rfl rfl rfl rfl rfl trivial (step_r rfl rfl trivial (step_nil (blkK_n ?_))))))))
       have e23 : addLR_L0 l name foe until_ (f0 + 1) (k0') = addLR_L0 l name foe until_ f0 (IntKind.i64.wrap ((k0') + 1)) := by
        rewrite [addLR_L0]
        try dsimp only
        rewrite [if_pos g18, if_pos g21]
        all_goals rfl
       exact lup_againT (f0, (IntKind.i64.wrap ((k0') + 1))) ⟨e23.symm.trans hI0, ((by simp only [IntKind.wrap_i64]; omega)), (by simp only [IntKind.wrap_i64]; omega)⟩ (Nat.lt_succ_self _) (Trans.ren [] (by decide +kernel) (by decide +kernel) rfl ⟨⟨rfl, rfl⟩, ⟨rfl, rfl⟩, ⟨rfl, rfl⟩, ⟨rfl, rfl⟩, trivial⟩ ⟨⟨rfl, rfl, rfl⟩, trivial⟩ (by decide))
      ·have g21 : ¬ (aheadR (l.getD ((k0').toNat) default) (⟨name, foe, until_⟩ : GLock) = true) := boo_f h21
       refine sem_exit (seqK_e (lupK_e (blkK_t rfl ?_)))
       have e24 : addLR_L0 l name foe until_ (l.length + 1) 0 = (k0') := by
        rewrite [← hI0]
        rewrite [addLR_L0]
        try dsimp only
        rewrite [if_pos g18, if_neg g21]
        all_goals rfl
       exact cutW_n (k0') ⟨e24, by first | assumption | omega | (simp; omega) | simp_all | grind⟩ (Trans.ren [] (by decide +kernel) (by decide +kernel) rfl ⟨⟨rfl, rfl⟩, ⟨rfl, rfl⟩, ⟨rfl, rfl⟩, ⟨rfl, rfl⟩, trivial⟩ ⟨⟨rfl, rfl, rfl⟩, trivial⟩ (by decide))
     ·have g18 : ¬ ((k0' : Int) < l.length) := of_decide_eq_false h18
      refine step_g0 rfl h18 rfl (step_g0 rfl h18 rfl (step_g0 rfl h18 rfl (step_g0 rfl h18 rfl (step_g0 rfl h18 rfl (step_g0 rfl h18 rfl (step_pickF rfl h18 rfl rfl (step_nil (seqK_n (sem_condF rfl (sem_exit (seqK_e ?_)))))))))))
      refine lupK_e (blkK_t rfl ?_)
      have e25 : addLR_L0 l name foe until_ (l.length + 1) 0 = (k0') := by
       rewrite [← hI0]
       rewrite [addLR_L0]
       try dsimp only
       rewrite [if_neg g18]
       all_goals rfl
      exact cutW_n (k0') ⟨e25, by first | assumption | omega | (simp; omega) | simp_all | grind⟩ (Trans.ren [] (by decide +kernel) (by decide +kernel) rfl ⟨⟨rfl, rfl⟩, ⟨rfl, rfl⟩, ⟨rfl, rfl⟩, ⟨rfl, rfl⟩, trivial⟩ ⟨⟨rfl, rfl, rfl⟩, trivial⟩ (by decide))
    ·rintro k_0 ⟨(hJ15 : addLR_L0 l name foe until_ (l.length + 1) 0 = k_0), hE0⟩
     show seqK _ _ _ .normal (⟨[(0, .pv (.slc l.length l_f (l.flatMap encGLock))), (3, I until_), (12, .ptr 0 0), (13, I k_0)], [(0, .box [.pv (.str name), I foe, I until_])], 1, [], 88, 0⟩ : St)
     refine seqK_n (sem_seq (sem_region rfl (step_r rfl rfl trivial ?_)))
     refine step_callN (out' := .ref 1 _ _ _) (H' := [(1, .row _ _ _), (0, _)]) (nx' := 2) rfl rfl rfl rfl rfl rfl rfl (by (repeat' apply And.intro) <;> first | trivial | rfl | exact flat_len (fun _ => rfl) _ | exact encI_len _ | exact encS_len _ | exact Nat.le_of_ble_eq_true rfl | assumption) (copyR_ok l false (by first | omega | (simp only [IntKind.wrap_i64]; omega) | (simp only [IntKind.wrap_i64] at *; omega) | (simp; omega))) rfl rfl rfl rfl ?_
     have p26 := copyR_len l
     refine step_r rfl rfl trivial (step_nil (seqK_n (sem_seq ?_)))
     refine sem_cutW (fun w_ : Unit => match w_ with | () => (⟨[(0, .pv (.slc l.length l_f (l.flatMap encGLock))), (12, .ptr 0 0), (13, I k_0)], [(0, .box [.pv (.str name), I foe, I until_])], 1, [], 88, 0⟩ : St)) (fun w_ => addLR_J49 l name foe until_ k_0 = .inr w_) ?_ ?_
     ·refine sem_seq ?_
      refine sem_drawn rfl (by decide +kernel) rfl ?_
      refine step_r rfl rfl trivial (step_r rfl rfl trivial (step_r rfl rfl trivial (step_bin rfl rfl rfl rfl rfl trivial (step_r rfl rfl trivial ?_))))
      refine step_gs rfl (fun h30 => ?_) (fun h30 => ?_)
      ·have g30 : (k_0 : Int) < l.length := of_decide_eq_true h30
       refine step_g1 rfl h30 (step_r (v := (.agg [_, _, _])) rfl rfl (Nat.le_of_ble_eq_true rfl) (step_g1 rfl h30 (step_r rfl rfl trivial (step_g1 rfl h30 (step_r rfl rfl trivial (step_g1 rfl h30 ?_))))))
       have jk31 : k_0.toNat < l.length := by first | assumption | omega | (simp only [List.length_set, List.length_append]; omega) | (simp only [IntKind.wrap_i64] at *; omega) | (simp; omega) | simp_all
       refine step_idxS' (k := k_0.toNat) rfl rfl (Int.toNat_of_nonneg (by first | omega | (simp only [IntKind.wrap_i64]; omega) | (simp only [IntKind.wrap_i64] at *; omega) | (simp; omega))).symm rfl rfl jk31 (flat_ne (s := 3) (enc := encGLock) (fun _ => rfl) (by decide) jk31) rfl ?_
       refine step_g1 rfl h30 (step_load_row rfl rfl rfl (flat_lt (s := 3) (enc := encGLock) (fun _ => rfl) jk31) (flat_take (s := 3) (enc := encGLock) (fun _ => rfl) (get_getD jk31)) rfl (step_g1 rfl h30 (step_call rfl rfl rfl rfl (aheadR_ok (⟨name, foe, until_⟩ : GLock) (l.getD k_0.toNat default)) rfl rfl rfl (step_g1 rfl h30 (step_r rfl rfl trivial (step_pickT rfl h30 rfl rfl (step_nil (seqK_n ?_))))))))
       refine sem_cond rfl (fun h33 => ?_) (fun h33 => ?_)
       ·have g33 : ¬ (aheadR (⟨name, foe, until_⟩ : GLock) (l.getD k_0.toNat default) = true) := boo_f (not_t h33)
        refine sem_seq (sem_region rfl (step_r rfl rfl trivial (step_r rfl rfl trivial (step_r rfl rfl trivial (step_r rfl rfl trivial ?_)))))
        refine step_idxS' (k := k_0.toNat) rfl rfl (Int.toNat_of_nonneg (by first | omega | (simp only [IntKind.wrap_i64]; omega) | (simp only [IntKind.wrap_i64] at *; omega) | (simp; omega))).symm rfl rfl jk31 (flat_ne (s := 3) (enc := encGLock) (fun _ => rfl) (by decide) jk31) rfl ?_
        refine step_r rfl rfl (by decide) (step_load_one rfl rfl rfl (flat_get (s := 3) (enc := encGLock) (fun _ => rfl) (get_getD jk31) (o := 2) rfl (by decide)) rfl (step_r rfl rfl trivial ?_))
        refine step_max rfl rfl rfl ?_
        have jk35 : k_0.toNat < (copyR l).length := by first | assumption | omega | (simp only [List.length_set, List.length_append]; omega) | (simp only [IntKind.wrap_i64] at *; omega) | (simp; omega) | simp_all
        refine step_idxR' (k := k_0.toNat) rfl rfl (Int.toNat_of_nonneg (by first | omega | (simp only [IntKind.wrap_i64]; omega) | (simp only [IntKind.wrap_i64] at *; omega) | (simp; omega))).symm rfl rfl jk35 rfl ?_
        refine step_r rfl rfl (by decide) ?_
        refine step_storeR rfl rfl rfl rfl (by first | decide | (have := flat_lt (s := 3) (enc := encGLock) (fun _ => rfl) jk35; show k_0.toNat * 3 + 2 < _; omega)) (flat_set (enc := encGLock) (s := 3) (y := { ((copyR l).getD k_0.toNat default) with Until := (max ((l.getD k_0.toNat default).Until) until_) }) (fun _ => rfl) (get_getD jk35) (by decide) rfl) (.inl rfl) rfl ?_
        refine step_nil (seqK_n (sem_seq (sem_region rfl (step_r rfl rfl trivial (step_r rfl rfl trivial (step_r rfl rfl trivial (step_nil (seqK_n (sem_ret (cutW_r (seqK_r ?_)))))))))))
        have e36 : addLR_J49 l name foe until_ k_0 = .inl (((copyR l).set k_0.toNat { ((copyR l).getD k_0.toNat default) with Until := (max ((l.getD k_0.toNat default).Until) until_) }), 0) := by
         unfold addLR_J49
         try dsimp only
         rewrite [if_pos g30, if_neg g33]
         all_goals rfl
        have e37 : addLR l name foe until_ = (((copyR l).set k_0.toNat { ((copyR l).getD k_0.toNat default) with Until := (max ((l.getD k_0.toNat default).Until) until_) }), 0) := by
         unfold addLR
         try dsimp only
         rewrite [if_pos g5, if_pos g8, if_neg g12, hJ15]
         try dsimp only
         rewrite [e36]
         try dsimp only
         all_goals rfl
        rw [e37]
        try simp only [List.length_set]
        exact answersGR [] [1] rfl ⟨trivial, trivial, trivial⟩ rfl (by (repeat' apply And.intro) <;> first | trivial | rfl | exact flat_len (fun _ => rfl) _ | exact encI_len _ | assumption) (rfl) rfl rfl rfl (by decide) rfl rfl ⟨⟨rfl, rfl⟩, trivial⟩
       ·have g33 : aheadR (⟨name, foe, until_⟩ : GLock) (l.getD k_0.toNat default) = true := (not_f h33)
        refine sem_skip ?_
        have e38 : addLR_J49 l name foe until_ k_0 = .inr () := by
         unfold addLR_J49
         try dsimp only
         rewrite [if_pos g30, if_pos g33]
         all_goals rfl
        exact cutW_n () e38 (Trans.ren [] (by decide +kernel) (by decide +kernel) rfl ⟨⟨rfl, rfl⟩, ⟨rfl, rfl⟩, ⟨rfl, rfl⟩, trivial⟩ ⟨⟨rfl, rfl, rfl⟩, trivial⟩ (by decide))
      ·have g30 : ¬ ((k_0 : Int) < l.length) := of_decide_eq_false h30
       refine step_g0 rfl h30 rfl (step_g0 rfl h30 rfl (step_g0 rfl h30 rfl (step_g0 rfl h30 rfl (step_g0 rfl h30 rfl (step_g0 rfl h30 rfl (step_g0 rfl h30 rfl (step_pickF rfl h30 rfl rfl (step_nil (seqK_n (sem_condF rfl (sem_skip ?_)))))))))))
       have e39 : addLR_J49 l name foe until_ k_0 = .inr () := by
        unfold addLR_J49
        try dsimp only
        rewrite [if_neg g30]
        all_goals rfl
       exact cutW_n () e39 (Trans.ren [] (by decide +kernel) (by decide +kernel) rfl ⟨⟨rfl, rfl⟩, ⟨rfl, rfl⟩, ⟨rfl, rfl⟩, trivial⟩ ⟨⟨rfl, rfl, rfl⟩, trivial⟩ (by decide))
     ·rintro ⟨⟩ (hJ27 : addLR_J49 l name foe until_ k_0 = .inr ())
      show seqK _ _ _ .normal (⟨[(0, .pv (.slc l.length l_f (l.flatMap encGLock))), (12, .ptr 0 0), (13, I k_0)], [(0, .box [.pv (.str name), I foe, I until_])], 1, [], 88, 0⟩ : St)
      refine seqK_n (sem_seq (sem_seq (sem_region rfl (step_r rfl rfl trivial (step_r rfl rfl trivial (step_bin rfl rfl rfl rfl rfl trivial (step_nil (seqK_n ?_))))))))
      refine sem_cond rfl (fun h40 => ?_) (fun h40 => ?_)
      ·have g40 : (l.length : Int) ≥ 200 := of_decide_eq_true h40
       refine sem_seq (sem_region rfl (step_n (nx' := 2) rfl rfl rfl trivial (step_r rfl rfl trivial (step_nil (seqK_n (sem_ret (seqK_r ?_)))))))
       have e41 : addLR l name foe until_ = ([], 4) := by
        unfold addLR
        try dsimp only
        rewrite [if_pos g5, if_pos g8, if_neg g12, hJ15]
        try dsimp only
        rewrite [hJ27]
        try dsimp only
        rewrite [if_pos g40]
        all_goals rfl
       rw [e41]
       exact answersGR [] [1] rfl ⟨trivial, trivial, trivial⟩ rfl (by (repeat' apply And.intro) <;> first | trivial | rfl | exact flat_len (fun _ => rfl) _ | exact encI_len _ | assumption) (rfl) rfl rfl rfl (by decide) rfl rfl ⟨⟨rfl, rfl⟩, trivial⟩
      ·have g40 : ¬ ((l.length : Int) ≥ 200) := of_decide_eq_false h40
       refine sem_skip (seqK_n (sem_seq ?_))
       refine sem_drawW rfl (draw_perm [0, 1, 2, 3, 4, 5, 7, 8, 9, 6, 10, 11, 12] (by decide +kernel) (draw_edges [(9, 8), (9, 7), (9, 6)] (by decide +kernel) (draw_walk (by decide +kernel) rfl ?_)))
       refine step_r rfl rfl trivial (step_r rfl rfl trivial ?_)
       refine step_slcTo (k := k_0.toNat) (n' := (l.take k_0.toNat).length) (cs' := (l.take k_0.toNat).flatMap encGLock) rfl rfl (Int.toNat_of_nonneg (by first | omega | (simp only [IntKind.wrap_i64]; omega))).symm rfl rfl (by first | omega | (simp only [IntKind.wrap_i64]; omega) | (simp; omega)) (by rw [List.length_take]; first | omega | (simp only [IntKind.wrap_i64]; omega)) (flat_upto (s := 3) (fun _ => rfl) l k_0.toNat (by first | omega | (simp only [IntKind.wrap_i64]; omega))) rfl ?_
       refine step_callN (out' := .ref 1 _ _ _) (H' := [(1, .row _ _ _), (0, _)]) (nx' := 2) rfl rfl rfl rfl rfl rfl rfl (by (repeat' apply And.intro) <;> first | trivial | rfl | exact flat_len (fun _ => rfl) _ | exact encI_len _ | exact encS_len _ | exact Nat.le_of_ble_eq_true rfl | assumption) (copyR_ok (l.take k_0.toNat) false (by first | omega | (simp only [IntKind.wrap_i64]; omega) | (simp only [IntKind.wrap_i64] at *; omega) | (simp; omega))) rfl rfl rfl rfl ?_
       have p43 := copyR_len (l.take k_0.toNat)
       refine step_r (v := (.agg [_, _, _])) rfl rfl (Nat.le_of_ble_eq_true rfl) (step_n (o := .row _ _ [_, _, _]) (nx' := 3) rfl rfl rfl (by decide) (step_r rfl rfl trivial (step_r rfl rfl trivial ?_)))
       refine step_slcFrom (k := k_0.toNat) (n' := (l.drop k_0.toNat).length) (cs' := (l.drop k_0.toNat).flatMap encGLock) rfl rfl (Int.toNat_of_nonneg (by first | omega | (simp only [IntKind.wrap_i64]; omega))).symm rfl rfl (by first | omega | (simp only [IntKind.wrap_i64]; omega) | (simp; omega)) (List.length_drop ..).symm (flat_from (s := 3) (fun _ => rfl) l k_0.toNat) rfl ?_
       refine step_appendC (m := 1) (new := [_, _, _]) (cs' := ((copyR (l.take k_0.toNat)) ++ [(⟨name, foe, until_⟩ : GLock)]).flatMap encGLock) (n' := ((copyR (l.take k_0.toNat)) ++ [(⟨name, foe, until_⟩ : GLock)]).length) (H' := [(2, .row _ _ _), (1, .row _ _ _), (0, .box [_, _, _])]) rfl rfl rfl (rfl) rfl rfl rfl rfl rfl rfl (flat_len (s := 3) (enc := encGLock) (fun _ => rfl) (copyR (l.take k_0.toNat))) (rfl) (by first | decide | (unfold maxGrow; omega) | (unfold maxGrow; simp; omega) | (unfold maxGrow; simp only [List.length_append, List.length_take, List.length_drop, List.length_cons, List.length_nil, IntKind.wrap_i64] at *; omega)) (len_snoc (copyR (l.take k_0.toNat)) _) (((flat_snoc (enc := encGLock) (l := (copyR (l.take k_0.toNat))) (⟨name, foe, until_⟩ : GLock))).symm) (.inr (by decide +kernel)) rfl rfl (.keep rfl (.keep rfl (.keep rfl .nil))) (.keep rfl (.keep rfl (.keep rfl (.keep rfl (.keep rfl (.lose (v' := .undef) rfl (.keep rfl (.keep rfl (.keep rfl (.keep rfl (.keep rfl (.keep rfl (.keep rfl (.keep rfl (.keep rfl .nil))))))))))))))) ?_
       refine step_appendC (m := (l.drop k_0.toNat).length) (new := (l.drop k_0.toNat).flatMap encGLock) (cs' := (((copyR (l.take k_0.toNat)) ++ [(⟨name, foe, until_⟩ : GLock)]) ++ (l.drop k_0.toNat)).flatMap encGLock) (n' := (((copyR (l.take k_0.toNat)) ++ [(⟨name, foe, until_⟩ : GLock)]) ++ (l.drop k_0.toNat)).length) (H' := [(2, .row _ _ _), (1, .row _ _ _), (0, .box [_, _, _])]) rfl rfl rfl (rfl) rfl rfl rfl rfl rfl rfl (flat_len (s := 3) (enc := encGLock) (fun _ => rfl) ((copyR (l.take k_0.toNat)) ++ [(⟨name, foe, until_⟩ : GLock)])) (flat_len (s := 3) (enc := encGLock) (fun _ => rfl) (l.drop k_0.toNat)) (by first | decide | (unfold maxGrow; omega) | (unfold maxGrow; simp; omega) | (unfold maxGrow; simp only [List.length_append, List.length_take, List.length_drop, List.length_cons, List.length_nil, IntKind.wrap_i64] at *; omega)) (len_append ((copyR (l.take k_0.toNat)) ++ [(⟨name, foe, until_⟩ : GLock)]) (l.drop k_0.toNat)) (flat_append encGLock _ _) (.inr (by decide +kernel)) rfl rfl (.keep rfl (.keep rfl (.keep rfl .nil))) (.lose (v' := .undef) rfl (.keep rfl (.keep rfl (.keep rfl (.keep rfl (.keep rfl (.keep rfl (.keep rfl (.keep rfl (.keep rfl (.keep rfl (.keep rfl (.keep rfl (.keep rfl (.keep rfl (.keep rfl .nil)))))))))))))))) ?_
       refine step_r rfl rfl trivial (step_r rfl rfl trivial (step_nil (seqK_n (sem_ret ?_))))
       have e44 : addLR l name foe until_ = ((((copyR (l.take k_0.toNat)) ++ [(⟨name, foe, until_⟩ : GLock)]) ++ (l.drop k_0.toNat)), 0) := by
        unfold addLR
        try dsimp only
        rewrite [if_pos g5, if_pos g8, if_neg g12, hJ15]
        try dsimp only
        rewrite [hJ27]
        try dsimp only
        rewrite [if_neg g40]
        all_goals rfl
       rw [e44]
       exact answersGR [] [1] rfl ⟨trivial, trivial, trivial⟩ rfl (by (repeat' apply And.intro) <;> first | trivial | rfl | exact flat_len (fun _ => rfl) _ | exact encI_len _ | assumption) (rfl) rfl rfl rfl (by decide) rfl rfl ⟨⟨rfl, rfl⟩, trivial⟩

theorem addLR_L0_k (l : List GLock) (name : List UInt8) (foe u : Int) (hl : l.length ≤ 16777000) : ∀ (n : Nat) (k : Int), 0 ≤ k → k ≤ l.length → (l.length - k.toNat) < n → 0 ≤ addLR_L0 l name foe u n k ∧ addLR_L0 l name foe u n k ≤ l.length
  | 0, k, _, _, h => by omega
  | n + 1, k, h0, h1, h2 => by
    rw [addLR_L0]
    split
    · split
      · refine addLR_L0_k l name foe u hl n _ ?_ ?_ ?_ <;> simp only [IntKind.wrap_i64] <;> omega
      · exact ⟨h0, h1⟩
    · exact ⟨h0, h1⟩
theorem addLR_len (l : List GLock) (name : List UInt8) (foe u : Int) (hl : l.length ≤ 16777000) : (addLR l name foe u).1.length ≤ l.length + 1 := by
  unfold addLR
  split
  case isFalse => exact Nat.zero_le _
  split
  case isFalse => exact Nat.zero_le _
  split
  · exact Nat.zero_le _
  dsimp only
  split
  · rename_i r hr
    unfold addLR_J49 at hr
    split at hr
    · split at hr
      · cases hr
      · cases hr; simp [copyR]
    · cases hr
  · split
    · exact Nat.zero_le _
    · simp only [copyR, List.length_append, List.length_take, List.length_drop, List.length_cons, List.length_nil]; omega
theorem addLR_names {l : List GLock} {name : List UInt8} {foe u : Int} (hN : ∀ z ∈ l, z.Name.length ≤ 9223372036854775807) (hn : name.length ≤ 9223372036854775807) : ∀ z ∈ (addLR l name foe u).1, z.Name.length ≤ 9223372036854775807 := by
  unfold addLR
  split
  case isFalse => intro z hz; cases hz
  split
  case isFalse => intro z hz; cases hz
  split
  · intro z hz; cases hz
  dsimp only
  split
  · rename_i r hr
    unfold addLR_J49 at hr
    split at hr
    · rename_i h0
      split at hr
      · cases hr
      · cases hr
        intro z hz
        rcases List.mem_or_eq_of_mem_set hz with hz | rfl
        · exact hN z hz
        · show (l.getD _ default).Name.length ≤ _
          by_cases hk : (addLR_L0 l name foe u (l.length + 1) 0).toNat < l.length
          · exact hN _ (getD_mem hk)
          · rw [List.getD_eq_getElem?_getD, List.getElem?_eq_none (by omega)]; exact Nat.zero_le _
    · cases hr
  · split
    · intro z hz; cases hz
    · intro z hz
      simp only [copyR, List.mem_append, List.mem_cons, List.mem_nil_iff, or_false] at hz
      rcases hz with (hz | rfl) | hz
      · exact hN z (List.mem_of_mem_take hz)
      · exact hn
      · exact hN z (List.mem_of_mem_drop hz)

def joinLR_L0 (b : List GLock) : Nat → Nat → (List GLock) → Sum ((List GLock) × Int) (List GLock)
  | 0, k0, out0 => .inr out0
  | n_ + 1, k0, out0 => if ((addLR out0 ((b.getD k0 default).Name) ((b.getD k0 default).Foe) ((b.getD k0 default).Until)).2 : Int) = 0 then joinLR_L0 b n_ (k0 + 1) ((addLR out0 ((b.getD k0 default).Name) ((b.getD k0 default).Foe) ((b.getD k0 default).Until)).1) else .inl ([], (addLR out0 ((b.getD k0 default).Name) ((b.getD k0 default).Foe) ((b.getD k0 default).Until)).2)
def joinLR (a : List GLock) (b : List GLock) : (List GLock) × Int :=
  if rightR a = true then (if rightR b = true then (match joinLR_L0 b (b.length - 0) 0 (copyR a) with
    | .inl r_ => r_
    | .inr out_0 => (out_0, 0)) else ([], 1)) else ([], 1)
theorem joinLR_ok (a : List GLock) (a_f : Bool) (b : List GLock) (b_f : Bool) (ha : a.length ≤ 16700000) (hb : b.length ≤ 70000) (hNa : ∀ z ∈ a, z.Name.length ≤ 9223372036854775807) (hNb : ∀ z ∈ b, z.Name.length ≤ 9223372036854775807) : Ok Tryd.prog 26 [.pv (.slc a.length a_f (a.flatMap encGLock)), .pv (.slc b.length b_f (b.flatMap encGLock))] [] (.tup [.ref 0 3 0 (joinLR a b).1.length, I (joinLR a b).2]) [.row 24 3 ((joinLR a b).1.flatMap encGLock)] [] := by
 refine Ok.len fun hlen => ?_
 have hl_a : a.length ≤ maxLen := hlen _ (by simp [lensL, lens, lensP])
 have hl_b : b.length ≤ maxLen := hlen _ (by simp [lensL, lens, lensP])
 unfold maxLen at hl_a hl_b
 refine ok_of_sem Tryd.func26 rfl ?_
 show Walks Tryd.prog _ _ ⟨[(0, .pv (.slc a.length a_f (a.flatMap encGLock))), (1, .pv (.slc b.length b_f (b.flatMap encGLock)))], [], 0, [], 55, 0⟩
 refine sem_seq (sem_region rfl (step_n (nx' := 1) rfl rfl rfl trivial (step_r rfl rfl trivial (step_nil (seqK_n (sem_seq (sem_region rfl (step_r rfl rfl trivial (step_call rfl rfl rfl rfl (rightR_ok a a_f (by first | assumption | exact hNa | exact hNb)) rfl rfl rfl (step_r rfl rfl trivial (step_nil ?_)))))))))))
 refine seqK_n (sem_seq (sem_region rfl (step_r rfl rfl trivial (step_call rfl rfl rfl rfl (rightR_ok b b_f (by first | assumption | exact hNa | exact hNb)) rfl rfl rfl (step_r rfl rfl trivial (step_nil (seqK_n (sem_seq (sem_seq (sem_region rfl (step_r rfl rfl trivial ?_)))))))))))
 refine step_r rfl rfl trivial (step_r rfl rfl trivial ?_)
 refine step_gs rfl (fun h4 => ?_) (fun h4 => ?_)
 ·have g4 : ¬ (rightR a = true) := boo_f (not_t h4)
  refine step_g0 rfl h4 rfl (step_g0 rfl h4 rfl (step_pickT rfl h4 rfl rfl (step_nil (seqK_n (sem_condT rfl (sem_seq (sem_region rfl (step_n (nx' := 2) rfl rfl rfl trivial (step_r rfl rfl trivial (step_nil (seqK_n ?_)))))))))))
  refine sem_ret (seqK_r ?_)
  have e5 : joinLR a b = ([], 1) := by
   unfold joinLR
   try dsimp only
   rewrite [if_neg g4]
   all_goals rfl
  rw [e5]
  exact answersGR [] [1] rfl ⟨trivial, trivial, trivial⟩ rfl (by (repeat' apply And.intro) <;> first | trivial | rfl | exact flat_len (fun _ => rfl) _ | exact encI_len _ | assumption) (rfl) rfl rfl rfl (by decide) rfl rfl ⟨⟨rfl, rfl⟩, trivial⟩
 ·have g4 : rightR a = true := (not_f h4)
  refine step_g1 rfl h4 (step_r rfl rfl trivial (step_g1 rfl h4 (step_r rfl rfl trivial (step_pickF rfl h4 rfl rfl (step_nil (seqK_n ?_))))))
  refine sem_cond rfl (fun h7 => ?_) (fun h7 => ?_)
  ·have g7 : ¬ (rightR b = true) := boo_f (not_t h7)
   refine sem_seq (sem_region rfl (step_n (nx' := 2) rfl rfl rfl trivial (step_r rfl rfl trivial (step_nil (seqK_n (sem_ret (seqK_r ?_)))))))
   have e8 : joinLR a b = ([], 1) := by
    unfold joinLR
    try dsimp only
    rewrite [if_pos g4, if_neg g7]
    all_goals rfl
   rw [e8]
   exact answersGR [] [1] rfl ⟨trivial, trivial, trivial⟩ rfl (by (repeat' apply And.intro) <;> first | trivial | rfl | exact flat_len (fun _ => rfl) _ | exact encI_len _ | assumption) (rfl) rfl rfl rfl (by decide) rfl rfl ⟨⟨rfl, rfl⟩, trivial⟩
  ·have g7 : rightR b = true := (not_f h7)
   refine sem_skip (seqK_n (sem_seq (sem_region rfl (step_r rfl rfl trivial ?_))))
   refine step_callN (out' := .ref 1 _ _ _) (H' := [(1, .row _ _ _), (0, _)]) (nx' := 2) rfl rfl rfl rfl rfl rfl rfl (by (repeat' apply And.intro) <;> first | trivial | rfl | exact flat_len (fun _ => rfl) _ | exact encI_len _ | exact encS_len _ | exact Nat.le_of_ble_eq_true rfl | assumption) (copyR_ok a false (by first | omega | (simp only [IntKind.wrap_i64]; omega) | (simp only [IntKind.wrap_i64] at *; omega) | (simp; omega))) rfl rfl rfl rfl ?_
   have p9 := copyR_len a
   refine step_r rfl rfl trivial (step_nil (seqK_n (sem_seq (sem_seq (sem_region rfl (step_r rfl rfl trivial (step_nil (seqK_n ?_))))))))
   refine sem_cutW (fun out_0 : List GLock => (⟨[(8, .ref 0 3 0 out_0.length)], [(0, .row 24 3 (out_0.flatMap encGLock))], 1, [], 55, 0⟩ : St)) (fun w_ => joinLR_L0 b (b.length - 0) 0 (copyR a) = .inr w_) ?_ ?_
   ·refine sem_block ?_
    refine sem_loopT (fun w_ : Nat × (List GLock) => match w_ with | (k0, out0) => (⟨[(1, .pv (.slc b.length b_f (b.flatMap encGLock))), (8, .ref 0 3 0 out0.length), (9, I k0)], [(0, .row 24 3 (out0.flatMap encGLock))], 1, [], 55, 0⟩ : St)) (fun w_ : Nat × (List GLock) => match w_ with | (k0, out0) => joinLR_L0 b (b.length - k0) k0 out0 = joinLR_L0 b (b.length - 0) 0 (copyR a) ∧ k0 ≤ b.length ∧ out0.length ≤ a.length + k0 ∧ ∀ z ∈ out0, z.Name.length ≤ 9223372036854775807) (fun w_ : Nat × (List GLock) => match w_ with | (k0, out0) => b.length - k0) (0, (copyR a)) (⟨rfl, (by first | omega | (simp; omega)), ⟨by omega, hNa⟩⟩) ?_ (fun w_ hh_ => ?_)
    ·exact (Trans.ren [(0, 1), (1, 0)] (by decide +kernel) (by decide +kernel) rfl ⟨⟨rfl, rfl⟩, ⟨rfl, rfl⟩, ⟨rfl, rfl⟩, trivial⟩ ⟨⟨rfl, rfl, rfl⟩, trivial⟩ (by decide))
    obtain ⟨k0, out0⟩ := w_
    obtain ⟨hI0, hb0, hv0⟩ := hh_
    show Walks Tryd.prog _ _ (⟨[(1, .pv (.slc b.length b_f (b.flatMap encGLock))), (8, .ref 0 3 0 out0.length), (9, I k0)], [(0, .row 24 3 (out0.flatMap encGLock))], 1, [], 55, 0⟩ : St)
    refine sem_seq (sem_seq (sem_region rfl (step_r rfl rfl trivial (step_r rfl rfl trivial (step_r rfl rfl trivial (step_bin rfl rfl rfl rfl rfl trivial (step_nil (seqK_n ?_))))))))
    refine sem_cond rfl (fun h12 => ?_) (fun h12 => ?_)
    ·have g12 : (k0 : Int) < b.length := of_decide_eq_true h12
     have hm0 : b.length - k0 = (b.length - (k0 + 1)) + 1 := by omega
     refine sem_skip (seqK_n (sem_seq (sem_block (sem_seq ?_))))
     refine sem_drawn rfl (by decide +kernel) rfl ?_
     refine step_r rfl rfl trivial (step_r rfl rfl trivial (step_r rfl rfl trivial ?_))
     have jk13 : k0 < b.length := by first | assumption | omega | (simp only [List.length_set, List.length_append]; omega) | (simp only [IntKind.wrap_i64] at *; omega) | (simp; omega) | simp_all
     refine step_idxS (k := k0) rfl rfl rfl rfl jk13 (flat_ne (s := 3) (enc := encGLock) (fun _ => rfl) (by decide) jk13) rfl (step_r rfl rfl (by decide) (step_load_one rfl rfl rfl (flat_get (s := 3) (enc := encGLock) (fun _ => rfl) (get_getD jk13) (o := 0) rfl (by decide)) rfl (step_r rfl rfl trivial (step_r rfl rfl trivial (step_idxS (k := k0) rfl rfl rfl rfl jk13 (flat_ne (s := 3) (enc := encGLock) (fun _ => rfl) (by decide) jk13) rfl (step_r rfl rfl (by decide) (step_load_one rfl rfl rfl (flat_get (s := 3) (enc := encGLock) (fun _ => rfl) (get_getD jk13) (o := 1) rfl (by decide)) rfl (step_r rfl rfl trivial (step_r rfl rfl trivial (step_idxS (k := k0) rfl rfl rfl rfl jk13 (flat_ne (s := 3) (enc := encGLock) (fun _ => rfl) (by decide) jk13) rfl (step_r rfl rfl (by decide) ?_)))))))))))
     refine step_load_one rfl rfl rfl (flat_get (s := 3) (enc := encGLock) (fun _ => rfl) (get_getD jk13) (o := 2) rfl (by decide)) rfl ?_
     refine step_callJ (Hin := [.row _ _ _]) (out' := .tup [.ref 1 _ _ _, _]) (H' := [(1, .row _ _ _), (0, _)]) (nx' := 2) [0] rfl rfl rfl rfl rfl rfl rfl rfl rfl (by (repeat' apply And.intro) <;> first | trivial | rfl | exact flat_len (s := 3) (enc := encGLock) (fun _ => rfl) _ | exact flat_len (fun _ => rfl) _ | exact encI_len _ | exact encS_len _ | exact Nat.le_of_ble_eq_true rfl | assumption) (addLR_ok out0 false ((b.getD k0 default).Name) ((b.getD k0 default).Foe) ((b.getD k0 default).Until) (by first | omega | (simp only [IntKind.wrap_i64]; omega) | (simp only [IntKind.wrap_i64] at *; omega) | (simp; omega)) (by first | assumption | exact hN | exact hv0.2) (by first | assumption | omega | exact hN _ (List.mem_of_getElem? (by assumption)) | exact hN _ (getD_mem (by first | assumption | omega)) | exact hNb _ (List.mem_of_getElem? (by assumption)) | exact hNb _ (getD_mem (by first | assumption | omega)) | (simp only [IntKind.wrap_i64] at *; omega) | (simp; omega))) rfl (by decide) rfl rfl ⟨encGLock_solid, trivial⟩ rfl rfl rfl rfl ?_
     have p14 := addLR_len out0 ((b.getD k0 default).Name) ((b.getD k0 default).Foe) ((b.getD k0 default).Until) (by first | omega | (simp only [IntKind.wrap_i64]; omega) | (simp only [IntKind.wrap_i64] at *; omega) | (simp; omega))
     have p15 := addLR_names (l := out0) (name := ((b.getD k0 default).Name)) (foe := ((b.getD k0 default).Foe)) (u := ((b.getD k0 default).Until)) (by first | assumption | exact hN | exact hNa | exact hv0.2) (by first | assumption | omega | exact hN _ (List.mem_of_getElem? (by assumption)) | exact hN _ (getD_mem (by first | assumption | omega)) | exact hNb _ (List.mem_of_getElem? (by assumption)) | exact hNb _ (getD_mem (by first | assumption | omega)) | (simp only [IntKind.wrap_i64] at *; omega) | (simp; omega))
     refine step_r rfl rfl trivial (step_r rfl rfl trivial (step_r rfl rfl trivial (step_r rfl rfl trivial (step_r rfl rfl trivial (step_nil (seqK_n (sem_seq (sem_seq (sem_region rfl (step_r rfl rfl trivial (step_bin rfl rfl rfl rfl rfl trivial ?_)))))))))))
     refine step_nil (seqK_n ?_)
     refine sem_cond rfl (fun h17 => ?_) (fun h17 => ?_)
     ·have g17 : ¬ (((addLR out0 ((b.getD k0 default).Name) ((b.getD k0 default).Foe) ((b.getD k0 default).Until)).2 : Int) = 0) := bne_t h17
      refine sem_seq (sem_region rfl (step_r rfl rfl trivial (step_n (nx' := 3) rfl rfl rfl trivial (step_r rfl rfl trivial (step_nil (seqK_n (sem_ret (seqK_r (blkK_r (seqK_r (lupK_r ?_)))))))))))
      refine blkK_r (cutW_r (seqK_r ?_))
      have e18 : joinLR_L0 b (b.length - 0) 0 (copyR a) = .inl ([], (addLR out0 ((b.getD k0 default).Name) ((b.getD k0 default).Foe) ((b.getD k0 default).Until)).2) := by
       rewrite [← hI0, hm0]
       rewrite [joinLR_L0]
       try dsimp only
       rewrite [if_neg g17]
       all_goals rfl
      have e19 : joinLR a b = ([], (addLR out0 ((b.getD k0 default).Name) ((b.getD k0 default).Foe) ((b.getD k0 default).Until)).2) := by
       unfold joinLR
       try dsimp only
       rewrite [if_pos g4, if_pos g7, e18]
       try dsimp only
       all_goals rfl
      rw [e19]
      exact answersGR [] [2] rfl ⟨trivial, trivial, trivial⟩ rfl (by (repeat' apply And.intro) <;> first | trivial | rfl | exact flat_len (fun _ => rfl) _ | exact encI_len _ | assumption) (rfl) rfl rfl rfl (by decide) rfl rfl ⟨⟨rfl, rfl⟩, trivial⟩
     ·have g17 : ((addLR out0 ((b.getD k0 default).Name) ((b.getD k0 default).Foe) ((b.getD k0 default).Until)).2 : Int) = 0 := bne_f h17
      refine sem_skip (seqK_n (sem_region rfl (step_r rfl rfl trivial (step_r rfl rfl trivial (step_nil (blkK_n (seqK_n (sem_region rfl (step_r rfl rfl trivial (step_bin rfl rfl rfl rfl rfl trivial (step_r rfl rfl trivial ?_)))))))))))
      refine step_nil ?_
      have e21 : joinLR_L0 b (b.length - k0) k0 out0 = joinLR_L0 b (b.length - (k0 + 1)) (k0 + 1) ((addLR out0 ((b.getD k0 default).Name) ((b.getD k0 default).Foe) ((b.getD k0 default).Until)).1) := by
       rewrite [hm0]
       rewrite [joinLR_L0]
       try dsimp only
       rewrite [if_pos g17]
       all_goals rfl
      exact lup_againT (k0 + 1, (addLR out0 ((b.getD k0 default).Name) ((b.getD k0 default).Foe) ((b.getD k0 default).Until)).1) ⟨e21.symm.trans hI0, (by omega), by first | omega | assumption | (simp only [List.length_append, List.length_cons, List.length_nil, List.length_set]; omega) | (simp; omega) | grind⟩ (by show b.length - (k0 + 1) < b.length - k0; omega) (Trans.ren [(0, 1), (1, 0)] (by decide +kernel) (by decide +kernel) rfl ⟨⟨rfl, rfl⟩, ⟨rfl, rfl⟩, ⟨congrArg (fun n => some (I n)) (wrapI (k := k0) (by first | omega | (simp; omega))), rfl⟩, trivial⟩ ⟨⟨rfl, rfl, rfl⟩, trivial⟩ (by decide))
    ·have g12 : ¬ ((k0 : Int) < b.length) := of_decide_eq_false h12
     have hm0 : b.length - k0 = 0 := by omega
     refine sem_exit (seqK_e (lupK_e (blkK_t rfl ?_)))
     have e22 : joinLR_L0 b (b.length - 0) 0 (copyR a) = .inr out0 := by
      rewrite [← hI0, hm0]
      rewrite [joinLR_L0]
      try dsimp only
      all_goals rfl
     exact cutW_n out0 e22 (Trans.ren [] (by decide +kernel) (by decide +kernel) rfl ⟨⟨rfl, rfl⟩, trivial⟩ ⟨⟨rfl, rfl, rfl⟩, trivial⟩ (by decide))
   ·rintro out_0 (hJ10 : joinLR_L0 b (b.length - 0) 0 (copyR a) = .inr out_0)
    show seqK _ _ _ .normal (⟨[(8, .ref 0 3 0 out_0.length)], [(0, .row 24 3 (out_0.flatMap encGLock))], 1, [], 55, 0⟩ : St)
    refine seqK_n (sem_seq (sem_region rfl (step_r rfl rfl trivial (step_r rfl rfl trivial (step_r rfl rfl trivial (step_nil (seqK_n (sem_ret ?_))))))))
    have e23 : joinLR a b = (out_0, 0) := by
     unfold joinLR
     try dsimp only
     rewrite [if_pos g4, if_pos g7, hJ10]
     try dsimp only
     all_goals rfl
    rw [e23]
    exact answersGR [] [0] rfl ⟨trivial, trivial, trivial⟩ rfl (by (repeat' apply And.intro) <;> first | trivial | rfl | exact flat_len (fun _ => rfl) _ | exact encI_len _ | assumption) (rfl) rfl rfl rfl (by decide) rfl rfl ⟨⟨rfl, rfl⟩, trivial⟩

def untilLR_L0 (l : List GLock) (name : List UInt8) (foe : Int) (now : Int) : Nat → Nat → Sum (Int × Bool) Unit
  | 0, k0 => .inr ()
  | n_ + 1, k0 => if ((l.getD k0 default).Name) = name then (if ((l.getD k0 default).Foe : Int) = foe then (if ((l.getD k0 default).Until : Int) > now then .inl ((l.getD k0 default).Until, true) else .inl (0, false)) else untilLR_L0 l name foe now n_ (k0 + 1)) else untilLR_L0 l name foe now n_ (k0 + 1)
def untilLR (l : List GLock) (name : List UInt8) (foe : Int) (now : Int) : Int × Bool :=
  (match untilLR_L0 l name foe now (l.length - 0) 0 with
    | .inl r_ => r_
    | .inr () => (0, false))
theorem untilLR_ok (l : List GLock) (l_f : Bool) (name : List UInt8) (foe : Int) (now : Int) : Ok Tryd.prog 12 [.pv (.slc l.length l_f (l.flatMap encGLock)), .pv (.str name), I foe, I now] [] (.tup [I (untilLR l name foe now).1, B (untilLR l name foe now).2]) [] [] := by
 refine Ok.len fun hlen => ?_
 have hl_l : l.length ≤ maxLen := hlen _ (by simp [lensL, lens, lensP])
 unfold maxLen at hl_l
 refine ok_of_sem Tryd.func12 rfl ?_
 show Walks Tryd.prog _ _ ⟨[(0, .pv (.slc l.length l_f (l.flatMap encGLock))), (1, .pv (.str name)), (2, I foe), (3, I now)], [], 0, [], 45, 0⟩
 refine sem_seq (sem_region rfl (step_r rfl rfl trivial (step_r rfl rfl trivial (step_nil (seqK_n (sem_seq (sem_seq (sem_region rfl (step_r rfl rfl trivial (step_nil (seqK_n ?_)))))))))))
 refine sem_cutW (fun w_ : Unit => match w_ with | () => (⟨[], [], 0, [], 45, 0⟩ : St)) (fun w_ => untilLR_L0 l name foe now (l.length - 0) 0 = .inr w_) ?_ ?_
 ·refine sem_block ?_
  refine sem_loopT (fun k0 : Nat => (⟨[(0, .pv (.slc l.length l_f (l.flatMap encGLock))), (1, .pv (.str name)), (2, I foe), (3, I now), (10, I k0)], [], 0, [], 45, 0⟩ : St)) (fun k0 : Nat => untilLR_L0 l name foe now (l.length - k0) k0 = untilLR_L0 l name foe now (l.length - 0) 0 ∧ k0 ≤ l.length) (fun k0 : Nat => l.length - k0) 0 (⟨rfl, (by first | omega | (simp; omega))⟩) ?_ (fun k0 hh_ => ?_)
  ·exact (Trans.ren [] (by decide +kernel) (by decide +kernel) rfl ⟨⟨rfl, rfl⟩, ⟨rfl, rfl⟩, ⟨rfl, rfl⟩, ⟨rfl, rfl⟩, ⟨rfl, rfl⟩, trivial⟩ trivial (by decide))
  obtain ⟨hI0, hb0⟩ := hh_
  show Walks Tryd.prog _ _ (⟨[(0, .pv (.slc l.length l_f (l.flatMap encGLock))), (1, .pv (.str name)), (2, I foe), (3, I now), (10, I k0)], [], 0, [], 45, 0⟩ : St)
  refine sem_seq (sem_seq (sem_region rfl (step_r rfl rfl trivial (step_r rfl rfl trivial (step_r rfl rfl trivial (step_bin rfl rfl rfl rfl rfl trivial (step_nil (seqK_n ?_))))))))
  refine sem_cond rfl (fun h3 => ?_) (fun h3 => ?_)
  ·have g3 : (k0 : Int) < l.length := of_decide_eq_true h3
   have hm0 : l.length - k0 = (l.length - (k0 + 1)) + 1 := by omega
   refine sem_skip (seqK_n (sem_seq (sem_block (sem_seq (sem_region rfl (step_r rfl rfl trivial (step_r rfl rfl trivial ?_)))))))
   have jk4 : k0 < l.length := by first | assumption | omega | (simp only [List.length_set, List.length_append]; omega) | (simp only [IntKind.wrap_i64] at *; omega) | (simp; omega) | simp_all
   refine step_idxS (k := k0) rfl rfl rfl rfl jk4 (flat_ne (s := 3) (enc := encGLock) (fun _ => rfl) (by decide) jk4) rfl (step_r rfl rfl (by decide) (step_load_one rfl rfl rfl (flat_get (s := 3) (enc := encGLock) (fun _ => rfl) (get_getD jk4) (o := 0) rfl (by decide)) rfl (step_r rfl rfl trivial (step_bin rfl rfl rfl rfl rfl trivial (step_r rfl rfl trivial ?_)))))
   refine step_gs rfl (fun h7 => ?_) (fun h7 => ?_)
   ·have g7 : ((l.getD k0 default).Name) = name := beq_t h7
    refine step_g1 rfl h7 (step_r rfl rfl trivial (step_g1 rfl h7 (step_r rfl rfl trivial (step_g1 rfl h7 (step_idxS (k := k0) rfl rfl rfl rfl jk4 (flat_ne (s := 3) (enc := encGLock) (fun _ => rfl) (by decide) jk4) rfl (step_g1 rfl h7 (step_r rfl rfl (by decide) (step_g1 rfl h7 (step_load_one rfl rfl rfl (flat_get (s := 3) (enc := encGLock) (fun _ => rfl) (get_getD jk4) (o := 1) rfl (by decide)) rfl (step_g1 rfl h7 (step_r rfl rfl trivial ?_)))))))))))
    refine step_g1 rfl h7 (step_bin rfl rfl rfl rfl rfl trivial (step_pickT rfl h7 rfl rfl (step_nil (seqK_n ?_))))
    refine sem_cond rfl (fun h10 => ?_) (fun h10 => ?_)
    ·have g10 : ((l.getD k0 default).Foe : Int) = foe := beq_t h10
     refine sem_seq (sem_seq (sem_region rfl (step_r rfl rfl trivial (step_r rfl rfl trivial (step_idxS (k := k0) rfl rfl rfl rfl jk4 (flat_ne (s := 3) (enc := encGLock) (fun _ => rfl) (by decide) jk4) rfl (step_r rfl rfl (by decide) (step_load_one rfl rfl rfl (flat_get (s := 3) (enc := encGLock) (fun _ => rfl) (get_getD jk4) (o := 2) rfl (by decide)) rfl (step_r rfl rfl trivial (step_bin rfl rfl rfl rfl rfl trivial (step_nil (seqK_n ?_)))))))))))
     refine sem_cond rfl (fun h12 => ?_) (fun h12 => ?_)
     ·have g12 : ((l.getD k0 default).Until : Int) > now := of_decide_eq_true h12
      refine sem_seq (sem_region rfl (step_r rfl rfl trivial (step_r rfl rfl trivial (step_idxS (k := k0) rfl rfl rfl rfl jk4 (flat_ne (s := 3) (enc := encGLock) (fun _ => rfl) (by decide) jk4) rfl (step_r rfl rfl (by decide) (step_load_one rfl rfl rfl (flat_get (s := 3) (enc := encGLock) (fun _ => rfl) (get_getD jk4) (o := 2) rfl (by decide)) rfl (step_r rfl rfl trivial (step_r rfl rfl trivial (step_nil (seqK_n (sem_ret ?_)))))))))))
      refine seqK_r (blkK_r (seqK_r (lupK_r (blkK_r (cutW_r (seqK_r ?_))))))
      have e14 : untilLR_L0 l name foe now (l.length - 0) 0 = .inl ((l.getD k0 default).Until, true) := by
       rewrite [← hI0, hm0]
       rewrite [untilLR_L0]
       try dsimp only
       rewrite [if_pos g7, if_pos g10, if_pos g12]
       all_goals rfl
      have e15 : untilLR l name foe now = ((l.getD k0 default).Until, true) := by
       unfold untilLR
       try dsimp only
       rewrite [e14]
       try dsimp only
       all_goals rfl
      rw [e15]
      exact answersR rfl ⟨trivial, trivial, trivial⟩ (rfl) rfl
     ·have g12 : ¬ (((l.getD k0 default).Until : Int) > now) := of_decide_eq_false h12
      refine sem_skip (seqK_n (sem_seq (sem_region rfl (step_r rfl rfl trivial (step_r rfl rfl trivial (step_nil (seqK_n (sem_ret (blkK_r (seqK_r (lupK_r ?_)))))))))))
      refine blkK_r (cutW_r (seqK_r ?_))
      have e16 : untilLR_L0 l name foe now (l.length - 0) 0 = .inl (0, false) := by
       rewrite [← hI0, hm0]
       rewrite [untilLR_L0]
       try dsimp only
       rewrite [if_pos g7, if_pos g10, if_neg g12]
       all_goals rfl
      have e17 : untilLR l name foe now = (0, false) := by
       unfold untilLR
       try dsimp only
       rewrite [e16]
       try dsimp only
       all_goals rfl
      rw [e17]
      exact answersR rfl ⟨trivial, trivial, trivial⟩ (rfl) rfl
    ·have g10 : ¬ (((l.getD k0 default).Foe : Int) = foe) := beq_f h10
     refine sem_skip (blkK_n (seqK_n (sem_region rfl (step_r rfl rfl trivial (step_bin rfl rfl rfl rfl rfl trivial (step_r rfl rfl trivial (step_nil ?_)))))))
     have e19 : untilLR_L0 l name foe now (l.length - k0) k0 = untilLR_L0 l name foe now (l.length - (k0 + 1)) (k0 + 1) := by
      rewrite [hm0]
      rewrite [untilLR_L0]
      try dsimp only
      rewrite [if_pos g7, if_neg g10]
      all_goals rfl
     exact lup_againT (k0 + 1) ⟨e19.symm.trans hI0, (by omega)⟩ (by show l.length - (k0 + 1) < l.length - k0; omega) (Trans.ren [] (by decide +kernel) (by decide +kernel) rfl ⟨⟨rfl, rfl⟩, ⟨rfl, rfl⟩, ⟨rfl, rfl⟩, ⟨rfl, rfl⟩, ⟨congrArg (fun n => some (I n)) (wrapI (k := k0) (by first | omega | (simp; omega))), rfl⟩, trivial⟩ trivial (by decide))
   ·have g7 : ¬ (((l.getD k0 default).Name) = name) := beq_f h7
    refine step_g0 rfl h7 rfl (step_g0 rfl h7 rfl (step_g0 rfl h7 rfl (step_g0 rfl h7 rfl (step_g0 rfl h7 rfl (step_g0 rfl h7 rfl (step_g0 rfl h7 rfl (step_pickF rfl h7 rfl rfl (step_nil (seqK_n (sem_condF rfl (sem_skip ?_)))))))))))
    refine blkK_n (seqK_n (sem_region rfl (step_r rfl rfl trivial (step_bin rfl rfl rfl rfl rfl trivial (step_r rfl rfl trivial (step_nil ?_))))))
    have e21 : untilLR_L0 l name foe now (l.length - k0) k0 = untilLR_L0 l name foe now (l.length - (k0 + 1)) (k0 + 1) := by
     rewrite [hm0]
     rewrite [untilLR_L0]
     try dsimp only
     rewrite [if_neg g7]
     all_goals rfl
    exact lup_againT (k0 + 1) ⟨e21.symm.trans hI0, (by omega)⟩ (by show l.length - (k0 + 1) < l.length - k0; omega) (Trans.ren [] (by decide +kernel) (by decide +kernel) rfl ⟨⟨rfl, rfl⟩, ⟨rfl, rfl⟩, ⟨rfl, rfl⟩, ⟨rfl, rfl⟩, ⟨congrArg (fun n => some (I n)) (wrapI (k := k0) (by first | omega | (simp; omega))), rfl⟩, trivial⟩ trivial (by decide))
  ·have g3 : ¬ ((k0 : Int) < l.length) := of_decide_eq_false h3
   have hm0 : l.length - k0 = 0 := by omega
   refine sem_exit (seqK_e (lupK_e (blkK_t rfl ?_)))
   have e22 : untilLR_L0 l name foe now (l.length - 0) 0 = .inr () := by
    rewrite [← hI0, hm0]
    rewrite [untilLR_L0]
    try dsimp only
    all_goals rfl
   exact cutW_n () e22 (Trans.ren [] (by decide +kernel) (by decide +kernel) rfl trivial trivial (by decide))
 ·rintro ⟨⟩ (hJ1 : untilLR_L0 l name foe now (l.length - 0) 0 = .inr ())
  show seqK _ _ _ .normal (⟨[], [], 0, [], 45, 0⟩ : St)
  refine seqK_n (sem_seq (sem_region rfl (step_r rfl rfl trivial (step_r rfl rfl trivial (step_nil (seqK_n (sem_ret ?_)))))))
  have e23 : untilLR l name foe now = (0, false) := by
   unfold untilLR
   try dsimp only
   rewrite [hJ1]
   try dsimp only
   all_goals rfl
  rw [e23]
  exact answersR rfl ⟨trivial, trivial, trivial⟩ (rfl) rfl

def ofLR_L0 (l : List GLock) (name : List UInt8) (now : Int) : Nat → Nat → (List Int) → List Int
  | 0, k0, out0 => out0
  | n_ + 1, k0, out0 => if ((l.getD k0 default).Name) = name then (if ((l.getD k0 default).Until : Int) > now then ofLR_L0 l name now n_ (k0 + 1) (out0 ++ [(l.getD k0 default).Foe]) else ofLR_L0 l name now n_ (k0 + 1) out0) else ofLR_L0 l name now n_ (k0 + 1) out0
def ofLR (l : List GLock) (name : List UInt8) (now : Int) : List Int :=
  (let out_0 := ofLR_L0 l name now (l.length - 0) 0 ([]); out_0)
theorem ofLR_ok (l : List GLock) (l_f : Bool) (name : List UInt8) (now : Int) (hl : l.length ≤ 16777000) : Ok Tryd.prog 20 [.pv (.slc l.length l_f (l.flatMap encGLock)), .pv (.str name), I now] [] (.ref 0 1 0 (ofLR l name now).length) [.row 3 1 (encI (ofLR l name now))] [] := by
 refine Ok.len fun hlen => ?_
 have hl_l : l.length ≤ maxLen := hlen _ (by simp [lensL, lens, lensP])
 unfold maxLen at hl_l
 refine ok_of_sem Tryd.func20 rfl ?_
 show Walks Tryd.prog _ _ ⟨[(0, .pv (.slc l.length l_f (l.flatMap encGLock))), (1, .pv (.str name)), (2, I now)], [], 0, [], 40, 0⟩
 refine sem_seq (sem_region rfl (step_n (nx' := 1) rfl rfl rfl trivial (step_nil (seqK_n (sem_seq (sem_region rfl (step_n (nx' := 2) rfl rfl rfl trivial (step_nil (seqK_n (sem_seq (sem_seq ?_)))))))))))
 refine sem_region rfl (step_r rfl rfl trivial (step_nil (seqK_n ?_)))
 refine sem_cutW (fun out_0 : List Int => (⟨[(7, .ref 0 1 0 out_0.length)], [(0, .row 3 1 (encI out_0))], 1, [], 40, 0⟩ : St)) (fun w_ => ofLR_L0 l name now (l.length - 0) 0 ([]) = w_) ?_ ?_
 ·refine sem_block ?_
  refine sem_loopT (fun w_ : Nat × (List Int) => match w_ with | (k0, out0) => (⟨[(0, .pv (.slc l.length l_f (l.flatMap encGLock))), (1, .pv (.str name)), (2, I now), (7, .ref 0 1 0 out0.length), (8, I k0)], [(0, .row 3 1 (encI out0))], 1, [], 40, 0⟩ : St)) (fun w_ : Nat × (List Int) => match w_ with | (k0, out0) => ofLR_L0 l name now (l.length - k0) k0 out0 = ofLR_L0 l name now (l.length - 0) 0 ([]) ∧ k0 ≤ l.length ∧ out0.length ≤ k0) (fun w_ : Nat × (List Int) => match w_ with | (k0, out0) => l.length - k0) (0, []) (⟨rfl, (by first | omega | (simp; omega)), by first | omega | simp | (simp; omega)⟩) ?_ (fun w_ hh_ => ?_)
  ·exact (Trans.ren [(0, 1), (1, 0)] (by decide +kernel) (by decide +kernel) rfl ⟨⟨rfl, rfl⟩, ⟨rfl, rfl⟩, ⟨rfl, rfl⟩, ⟨congrArg (fun n => some (AV.ref 1 1 0 n)) (by first | rfl | simp only [List.length_set] | simp | omega | (simp; omega)), rfl⟩, ⟨rfl, rfl⟩, trivial⟩ ⟨⟨rfl, rfl, rfl⟩, trivial⟩ (by decide))
  obtain ⟨k0, out0⟩ := w_
  obtain ⟨hI0, hb0, hv0⟩ := hh_
  show Walks Tryd.prog _ _ (⟨[(0, .pv (.slc l.length l_f (l.flatMap encGLock))), (1, .pv (.str name)), (2, I now), (7, .ref 0 1 0 out0.length), (8, I k0)], [(0, .row 3 1 (encI out0))], 1, [], 40, 0⟩ : St)
  refine sem_seq (sem_seq (sem_region rfl (step_r rfl rfl trivial (step_r rfl rfl trivial (step_r rfl rfl trivial (step_bin rfl rfl rfl rfl rfl trivial (step_nil (seqK_n ?_))))))))
  refine sem_cond rfl (fun h3 => ?_) (fun h3 => ?_)
  ·have g3 : (k0 : Int) < l.length := of_decide_eq_true h3
   have hm0 : l.length - k0 = (l.length - (k0 + 1)) + 1 := by omega
   refine sem_skip (seqK_n (sem_seq (sem_block (sem_seq (sem_region rfl (step_r rfl rfl trivial (step_r rfl rfl trivial ?_)))))))
   have jk4 : k0 < l.length := by first | assumption | omega | (simp only [List.length_set, List.length_append]; omega) | (simp only [IntKind.wrap_i64] at *; omega) | (simp; omega) | simp_all
   refine step_idxS (k := k0) rfl rfl rfl rfl jk4 (flat_ne (s := 3) (enc := encGLock) (fun _ => rfl) (by decide) jk4) rfl (step_r rfl rfl (by decide) (step_load_one rfl rfl rfl (flat_get (s := 3) (enc := encGLock) (fun _ => rfl) (get_getD jk4) (o := 0) rfl (by decide)) rfl (step_r rfl rfl trivial (step_bin rfl rfl rfl rfl rfl trivial (step_r rfl rfl trivial ?_)))))
   refine step_gs rfl (fun h7 => ?_) (fun h7 => ?_)
   ·have g7 : ((l.getD k0 default).Name) = name := beq_t h7
    refine step_g1 rfl h7 (step_r rfl rfl trivial (step_g1 rfl h7 (step_r rfl rfl trivial (step_g1 rfl h7 (step_idxS (k := k0) rfl rfl rfl rfl jk4 (flat_ne (s := 3) (enc := encGLock) (fun _ => rfl) (by decide) jk4) rfl (step_g1 rfl h7 (step_r rfl rfl (by decide) (step_g1 rfl h7 (step_load_one rfl rfl rfl (flat_get (s := 3) (enc := encGLock) (fun _ => rfl) (get_getD jk4) (o := 2) rfl (by decide)) rfl (step_g1 rfl h7 (step_r rfl rfl trivial ?_)))))))))))
    refine step_g1 rfl h7 (step_bin rfl rfl rfl rfl rfl trivial (step_pickT rfl h7 rfl rfl (step_nil (seqK_n ?_))))
    refine sem_cond rfl (fun h10 => ?_) (fun h10 => ?_)
    ·have g10 : ((l.getD k0 default).Until : Int) > now := of_decide_eq_true h10
     refine sem_region rfl (step_r rfl rfl trivial (step_r rfl rfl trivial (step_r rfl rfl trivial (step_idxS (k := k0) rfl rfl rfl rfl jk4 (flat_ne (s := 3) (enc := encGLock) (fun _ => rfl) (by decide) jk4) rfl (step_r rfl rfl (by decide) (step_load_one rfl rfl rfl (flat_get (s := 3) (enc := encGLock) (fun _ => rfl) (get_getD jk4) (o := 1) rfl (by decide)) rfl (step_n (o := .row _ _ [_]) (nx' := 2) rfl rfl rfl (by decide) ?_)))))))
     refine step_appendC (m := 1) (new := [_]) (cs' := encI (out0 ++ [(l.getD k0 default).Foe])) (n' := (out0 ++ [(l.getD k0 default).Foe]).length) (H' := [(1, .row _ _ _), (0, .row _ _ _)]) rfl rfl rfl (rfl) rfl rfl rfl rfl rfl rfl (encI_len out0) (rfl) (by first | decide | (unfold maxGrow; omega) | (unfold maxGrow; simp; omega) | (unfold maxGrow; simp only [List.length_append, List.length_take, List.length_drop, List.length_cons, List.length_nil, IntKind.wrap_i64] at *; omega)) (len_snoc out0 _) (((encI_snoc out0 ((l.getD k0 default).Foe))).symm) (.inl rfl) rfl rfl (.keep rfl (.keep rfl .nil)) (.keep rfl (.keep rfl (.keep rfl (.keep rfl (.keep rfl (.keep rfl (.lose (v' := .undef) rfl (.keep rfl (.keep rfl (.keep rfl (.keep rfl (.keep rfl (.keep rfl (.keep rfl (.keep rfl (.keep rfl (.keep rfl (.keep rfl (.keep rfl (.keep rfl (.keep rfl (.keep rfl (.keep rfl (.keep rfl (.keep rfl (.keep rfl (.keep rfl (.keep rfl (.keep rfl (.keep rfl (.lose (v' := .undef) rfl (.keep rfl .nil)))))))))))))))))))))))))))))))) ?_
     refine step_r rfl rfl trivial (step_nil (blkK_n (seqK_n (sem_region rfl (step_r rfl rfl trivial (step_bin rfl rfl rfl rfl rfl trivial (step_r rfl rfl trivial (step_nil ?_))))))))
     have e12 : ofLR_L0 l name now (l.length - k0) k0 out0 = ofLR_L0 l name now (l.length - (k0 + 1)) (k0 + 1) (out0 ++ [(l.getD k0 default).Foe]) := by
      rewrite [hm0]
      rewrite [ofLR_L0]
      try dsimp only
      rewrite [if_pos g7, if_pos g10]
      all_goals rfl
     exact lup_againT (k0 + 1, (out0 ++ [(l.getD k0 default).Foe])) ⟨e12.symm.trans hI0, (by omega), by first | omega | assumption | (simp only [List.length_append, List.length_cons, List.length_nil, List.length_set]; omega) | (simp; omega) | grind⟩ (by show l.length - (k0 + 1) < l.length - k0; omega) (Trans.ren [] (by decide +kernel) (by decide +kernel) rfl ⟨⟨rfl, rfl⟩, ⟨rfl, rfl⟩, ⟨rfl, rfl⟩, ⟨rfl, rfl⟩, ⟨congrArg (fun n => some (I n)) (wrapI (k := k0) (by first | omega | (simp; omega))), rfl⟩, trivial⟩ ⟨⟨rfl, rfl, rfl⟩, trivial⟩ (by decide))
    ·have g10 : ¬ (((l.getD k0 default).Until : Int) > now) := of_decide_eq_false h10
     refine sem_skip (blkK_n (seqK_n (sem_region rfl (step_r rfl rfl trivial (step_bin rfl rfl rfl rfl rfl trivial (step_r rfl rfl trivial (step_nil ?_)))))))
     have e14 : ofLR_L0 l name now (l.length - k0) k0 out0 = ofLR_L0 l name now (l.length - (k0 + 1)) (k0 + 1) out0 := by
      rewrite [hm0]
      rewrite [ofLR_L0]
      try dsimp only
      rewrite [if_pos g7, if_neg g10]
      all_goals rfl
     exact lup_againT (k0 + 1, out0) ⟨e14.symm.trans hI0, (by omega), by first | omega | assumption | (simp only [List.length_append, List.length_cons, List.length_nil, List.length_set]; omega) | (simp; omega) | grind⟩ (by show l.length - (k0 + 1) < l.length - k0; omega) (Trans.ren [] (by decide +kernel) (by decide +kernel) rfl ⟨⟨rfl, rfl⟩, ⟨rfl, rfl⟩, ⟨rfl, rfl⟩, ⟨rfl, rfl⟩, ⟨congrArg (fun n => some (I n)) (wrapI (k := k0) (by first | omega | (simp; omega))), rfl⟩, trivial⟩ ⟨⟨rfl, rfl, rfl⟩, trivial⟩ (by decide))
   ·have g7 : ¬ (((l.getD k0 default).Name) = name) := beq_f h7
    refine step_g0 rfl h7 rfl (step_g0 rfl h7 rfl (step_g0 rfl h7 rfl (step_g0 rfl h7 rfl (step_g0 rfl h7 rfl (step_g0 rfl h7 rfl (step_g0 rfl h7 rfl (step_pickF rfl h7 rfl rfl (step_nil (seqK_n (sem_condF rfl (sem_skip ?_)))))))))))
    refine blkK_n (seqK_n (sem_region rfl (step_r rfl rfl trivial (step_bin rfl rfl rfl rfl rfl trivial (step_r rfl rfl trivial (step_nil ?_))))))
    have e16 : ofLR_L0 l name now (l.length - k0) k0 out0 = ofLR_L0 l name now (l.length - (k0 + 1)) (k0 + 1) out0 := by
     rewrite [hm0]
     rewrite [ofLR_L0]
     try dsimp only
     rewrite [if_neg g7]
     all_goals rfl
    exact lup_againT (k0 + 1, out0) ⟨e16.symm.trans hI0, (by omega), by first | omega | assumption | (simp only [List.length_append, List.length_cons, List.length_nil, List.length_set]; omega) | (simp; omega) | grind⟩ (by show l.length - (k0 + 1) < l.length - k0; omega) (Trans.ren [] (by decide +kernel) (by decide +kernel) rfl ⟨⟨rfl, rfl⟩, ⟨rfl, rfl⟩, ⟨rfl, rfl⟩, ⟨rfl, rfl⟩, ⟨congrArg (fun n => some (I n)) (wrapI (k := k0) (by first | omega | (simp; omega))), rfl⟩, trivial⟩ ⟨⟨rfl, rfl, rfl⟩, trivial⟩ (by decide))
  ·have g3 : ¬ ((k0 : Int) < l.length) := of_decide_eq_false h3
   have hm0 : l.length - k0 = 0 := by omega
   refine sem_exit (seqK_e (lupK_e (blkK_t rfl ?_)))
   have e17 : ofLR_L0 l name now (l.length - 0) 0 ([]) = out0 := by
    rewrite [← hI0, hm0]
    rewrite [ofLR_L0]
    try dsimp only
    all_goals rfl
   exact cutW_n out0 e17 (Trans.ren [] (by decide +kernel) (by decide +kernel) rfl ⟨⟨rfl, rfl⟩, trivial⟩ ⟨⟨rfl, rfl, rfl⟩, trivial⟩ (by decide))
 ·rintro out_0 (hJ1 : ofLR_L0 l name now (l.length - 0) 0 ([]) = out_0)
  show seqK _ _ _ .normal (⟨[(7, .ref 0 1 0 out_0.length)], [(0, .row 3 1 (encI out_0))], 1, [], 40, 0⟩ : St)
  refine seqK_n (sem_seq (sem_region rfl (step_r rfl rfl trivial (step_r rfl rfl trivial (step_nil (seqK_n (sem_ret ?_)))))))
  have e18 : ofLR l name now = out_0 := by
   unfold ofLR
   try dsimp only
   rewrite [hJ1]
   try dsimp only
   all_goals rfl
  rw [e18]
  exact answersGR [] [0] rfl ⟨trivial, trivial⟩ rfl (by (repeat' apply And.intro) <;> first | trivial | rfl | exact flat_len (fun _ => rfl) _ | exact encI_len _ | assumption) (rfl) rfl rfl rfl (by decide) rfl rfl ⟨⟨rfl, rfl⟩, trivial⟩

def freeLR_L0 (l : List GLock) (names : List ((List UInt8))) (foe : Int) (now : Int) : Nat → Nat → (List ((List UInt8))) → List ((List UInt8))
  | 0, k0, out0 => out0
  | n_ + 1, k0, out0 => if (untilLR l (names.getD k0 default) foe now).2 = true then freeLR_L0 l names foe now n_ (k0 + 1) out0 else freeLR_L0 l names foe now n_ (k0 + 1) (out0 ++ [(names.getD k0 default)])
def freeLR (l : List GLock) (names : List ((List UInt8))) (foe : Int) (now : Int) : List (List UInt8) :=
  (let out_0 := freeLR_L0 l names foe now (names.length - 0) 0 ([]); out_0)
theorem freeLR_ok (l : List GLock) (l_f : Bool) (names : List ((List UInt8))) (names_f : Bool) (foe : Int) (now : Int) (hl : names.length ≤ 16777000) : Ok Tryd.prog 23 [.pv (.slc l.length l_f (l.flatMap encGLock)), .pv (.slc names.length names_f (encS names)), I foe, I now] [] (.ref 0 1 0 (freeLR l names foe now).length) [.row 9 1 (encS (freeLR l names foe now))] [] := by
 refine Ok.len fun hlen => ?_
 have hl_l : l.length ≤ maxLen := hlen _ (by simp [lensL, lens, lensP])
 have hl_names : names.length ≤ maxLen := hlen _ (by simp [lensL, lens, lensP])
 unfold maxLen at hl_l hl_names
 refine ok_of_sem Tryd.func23 rfl ?_
 show Walks Tryd.prog _ _ ⟨[(0, .pv (.slc l.length l_f (l.flatMap encGLock))), (1, .pv (.slc names.length names_f (encS names))), (2, I foe), (3, I now)], [], 0, [], 40, 0⟩
 refine sem_seq (sem_region rfl (step_n (nx' := 1) rfl rfl rfl trivial (step_nil (seqK_n (sem_seq (sem_region rfl (step_n (nx' := 2) rfl rfl rfl trivial (step_nil (seqK_n (sem_seq (sem_seq ?_)))))))))))
 refine sem_region rfl (step_r rfl rfl trivial (step_nil (seqK_n ?_)))
 refine sem_cutW (fun out_0 : List ((List UInt8)) => (⟨[(9, .ref 0 1 0 out_0.length)], [(0, .row 9 1 (encS out_0))], 1, [], 40, 0⟩ : St)) (fun w_ => freeLR_L0 l names foe now (names.length - 0) 0 ([]) = w_) ?_ ?_
 ·refine sem_block ?_
  refine sem_loopT (fun w_ : Nat × (List ((List UInt8))) => match w_ with | (k0, out0) => (⟨[(0, .pv (.slc l.length l_f (l.flatMap encGLock))), (1, .pv (.slc names.length names_f (encS names))), (2, I foe), (3, I now), (9, .ref 0 1 0 out0.length), (10, I k0)], [(0, .row 9 1 (encS out0))], 1, [], 40, 0⟩ : St)) (fun w_ : Nat × (List ((List UInt8))) => match w_ with | (k0, out0) => freeLR_L0 l names foe now (names.length - k0) k0 out0 = freeLR_L0 l names foe now (names.length - 0) 0 ([]) ∧ k0 ≤ names.length ∧ out0.length ≤ k0) (fun w_ : Nat × (List ((List UInt8))) => match w_ with | (k0, out0) => names.length - k0) (0, []) (⟨rfl, (by first | omega | (simp; omega)), by first | omega | simp | (simp; omega)⟩) ?_ (fun w_ hh_ => ?_)
  ·exact (Trans.ren [(0, 1), (1, 0)] (by decide +kernel) (by decide +kernel) rfl ⟨⟨rfl, rfl⟩, ⟨rfl, rfl⟩, ⟨rfl, rfl⟩, ⟨rfl, rfl⟩, ⟨congrArg (fun n => some (AV.ref 1 1 0 n)) (by first | rfl | simp only [List.length_set] | simp | omega | (simp; omega)), rfl⟩, ⟨rfl, rfl⟩, trivial⟩ ⟨⟨rfl, rfl, rfl⟩, trivial⟩ (by decide))
  obtain ⟨k0, out0⟩ := w_
  obtain ⟨hI0, hb0, hv0⟩ := hh_
  show Walks Tryd.prog _ _ (⟨[(0, .pv (.slc l.length l_f (l.flatMap encGLock))), (1, .pv (.slc names.length names_f (encS names))), (2, I foe), (3, I now), (9, .ref 0 1 0 out0.length), (10, I k0)], [(0, .row 9 1 (encS out0))], 1, [], 40, 0⟩ : St)
  refine sem_seq (sem_seq (sem_region rfl (step_r rfl rfl trivial (step_r rfl rfl trivial (step_r rfl rfl trivial (step_bin rfl rfl rfl rfl rfl trivial (step_nil (seqK_n ?_))))))))
  refine sem_cond rfl (fun h3 => ?_) (fun h3 => ?_)
  ·have g3 : (k0 : Int) < names.length := of_decide_eq_true h3
   have hm0 : names.length - k0 = (names.length - (k0 + 1)) + 1 := by omega
   refine sem_skip (seqK_n (sem_seq (sem_block (sem_seq (sem_region rfl (step_r rfl rfl trivial (step_r rfl rfl trivial (step_r rfl rfl trivial ?_))))))))
   have jk4 : k0 < names.length := by first | assumption | omega | (simp only [List.length_set, List.length_append]; omega) | (simp only [IntKind.wrap_i64] at *; omega) | (simp; omega) | simp_all
   refine step_idxS (k := k0) rfl rfl rfl rfl jk4 (encS_ne jk4) rfl (step_load_one rfl rfl rfl (encS_get (get_getD jk4)) rfl (step_r rfl rfl trivial (step_r rfl rfl trivial (step_call rfl rfl rfl rfl (untilLR_ok l l_f (names.getD k0 default) foe now) rfl rfl rfl (step_r rfl rfl trivial (step_r rfl rfl trivial (step_r rfl rfl trivial (step_r rfl rfl trivial (step_r rfl rfl trivial (step_nil (seqK_n ?_)))))))))))
   refine sem_seq (sem_region rfl (step_r rfl rfl trivial (step_r rfl rfl trivial (step_nil (seqK_n ?_)))))
   refine sem_cond rfl (fun h9 => ?_) (fun h9 => ?_)
   ·have g9 : ¬ ((untilLR l (names.getD k0 default) foe now).2 = true) := boo_f (not_t h9)
    refine sem_region rfl (step_r rfl rfl trivial (step_r rfl rfl trivial (step_r rfl rfl trivial (step_idxS (k := k0) rfl rfl rfl rfl jk4 (encS_ne jk4) rfl (step_load_one rfl rfl rfl (encS_get (get_getD jk4)) rfl (step_n (o := .row _ _ [_]) (nx' := 2) rfl rfl rfl (by decide) ?_))))))
    refine step_appendC (m := 1) (new := [_]) (cs' := encS (out0 ++ [(names.getD k0 default)])) (n' := (out0 ++ [(names.getD k0 default)]).length) (H' := [(1, .row _ _ _), (0, .row _ _ _)]) rfl rfl rfl (rfl) rfl rfl rfl rfl rfl rfl (encS_len out0) (rfl) (by first | decide | (unfold maxGrow; omega) | (unfold maxGrow; simp; omega) | (unfold maxGrow; simp only [List.length_append, List.length_take, List.length_drop, List.length_cons, List.length_nil, IntKind.wrap_i64] at *; omega)) (len_snoc out0 _) (((encS_snoc out0 (names.getD k0 default))).symm) (.inl rfl) rfl rfl (.keep rfl (.keep rfl .nil)) (.keep rfl (.keep rfl (.keep rfl (.keep rfl (.keep rfl (.lose (v' := .undef) rfl (.keep rfl (.keep rfl (.keep rfl (.keep rfl (.keep rfl (.keep rfl (.keep rfl (.keep rfl (.keep rfl (.keep rfl (.keep rfl (.keep rfl (.keep rfl (.keep rfl (.keep rfl (.keep rfl (.keep rfl (.keep rfl (.keep rfl (.keep rfl (.keep rfl (.keep rfl (.keep rfl (.lose (v' := .undef) rfl (.keep rfl .nil))))))))))))))))))))))))))))))) ?_
    refine step_r rfl rfl trivial (step_nil (blkK_n (seqK_n (sem_region rfl (step_r rfl rfl trivial (step_bin rfl rfl rfl rfl rfl trivial (step_r rfl rfl trivial (step_nil ?_))))))))
    have e11 : freeLR_L0 l names foe now (names.length - k0) k0 out0 = freeLR_L0 l names foe now (names.length - (k0 + 1)) (k0 + 1) (out0 ++ [(names.getD k0 default)]) := by
     rewrite [hm0]
     rewrite [freeLR_L0]
     try dsimp only
     rewrite [if_neg g9]
     all_goals rfl
    exact lup_againT (k0 + 1, (out0 ++ [(names.getD k0 default)])) ⟨e11.symm.trans hI0, (by omega), by first | omega | assumption | (simp only [List.length_append, List.length_cons, List.length_nil, List.length_set]; omega) | (simp; omega) | grind⟩ (by show names.length - (k0 + 1) < names.length - k0; omega) (Trans.ren [] (by decide +kernel) (by decide +kernel) rfl ⟨⟨rfl, rfl⟩, ⟨rfl, rfl⟩, ⟨rfl, rfl⟩, ⟨rfl, rfl⟩, ⟨rfl, rfl⟩, ⟨congrArg (fun n => some (I n)) (wrapI (k := k0) (by first | omega | (simp; omega))), rfl⟩, trivial⟩ ⟨⟨rfl, rfl, rfl⟩, trivial⟩ (by decide))
   ·have g9 : (untilLR l (names.getD k0 default) foe now).2 = true := (not_f h9)
    refine sem_skip (blkK_n (seqK_n (sem_region rfl (step_r rfl rfl trivial (step_bin rfl rfl rfl rfl rfl trivial (step_r rfl rfl trivial (step_nil ?_)))))))
    have e13 : freeLR_L0 l names foe now (names.length - k0) k0 out0 = freeLR_L0 l names foe now (names.length - (k0 + 1)) (k0 + 1) out0 := by
     rewrite [hm0]
     rewrite [freeLR_L0]
     try dsimp only
     rewrite [if_pos g9]
     all_goals rfl
    exact lup_againT (k0 + 1, out0) ⟨e13.symm.trans hI0, (by omega), by first | omega | assumption | (simp only [List.length_append, List.length_cons, List.length_nil, List.length_set]; omega) | (simp; omega) | grind⟩ (by show names.length - (k0 + 1) < names.length - k0; omega) (Trans.ren [] (by decide +kernel) (by decide +kernel) rfl ⟨⟨rfl, rfl⟩, ⟨rfl, rfl⟩, ⟨rfl, rfl⟩, ⟨rfl, rfl⟩, ⟨rfl, rfl⟩, ⟨congrArg (fun n => some (I n)) (wrapI (k := k0) (by first | omega | (simp; omega))), rfl⟩, trivial⟩ ⟨⟨rfl, rfl, rfl⟩, trivial⟩ (by decide))
  ·have g3 : ¬ ((k0 : Int) < names.length) := of_decide_eq_false h3
   have hm0 : names.length - k0 = 0 := by omega
   refine sem_exit (seqK_e (lupK_e (blkK_t rfl ?_)))
   have e14 : freeLR_L0 l names foe now (names.length - 0) 0 ([]) = out0 := by
    rewrite [← hI0, hm0]
    rewrite [freeLR_L0]
    try dsimp only
    all_goals rfl
   exact cutW_n out0 e14 (Trans.ren [] (by decide +kernel) (by decide +kernel) rfl ⟨⟨rfl, rfl⟩, trivial⟩ ⟨⟨rfl, rfl, rfl⟩, trivial⟩ (by decide))
 ·rintro out_0 (hJ1 : freeLR_L0 l names foe now (names.length - 0) 0 ([]) = out_0)
  show seqK _ _ _ .normal (⟨[(9, .ref 0 1 0 out_0.length)], [(0, .row 9 1 (encS out_0))], 1, [], 40, 0⟩ : St)
  refine seqK_n (sem_seq (sem_region rfl (step_r rfl rfl trivial (step_r rfl rfl trivial (step_nil (seqK_n (sem_ret ?_)))))))
  have e15 : freeLR l names foe now = out_0 := by
   unfold freeLR
   try dsimp only
   rewrite [hJ1]
   try dsimp only
   all_goals rfl
  rw [e15]
  exact answersGR [] [0] rfl ⟨trivial, trivial⟩ rfl (by (repeat' apply And.intro) <;> first | trivial | rfl | exact flat_len (fun _ => rfl) _ | exact encI_len _ | assumption) (rfl) rfl rfl rfl (by decide) rfl rfl ⟨⟨rfl, rfl⟩, trivial⟩

def cleanLR_L0 (l : List GLock) (now : Int) : Nat → Nat → (List GLock) → List GLock
  | 0, k0, out0 => out0
  | n_ + 1, k0, out0 => if ((l.getD k0 default).Until : Int) > now then cleanLR_L0 l now n_ (k0 + 1) (out0 ++ [(l.getD k0 default)]) else cleanLR_L0 l now n_ (k0 + 1) out0
def cleanLR (l : List GLock) (now : Int) : List GLock :=
  (let out_0 := cleanLR_L0 l now (l.length - 0) 0 ([]); out_0)
theorem cleanLR_ok (l : List GLock) (l_f : Bool) (now : Int) (hl : l.length ≤ 16777000) : Ok Tryd.prog 15 [.pv (.slc l.length l_f (l.flatMap encGLock)), I now] [] (.ref 0 3 0 (cleanLR l now).length) [.row 24 3 ((cleanLR l now).flatMap encGLock)] [] := by
 refine Ok.len fun hlen => ?_
 have hl_l : l.length ≤ maxLen := hlen _ (by simp [lensL, lens, lensP])
 unfold maxLen at hl_l
 refine ok_of_sem Tryd.func15 rfl ?_
 show Walks Tryd.prog _ _ ⟨[(0, .pv (.slc l.length l_f (l.flatMap encGLock))), (1, I now)], [], 0, [], 28, 0⟩
 refine sem_seq (sem_region rfl (step_n (nx' := 1) rfl rfl rfl trivial (step_nil (seqK_n (sem_seq (sem_region rfl (step_n (nx' := 2) rfl rfl rfl trivial (step_nil (seqK_n (sem_seq (sem_seq ?_)))))))))))
 refine sem_region rfl (step_r rfl rfl trivial (step_nil (seqK_n ?_)))
 refine sem_cutW (fun out_0 : List GLock => (⟨[(5, .ref 0 3 0 out_0.length)], [(0, .row 24 3 (out_0.flatMap encGLock))], 1, [], 28, 0⟩ : St)) (fun w_ => cleanLR_L0 l now (l.length - 0) 0 ([]) = w_) ?_ ?_
 ·refine sem_block ?_
  refine sem_loopT (fun w_ : Nat × (List GLock) => match w_ with | (k0, out0) => (⟨[(0, .pv (.slc l.length l_f (l.flatMap encGLock))), (1, I now), (5, .ref 0 3 0 out0.length), (6, I k0)], [(0, .row 24 3 (out0.flatMap encGLock))], 1, [], 28, 0⟩ : St)) (fun w_ : Nat × (List GLock) => match w_ with | (k0, out0) => cleanLR_L0 l now (l.length - k0) k0 out0 = cleanLR_L0 l now (l.length - 0) 0 ([]) ∧ k0 ≤ l.length ∧ out0.length ≤ k0) (fun w_ : Nat × (List GLock) => match w_ with | (k0, out0) => l.length - k0) (0, []) (⟨rfl, (by first | omega | (simp; omega)), by first | omega | simp | (simp; omega)⟩) ?_ (fun w_ hh_ => ?_)
  ·exact (Trans.ren [(0, 1), (1, 0)] (by decide +kernel) (by decide +kernel) rfl ⟨⟨rfl, rfl⟩, ⟨rfl, rfl⟩, ⟨congrArg (fun n => some (AV.ref 1 3 0 n)) (by first | rfl | simp only [List.length_set] | simp | omega | (simp; omega)), rfl⟩, ⟨rfl, rfl⟩, trivial⟩ ⟨⟨rfl, rfl, rfl⟩, trivial⟩ (by decide))
  obtain ⟨k0, out0⟩ := w_
  obtain ⟨hI0, hb0, hv0⟩ := hh_
  show Walks Tryd.prog _ _ (⟨[(0, .pv (.slc l.length l_f (l.flatMap encGLock))), (1, I now), (5, .ref 0 3 0 out0.length), (6, I k0)], [(0, .row 24 3 (out0.flatMap encGLock))], 1, [], 28, 0⟩ : St)
  refine sem_seq (sem_seq (sem_region rfl (step_r rfl rfl trivial (step_r rfl rfl trivial (step_r rfl rfl trivial (step_bin rfl rfl rfl rfl rfl trivial (step_nil (seqK_n ?_))))))))
  refine sem_cond rfl (fun h3 => ?_) (fun h3 => ?_)
  ·have g3 : (k0 : Int) < l.length := of_decide_eq_true h3
   have hm0 : l.length - k0 = (l.length - (k0 + 1)) + 1 := by omega
   refine sem_skip (seqK_n (sem_seq (sem_block (sem_seq (sem_region rfl (step_r rfl rfl trivial (step_r rfl rfl trivial ?_)))))))
   have jk4 : k0 < l.length := by first | assumption | omega | (simp only [List.length_set, List.length_append]; omega) | (simp only [IntKind.wrap_i64] at *; omega) | (simp; omega) | simp_all
   refine step_idxS (k := k0) rfl rfl rfl rfl jk4 (flat_ne (s := 3) (enc := encGLock) (fun _ => rfl) (by decide) jk4) rfl (step_r rfl rfl (by decide) (step_load_one rfl rfl rfl (flat_get (s := 3) (enc := encGLock) (fun _ => rfl) (get_getD jk4) (o := 2) rfl (by decide)) rfl (step_r rfl rfl trivial (step_bin rfl rfl rfl rfl rfl trivial (step_nil (seqK_n ?_))))))
   refine sem_cond rfl (fun h6 => ?_) (fun h6 => ?_)
   ·have g6 : ((l.getD k0 default).Until : Int) > now := of_decide_eq_true h6
    refine sem_region rfl (step_r rfl rfl trivial (step_r rfl rfl trivial (step_r rfl rfl trivial (step_idxS (k := k0) rfl rfl rfl rfl jk4 (flat_ne (s := 3) (enc := encGLock) (fun _ => rfl) (by decide) jk4) rfl (step_load_row rfl rfl rfl (flat_lt (s := 3) (enc := encGLock) (fun _ => rfl) jk4) (flat_take (s := 3) (enc := encGLock) (fun _ => rfl) (get_getD jk4)) rfl (step_n (o := .row _ _ [_, _, _]) (nx' := 2) rfl rfl rfl (by decide) ?_))))))
    refine step_appendC (m := 1) (new := [_, _, _]) (cs' := (out0 ++ [(l.getD k0 default)]).flatMap encGLock) (n' := (out0 ++ [(l.getD k0 default)]).length) (H' := [(1, .row _ _ _), (0, .row _ _ _)]) rfl rfl rfl (rfl) rfl rfl rfl rfl rfl rfl (flat_len (s := 3) (enc := encGLock) (fun _ => rfl) out0) (rfl) (by first | decide | (unfold maxGrow; omega) | (unfold maxGrow; simp; omega) | (unfold maxGrow; simp only [List.length_append, List.length_take, List.length_drop, List.length_cons, List.length_nil, IntKind.wrap_i64] at *; omega)) (len_snoc out0 _) (((flat_snoc (enc := encGLock) (l := out0) (l.getD k0 default))).symm) (.inl rfl) rfl rfl (.keep rfl (.keep rfl .nil)) (.keep rfl (.keep rfl (.keep rfl (.keep rfl (.keep rfl (.lose (v' := .undef) rfl (.keep rfl (.keep rfl (.keep rfl (.keep rfl (.keep rfl (.keep rfl (.keep rfl (.keep rfl (.keep rfl (.keep rfl (.keep rfl (.keep rfl (.keep rfl (.lose (v' := .undef) rfl (.keep rfl .nil))))))))))))))))))))) ?_
    refine step_r rfl rfl trivial (step_nil (blkK_n (seqK_n (sem_region rfl (step_r rfl rfl trivial (step_bin rfl rfl rfl rfl rfl trivial (step_r rfl rfl trivial (step_nil ?_))))))))
    have e8 : cleanLR_L0 l now (l.length - k0) k0 out0 = cleanLR_L0 l now (l.length - (k0 + 1)) (k0 + 1) (out0 ++ [(l.getD k0 default)]) := by
     rewrite [hm0]
     rewrite [cleanLR_L0]
     try dsimp only
     rewrite [if_pos g6]
     all_goals rfl
    exact lup_againT (k0 + 1, (out0 ++ [(l.getD k0 default)])) ⟨e8.symm.trans hI0, (by omega), by first | omega | assumption | (simp only [List.length_append, List.length_cons, List.length_nil, List.length_set]; omega) | (simp; omega) | grind⟩ (by show l.length - (k0 + 1) < l.length - k0; omega) (Trans.ren [] (by decide +kernel) (by decide +kernel) rfl ⟨⟨rfl, rfl⟩, ⟨rfl, rfl⟩, ⟨rfl, rfl⟩, ⟨congrArg (fun n => some (I n)) (wrapI (k := k0) (by first | omega | (simp; omega))), rfl⟩, trivial⟩ ⟨⟨rfl, rfl, rfl⟩, trivial⟩ (by decide))
   ·have g6 : ¬ (((l.getD k0 default).Until : Int) > now) := of_decide_eq_false h6
    refine sem_skip (blkK_n (seqK_n (sem_region rfl (step_r rfl rfl trivial (step_bin rfl rfl rfl rfl rfl trivial (step_r rfl rfl trivial (step_nil ?_)))))))
    have e10 : cleanLR_L0 l now (l.length - k0) k0 out0 = cleanLR_L0 l now (l.length - (k0 + 1)) (k0 + 1) out0 := by
     rewrite [hm0]
     rewrite [cleanLR_L0]
     try dsimp only
     rewrite [if_neg g6]
     all_goals rfl
    exact lup_againT (k0 + 1, out0) ⟨e10.symm.trans hI0, (by omega), by first | omega | assumption | (simp only [List.length_append, List.length_cons, List.length_nil, List.length_set]; omega) | (simp; omega) | grind⟩ (by show l.length - (k0 + 1) < l.length - k0; omega) (Trans.ren [] (by decide +kernel) (by decide +kernel) rfl ⟨⟨rfl, rfl⟩, ⟨rfl, rfl⟩, ⟨rfl, rfl⟩, ⟨congrArg (fun n => some (I n)) (wrapI (k := k0) (by first | omega | (simp; omega))), rfl⟩, trivial⟩ ⟨⟨rfl, rfl, rfl⟩, trivial⟩ (by decide))
  ·have g3 : ¬ ((k0 : Int) < l.length) := of_decide_eq_false h3
   have hm0 : l.length - k0 = 0 := by omega
   refine sem_exit (seqK_e (lupK_e (blkK_t rfl ?_)))
   have e11 : cleanLR_L0 l now (l.length - 0) 0 ([]) = out0 := by
    rewrite [← hI0, hm0]
    rewrite [cleanLR_L0]
    try dsimp only
    all_goals rfl
   exact cutW_n out0 e11 (Trans.ren [] (by decide +kernel) (by decide +kernel) rfl ⟨⟨rfl, rfl⟩, trivial⟩ ⟨⟨rfl, rfl, rfl⟩, trivial⟩ (by decide))
 ·rintro out_0 (hJ1 : cleanLR_L0 l now (l.length - 0) 0 ([]) = out_0)
  show seqK _ _ _ .normal (⟨[(5, .ref 0 3 0 out_0.length)], [(0, .row 24 3 (out_0.flatMap encGLock))], 1, [], 28, 0⟩ : St)
  refine seqK_n (sem_seq (sem_region rfl (step_r rfl rfl trivial (step_r rfl rfl trivial (step_nil (seqK_n (sem_ret ?_)))))))
  have e12 : cleanLR l now = out_0 := by
   unfold cleanLR
   try dsimp only
   rewrite [hJ1]
   try dsimp only
   all_goals rfl
  rw [e12]
  exact answersGR [] [0] rfl ⟨trivial, trivial⟩ rfl (by (repeat' apply And.intro) <;> first | trivial | rfl | exact flat_len (fun _ => rfl) _ | exact encI_len _ | assumption) (rfl) rfl rfl rfl (by decide) rfl rfl ⟨⟨rfl, rfl⟩, trivial⟩

def sameLR_L0 (a : List GLock) (b : List GLock) : Nat → Nat → Sum Bool Unit
  | 0, k0 => .inr ()
  | n_ + 1, k0 => if ((((a.getD k0 default).Name) == ((b.getD k0 default).Name)) && ((((a.getD k0 default).Foe) == ((b.getD k0 default).Foe)) && ((((a.getD k0 default).Until) == ((b.getD k0 default).Until)) && true))) = true then sameLR_L0 a b n_ (k0 + 1) else .inl false
def sameLR (a : List GLock) (b : List GLock) : Bool :=
  if (a.length : Int) = b.length then (match sameLR_L0 a b (a.length - 0) 0 with
    | .inl r_ => r_
    | .inr () => true) else false
theorem sameLR_ok (a : List GLock) (a_f : Bool) (b : List GLock) (b_f : Bool) : Ok Tryd.prog 14 [.pv (.slc a.length a_f (a.flatMap encGLock)), .pv (.slc b.length b_f (b.flatMap encGLock))] [] (B (sameLR a b)) [] [] := by
 refine Ok.len fun hlen => ?_
 have hl_a : a.length ≤ maxLen := hlen _ (by simp [lensL, lens, lensP])
 have hl_b : b.length ≤ maxLen := hlen _ (by simp [lensL, lens, lensP])
 unfold maxLen at hl_a hl_b
 refine ok_of_sem Tryd.func14 rfl ?_
 show Walks Tryd.prog _ _ ⟨[(0, .pv (.slc a.length a_f (a.flatMap encGLock))), (1, .pv (.slc b.length b_f (b.flatMap encGLock)))], [], 0, [], 26, 0⟩
 refine sem_seq (sem_region rfl (step_r rfl rfl trivial (step_nil (seqK_n (sem_seq (sem_seq (sem_region rfl (step_r rfl rfl trivial (step_r rfl rfl trivial (step_r rfl rfl trivial (step_r rfl rfl trivial ?_)))))))))))
 refine step_bin rfl rfl rfl rfl rfl trivial (step_nil (seqK_n ?_))
 refine sem_cond rfl (fun h1 => ?_) (fun h1 => ?_)
 ·have g1 : ¬ ((a.length : Int) = b.length) := bne_t h1
  refine sem_seq (sem_region rfl (step_r rfl rfl trivial (step_nil (seqK_n (sem_ret (seqK_r ?_))))))
  have e2 : sameLR a b = false := by
   unfold sameLR
   try dsimp only
   rewrite [if_neg g1]
   all_goals rfl
  rw [e2]
  exact answersR rfl ⟨trivial, trivial⟩ (rfl) rfl
 ·have g1 : (a.length : Int) = b.length := bne_f h1
  refine sem_skip (seqK_n (sem_seq (sem_seq (sem_region rfl (step_r rfl rfl trivial (step_nil (seqK_n ?_)))))))
  refine sem_cutW (fun w_ : Unit => match w_ with | () => (⟨[], [], 0, [], 26, 0⟩ : St)) (fun w_ => sameLR_L0 a b (a.length - 0) 0 = .inr w_) ?_ ?_
  ·refine sem_block ?_
   refine sem_loopT (fun k0 : Nat => (⟨[(0, .pv (.slc a.length a_f (a.flatMap encGLock))), (1, .pv (.slc b.length b_f (b.flatMap encGLock))), (5, I k0)], [], 0, [], 26, 0⟩ : St)) (fun k0 : Nat => sameLR_L0 a b (a.length - k0) k0 = sameLR_L0 a b (a.length - 0) 0 ∧ k0 ≤ a.length) (fun k0 : Nat => a.length - k0) 0 (⟨rfl, (by first | omega | (simp; omega))⟩) ?_ (fun k0 hh_ => ?_)
   ·exact (Trans.ren [] (by decide +kernel) (by decide +kernel) rfl ⟨⟨rfl, rfl⟩, ⟨rfl, rfl⟩, ⟨rfl, rfl⟩, trivial⟩ trivial (by decide))
   obtain ⟨hI0, hb0⟩ := hh_
   show Walks Tryd.prog _ _ (⟨[(0, .pv (.slc a.length a_f (a.flatMap encGLock))), (1, .pv (.slc b.length b_f (b.flatMap encGLock))), (5, I k0)], [], 0, [], 26, 0⟩ : St)
   refine sem_seq (sem_seq (sem_region rfl (step_r rfl rfl trivial (step_r rfl rfl trivial (step_r rfl rfl trivial (step_bin rfl rfl rfl rfl rfl trivial (step_nil (seqK_n ?_))))))))
   refine sem_cond rfl (fun h5 => ?_) (fun h5 => ?_)
   ·have g5 : (k0 : Int) < a.length := of_decide_eq_true h5
    have hm0 : a.length - k0 = (a.length - (k0 + 1)) + 1 := by omega
    refine sem_skip (seqK_n (sem_seq (sem_block (sem_seq ?_))))
    refine sem_drawn rfl (by decide +kernel) rfl ?_
    refine step_r rfl rfl trivial (step_r rfl rfl trivial ?_)
    have jk6 : k0 < a.length := by first | assumption | omega | (simp only [List.length_set, List.length_append]; omega) | (simp only [IntKind.wrap_i64] at *; omega) | (simp; omega) | simp_all
    refine step_idxS (k := k0) rfl rfl rfl rfl jk6 (flat_ne (s := 3) (enc := encGLock) (fun _ => rfl) (by decide) jk6) rfl (step_load_row rfl rfl rfl (flat_lt (s := 3) (enc := encGLock) (fun _ => rfl) jk6) (flat_take (s := 3) (enc := encGLock) (fun _ => rfl) (get_getD jk6)) rfl (step_r rfl rfl trivial (step_r rfl rfl trivial ?_)))
    have jk7 : k0 < b.length := by first | assumption | omega | (simp only [List.length_set, List.length_append]; omega) | (simp only [IntKind.wrap_i64] at *; omega) | (simp; omega) | simp_all
    refine step_idxS (k := k0) rfl rfl rfl rfl jk7 (flat_ne (s := 3) (enc := encGLock) (fun _ => rfl) (by decide) jk7) rfl (step_load_row rfl rfl rfl (flat_lt (s := 3) (enc := encGLock) (fun _ => rfl) jk7) (flat_take (s := 3) (enc := encGLock) (fun _ => rfl) (get_getD jk7)) rfl ?_)
    refine step_neqA rfl rfl rfl (by kernel_rfl) rfl rfl rfl rfl rfl ?_
    refine step_nil (seqK_n ?_)
    refine sem_cond rfl (fun h8 => ?_) (fun h8 => ?_)
    ·have g8 : ¬ (((((a.getD k0 default).Name) == ((b.getD k0 default).Name)) && ((((a.getD k0 default).Foe) == ((b.getD k0 default).Foe)) && ((((a.getD k0 default).Until) == ((b.getD k0 default).Until)) && true))) = true) := boo_f (not_t h8)
     refine sem_seq (sem_region rfl (step_r rfl rfl trivial (step_nil (seqK_n (sem_ret (blkK_r (seqK_r (lupK_r (blkK_r (cutW_r (seqK_r ?_)))))))))))
     have e9 : sameLR_L0 a b (a.length - 0) 0 = .inl false := by
      rewrite [← hI0, hm0]
      rewrite [sameLR_L0]
      try dsimp only
      rewrite [if_neg g8]
      all_goals rfl
     have e10 : sameLR a b = false := by
      unfold sameLR
      try dsimp only
      rewrite [if_pos g1, e9]
      try dsimp only
      all_goals rfl
     rw [e10]
     exact answersR rfl ⟨trivial, trivial⟩ (rfl) rfl
    ·have g8 : ((((a.getD k0 default).Name) == ((b.getD k0 default).Name)) && ((((a.getD k0 default).Foe) == ((b.getD k0 default).Foe)) && ((((a.getD k0 default).Until) == ((b.getD k0 default).Until)) && true))) = true := (not_f h8)
     refine sem_skip (blkK_n (seqK_n (sem_region rfl (step_r rfl rfl trivial (step_bin rfl rfl rfl rfl rfl trivial (step_r rfl rfl trivial (step_nil ?_)))))))
     have e12 : sameLR_L0 a b (a.length - k0) k0 = sameLR_L0 a b (a.length - (k0 + 1)) (k0 + 1) := by
      rewrite [hm0]
      rewrite [sameLR_L0]
      try dsimp only
      rewrite [if_pos g8]
      all_goals rfl
     exact lup_againT (k0 + 1) ⟨e12.symm.trans hI0, (by omega)⟩ (by show a.length - (k0 + 1) < a.length - k0; omega) (Trans.ren [] (by decide +kernel) (by decide +kernel) rfl ⟨⟨rfl, rfl⟩, ⟨rfl, rfl⟩, ⟨congrArg (fun n => some (I n)) (wrapI (k := k0) (by first | omega | (simp; omega))), rfl⟩, trivial⟩ trivial (by decide))
   ·have g5 : ¬ ((k0 : Int) < a.length) := of_decide_eq_false h5
    have hm0 : a.length - k0 = 0 := by omega
    refine sem_exit (seqK_e (lupK_e (blkK_t rfl ?_)))
    have e13 : sameLR_L0 a b (a.length - 0) 0 = .inr () := by
     rewrite [← hI0, hm0]
     rewrite [sameLR_L0]
     try dsimp only
     all_goals rfl
    exact cutW_n () e13 (Trans.ren [] (by decide +kernel) (by decide +kernel) rfl trivial trivial (by decide))
  ·rintro ⟨⟩ (hJ3 : sameLR_L0 a b (a.length - 0) 0 = .inr ())
   show seqK _ _ _ .normal (⟨[], [], 0, [], 26, 0⟩ : St)
   refine seqK_n (sem_seq (sem_region rfl (step_r rfl rfl trivial (step_nil (seqK_n (sem_ret ?_))))))
   have e14 : sameLR a b = true := by
    unfold sameLR
    try dsimp only
    rewrite [if_pos g1, hJ3]
    try dsimp only
    all_goals rfl
   rw [e14]
   exact answersR rfl ⟨trivial, trivial⟩ (rfl) rfl

def sameTR_L0 (a : List ((List UInt8))) (b : List ((List UInt8))) : Nat → Nat → Sum Bool Unit
  | 0, k0 => .inr ()
  | n_ + 1, k0 => if (a.getD k0 default) = (b.getD k0 default) then sameTR_L0 a b n_ (k0 + 1) else .inl false
def sameTR (a : List ((List UInt8))) (b : List ((List UInt8))) : Bool :=
  if (a.length : Int) = b.length then (match sameTR_L0 a b (a.length - 0) 0 with
    | .inl r_ => r_
    | .inr () => true) else false
theorem sameTR_ok (a : List ((List UInt8))) (a_f : Bool) (b : List ((List UInt8))) (b_f : Bool) : Ok Tryd.prog 21 [.pv (.slc a.length a_f (encS a)), .pv (.slc b.length b_f (encS b))] [] (B (sameTR a b)) [] [] := by
 refine Ok.len fun hlen => ?_
 have hl_a : a.length ≤ maxLen := hlen _ (by simp [lensL, lens, lensP])
 have hl_b : b.length ≤ maxLen := hlen _ (by simp [lensL, lens, lensP])
 unfold maxLen at hl_a hl_b
 refine ok_of_sem Tryd.func21 rfl ?_
 show Walks Tryd.prog _ _ ⟨[(0, .pv (.slc a.length a_f (encS a))), (1, .pv (.slc b.length b_f (encS b)))], [], 0, [], 26, 0⟩
 refine sem_seq (sem_region rfl (step_r rfl rfl trivial (step_nil (seqK_n (sem_seq (sem_seq (sem_region rfl (step_r rfl rfl trivial (step_r rfl rfl trivial (step_r rfl rfl trivial (step_r rfl rfl trivial ?_)))))))))))
 refine step_bin rfl rfl rfl rfl rfl trivial (step_nil (seqK_n ?_))
 refine sem_cond rfl (fun h1 => ?_) (fun h1 => ?_)
 ·have g1 : ¬ ((a.length : Int) = b.length) := bne_t h1
  refine sem_seq (sem_region rfl (step_r rfl rfl trivial (step_nil (seqK_n (sem_ret (seqK_r ?_))))))
  have e2 : sameTR a b = false := by
   unfold sameTR
   try dsimp only
   rewrite [if_neg g1]
   all_goals rfl
  rw [e2]
  exact answersR rfl ⟨trivial, trivial⟩ (rfl) rfl
 ·have g1 : (a.length : Int) = b.length := bne_f h1
  refine sem_skip (seqK_n (sem_seq (sem_seq (sem_region rfl (step_r rfl rfl trivial (step_nil (seqK_n ?_)))))))
  refine sem_cutW (fun w_ : Unit => match w_ with | () => (⟨[], [], 0, [], 26, 0⟩ : St)) (fun w_ => sameTR_L0 a b (a.length - 0) 0 = .inr w_) ?_ ?_
  ·refine sem_block ?_
   refine sem_loopT (fun k0 : Nat => (⟨[(0, .pv (.slc a.length a_f (encS a))), (1, .pv (.slc b.length b_f (encS b))), (5, I k0)], [], 0, [], 26, 0⟩ : St)) (fun k0 : Nat => sameTR_L0 a b (a.length - k0) k0 = sameTR_L0 a b (a.length - 0) 0 ∧ k0 ≤ a.length) (fun k0 : Nat => a.length - k0) 0 (⟨rfl, (by first | omega | (simp; omega))⟩) ?_ (fun k0 hh_ => ?_)
   ·exact (Trans.ren [] (by decide +kernel) (by decide +kernel) rfl ⟨⟨rfl, rfl⟩, ⟨rfl, rfl⟩, ⟨rfl, rfl⟩, trivial⟩ trivial (by decide))
   obtain ⟨hI0, hb0⟩ := hh_
   show Walks Tryd.prog _ _ (⟨[(0, .pv (.slc a.length a_f (encS a))), (1, .pv (.slc b.length b_f (encS b))), (5, I k0)], [], 0, [], 26, 0⟩ : St)
   refine sem_seq (sem_seq (sem_region rfl (step_r rfl rfl trivial (step_r rfl rfl trivial (step_r rfl rfl trivial (step_bin rfl rfl rfl rfl rfl trivial (step_nil (seqK_n ?_))))))))
   refine sem_cond rfl (fun h5 => ?_) (fun h5 => ?_)
   ·have g5 : (k0 : Int) < a.length := of_decide_eq_true h5
    have hm0 : a.length - k0 = (a.length - (k0 + 1)) + 1 := by omega
    refine sem_skip (seqK_n (sem_seq (sem_block (sem_seq ?_))))
    refine sem_drawn rfl (by decide +kernel) rfl ?_
    refine step_r rfl rfl trivial (step_r rfl rfl trivial ?_)
    have jk6 : k0 < a.length := by first | assumption | omega | (simp only [List.length_set, List.length_append]; omega) | (simp only [IntKind.wrap_i64] at *; omega) | (simp; omega) | simp_all
    refine step_idxS (k := k0) rfl rfl rfl rfl jk6 (encS_ne jk6) rfl (step_load_one rfl rfl rfl (encS_get (get_getD jk6)) rfl (step_r rfl rfl trivial (step_r rfl rfl trivial ?_)))
    have jk7 : k0 < b.length := by first | assumption | omega | (simp only [List.length_set, List.length_append]; omega) | (simp only [IntKind.wrap_i64] at *; omega) | (simp; omega) | simp_all
    refine step_idxS (k := k0) rfl rfl rfl rfl jk7 (encS_ne jk7) rfl (step_load_one rfl rfl rfl (encS_get (get_getD jk7)) rfl (step_bin rfl rfl rfl rfl rfl trivial (step_nil (seqK_n ?_))))
    refine sem_cond rfl (fun h8 => ?_) (fun h8 => ?_)
    ·have g8 : ¬ ((a.getD k0 default) = (b.getD k0 default)) := beq_f (not_t h8)
     refine sem_seq (sem_region rfl (step_r rfl rfl trivial (step_nil (seqK_n (sem_ret (blkK_r (seqK_r (lupK_r (blkK_r (cutW_r (seqK_r ?_)))))))))))
     have e9 : sameTR_L0 a b (a.length - 0) 0 = .inl false := by
      rewrite [← hI0, hm0]
      rewrite [sameTR_L0]
      try dsimp only
      rewrite [if_neg g8]
      all_goals rfl
     have e10 : sameTR a b = false := by
      unfold sameTR
      try dsimp only
      rewrite [if_pos g1, e9]
      try dsimp only
      all_goals rfl
     rw [e10]
     exact answersR rfl ⟨trivial, trivial⟩ (rfl) rfl
    ·have g8 : (a.getD k0 default) = (b.getD k0 default) := beq_t (not_f h8)
     refine sem_skip (blkK_n (seqK_n (sem_region rfl (step_r rfl rfl trivial (step_bin rfl rfl rfl rfl rfl trivial (step_r rfl rfl trivial (step_nil ?_)))))))
     have e12 : sameTR_L0 a b (a.length - k0) k0 = sameTR_L0 a b (a.length - (k0 + 1)) (k0 + 1) := by
      rewrite [hm0]
      rewrite [sameTR_L0]
      try dsimp only
      rewrite [if_pos g8]
      all_goals rfl
     exact lup_againT (k0 + 1) ⟨e12.symm.trans hI0, (by omega)⟩ (by show a.length - (k0 + 1) < a.length - k0; omega) (Trans.ren [] (by decide +kernel) (by decide +kernel) rfl ⟨⟨rfl, rfl⟩, ⟨rfl, rfl⟩, ⟨congrArg (fun n => some (I n)) (wrapI (k := k0) (by first | omega | (simp; omega))), rfl⟩, trivial⟩ trivial (by decide))
   ·have g5 : ¬ ((k0 : Int) < a.length) := of_decide_eq_false h5
    have hm0 : a.length - k0 = 0 := by omega
    refine sem_exit (seqK_e (lupK_e (blkK_t rfl ?_)))
    have e13 : sameTR_L0 a b (a.length - 0) 0 = .inr () := by
     rewrite [← hI0, hm0]
     rewrite [sameTR_L0]
     try dsimp only
     all_goals rfl
    exact cutW_n () e13 (Trans.ren [] (by decide +kernel) (by decide +kernel) rfl trivial trivial (by decide))
  ·rintro ⟨⟩ (hJ3 : sameTR_L0 a b (a.length - 0) 0 = .inr ())
   show seqK _ _ _ .normal (⟨[], [], 0, [], 26, 0⟩ : St)
   refine seqK_n (sem_seq (sem_region rfl (step_r rfl rfl trivial (step_nil (seqK_n (sem_ret ?_))))))
   have e14 : sameTR a b = true := by
    unfold sameTR
    try dsimp only
    rewrite [if_pos g1, hJ3]
    try dsimp only
    all_goals rfl
   rw [e14]
   exact answersR rfl ⟨trivial, trivial⟩ (rfl) rfl

def sameIR_L0 (a : List Int) (b : List Int) : Nat → Nat → Sum Bool Unit
  | 0, k0 => .inr ()
  | n_ + 1, k0 => if (a.getD k0 default : Int) = (b.getD k0 default) then sameIR_L0 a b n_ (k0 + 1) else .inl false
def sameIR (a : List Int) (b : List Int) : Bool :=
  if (a.length : Int) = b.length then (match sameIR_L0 a b (a.length - 0) 0 with
    | .inl r_ => r_
    | .inr () => true) else false
theorem sameIR_ok (a : List Int) (a_f : Bool) (b : List Int) (b_f : Bool) : Ok Tryd.prog 18 [.pv (.slc a.length a_f (encI a)), .pv (.slc b.length b_f (encI b))] [] (B (sameIR a b)) [] [] := by
 refine Ok.len fun hlen => ?_
 have hl_a : a.length ≤ maxLen := hlen _ (by simp [lensL, lens, lensP])
 have hl_b : b.length ≤ maxLen := hlen _ (by simp [lensL, lens, lensP])
 unfold maxLen at hl_a hl_b
 refine ok_of_sem Tryd.func18 rfl ?_
 show Walks Tryd.prog _ _ ⟨[(0, .pv (.slc a.length a_f (encI a))), (1, .pv (.slc b.length b_f (encI b)))], [], 0, [], 26, 0⟩
 refine sem_seq (sem_region rfl (step_r rfl rfl trivial (step_nil (seqK_n (sem_seq (sem_seq (sem_region rfl (step_r rfl rfl trivial (step_r rfl rfl trivial (step_r rfl rfl trivial (step_r rfl rfl trivial ?_)))))))))))
 refine step_bin rfl rfl rfl rfl rfl trivial (step_nil (seqK_n ?_))
 refine sem_cond rfl (fun h1 => ?_) (fun h1 => ?_)
 ·have g1 : ¬ ((a.length : Int) = b.length) := bne_t h1
  refine sem_seq (sem_region rfl (step_r rfl rfl trivial (step_nil (seqK_n (sem_ret (seqK_r ?_))))))
  have e2 : sameIR a b = false := by
   unfold sameIR
   try dsimp only
   rewrite [if_neg g1]
   all_goals rfl
  rw [e2]
  exact answersR rfl ⟨trivial, trivial⟩ (rfl) rfl
 ·have g1 : (a.length : Int) = b.length := bne_f h1
  refine sem_skip (seqK_n (sem_seq (sem_seq (sem_region rfl (step_r rfl rfl trivial (step_nil (seqK_n ?_)))))))
  refine sem_cutW (fun w_ : Unit => match w_ with | () => (⟨[], [], 0, [], 26, 0⟩ : St)) (fun w_ => sameIR_L0 a b (a.length - 0) 0 = .inr w_) ?_ ?_
  ·refine sem_block ?_
   refine sem_loopT (fun k0 : Nat => (⟨[(0, .pv (.slc a.length a_f (encI a))), (1, .pv (.slc b.length b_f (encI b))), (5, I k0)], [], 0, [], 26, 0⟩ : St)) (fun k0 : Nat => sameIR_L0 a b (a.length - k0) k0 = sameIR_L0 a b (a.length - 0) 0 ∧ k0 ≤ a.length) (fun k0 : Nat => a.length - k0) 0 (⟨rfl, (by first | omega | (simp; omega))⟩) ?_ (fun k0 hh_ => ?_)
   ·exact (Trans.ren [] (by decide +kernel) (by decide +kernel) rfl ⟨⟨rfl, rfl⟩, ⟨rfl, rfl⟩, ⟨rfl, rfl⟩, trivial⟩ trivial (by decide))
   obtain ⟨hI0, hb0⟩ := hh_
   show Walks Tryd.prog _ _ (⟨[(0, .pv (.slc a.length a_f (encI a))), (1, .pv (.slc b.length b_f (encI b))), (5, I k0)], [], 0, [], 26, 0⟩ : St)
   refine sem_seq (sem_seq (sem_region rfl (step_r rfl rfl trivial (step_r rfl rfl trivial (step_r rfl rfl trivial (step_bin rfl rfl rfl rfl rfl trivial (step_nil (seqK_n ?_))))))))
   refine sem_cond rfl (fun h5 => ?_) (fun h5 => ?_)
   ·have g5 : (k0 : Int) < a.length := of_decide_eq_true h5
    have hm0 : a.length - k0 = (a.length - (k0 + 1)) + 1 := by omega
    refine sem_skip (seqK_n (sem_seq (sem_block (sem_seq ?_))))
    refine sem_drawn rfl (by decide +kernel) rfl ?_
    refine step_r rfl rfl trivial (step_r rfl rfl trivial ?_)
    have jk6 : k0 < a.length := by first | assumption | omega | (simp only [List.length_set, List.length_append]; omega) | (simp only [IntKind.wrap_i64] at *; omega) | (simp; omega) | simp_all
    refine step_idxS (k := k0) rfl rfl rfl rfl jk6 (encI_ne jk6) rfl (step_load_one rfl rfl rfl (encI_get (get_getD jk6)) rfl (step_r rfl rfl trivial (step_r rfl rfl trivial ?_)))
    have jk7 : k0 < b.length := by first | assumption | omega | (simp only [List.length_set, List.length_append]; omega) | (simp only [IntKind.wrap_i64] at *; omega) | (simp; omega) | simp_all
    refine step_idxS (k := k0) rfl rfl rfl rfl jk7 (encI_ne jk7) rfl (step_load_one rfl rfl rfl (encI_get (get_getD jk7)) rfl (step_bin rfl rfl rfl rfl rfl trivial (step_nil (seqK_n ?_))))
    refine sem_cond rfl (fun h8 => ?_) (fun h8 => ?_)
    ·have g8 : ¬ ((a.getD k0 default : Int) = (b.getD k0 default)) := bne_t h8
     refine sem_seq (sem_region rfl (step_r rfl rfl trivial (step_nil (seqK_n (sem_ret (blkK_r (seqK_r (lupK_r (blkK_r (cutW_r (seqK_r ?_)))))))))))
     have e9 : sameIR_L0 a b (a.length - 0) 0 = .inl false := by
      rewrite [← hI0, hm0]
      rewrite [sameIR_L0]
      try dsimp only
      rewrite [if_neg g8]
      all_goals rfl
     have e10 : sameIR a b = false := by
      unfold sameIR
      try dsimp only
      rewrite [if_pos g1, e9]
      try dsimp only
      all_goals rfl
     rw [e10]
     exact answersR rfl ⟨trivial, trivial⟩ (rfl) rfl
    ·have g8 : (a.getD k0 default : Int) = (b.getD k0 default) := bne_f h8
     refine sem_skip (blkK_n (seqK_n (sem_region rfl (step_r rfl rfl trivial (step_bin rfl rfl rfl rfl rfl trivial (step_r rfl rfl trivial (step_nil ?_)))))))
     have e12 : sameIR_L0 a b (a.length - k0) k0 = sameIR_L0 a b (a.length - (k0 + 1)) (k0 + 1) := by
      rewrite [hm0]
      rewrite [sameIR_L0]
      try dsimp only
      rewrite [if_pos g8]
      all_goals rfl
     exact lup_againT (k0 + 1) ⟨e12.symm.trans hI0, (by omega)⟩ (by show a.length - (k0 + 1) < a.length - k0; omega) (Trans.ren [] (by decide +kernel) (by decide +kernel) rfl ⟨⟨rfl, rfl⟩, ⟨rfl, rfl⟩, ⟨congrArg (fun n => some (I n)) (wrapI (k := k0) (by first | omega | (simp; omega))), rfl⟩, trivial⟩ trivial (by decide))
   ·have g5 : ¬ ((k0 : Int) < a.length) := of_decide_eq_false h5
    have hm0 : a.length - k0 = 0 := by omega
    refine sem_exit (seqK_e (lupK_e (blkK_t rfl ?_)))
    have e13 : sameIR_L0 a b (a.length - 0) 0 = .inr () := by
     rewrite [← hI0, hm0]
     rewrite [sameIR_L0]
     try dsimp only
     all_goals rfl
    exact cutW_n () e13 (Trans.ren [] (by decide +kernel) (by decide +kernel) rfl trivial trivial (by decide))
  ·rintro ⟨⟩ (hJ3 : sameIR_L0 a b (a.length - 0) 0 = .inr ())
   show seqK _ _ _ .normal (⟨[], [], 0, [], 26, 0⟩ : St)
   refine seqK_n (sem_seq (sem_region rfl (step_r rfl rfl trivial (step_nil (seqK_n (sem_ret ?_))))))
   have e14 : sameIR a b = true := by
    unfold sameIR
    try dsimp only
    rewrite [if_pos g1, hJ3]
    try dsimp only
    all_goals rfl
   rw [e14]
   exact answersR rfl ⟨trivial, trivial⟩ (rfl) rfl
end Go.Proofs.YtnboadipofkcjaaDoor

import Derived.Test.YtnboadipofkcjaaDoorLockref
namespace Go.Proofs.YtnboadipofkcjaaDoor
open Go Go.RowKit Go.Proofs.YtnboadipofkcjaaDoorVm
attribute [local irreducible] opsWp AnswersE OpsS
set_option maxHeartbeats 400000
set_option maxRecDepth 100000
set_option linter.all false
def few37_L0 (l : List GLock) : Nat → Nat → Sum Bool Unit
  | 0, k0 => .inr ()
  | n_ + 1, k0 => if (((l.getD k0 default).Name).length : Int) > 100 then .inl false else few37_L0 l n_ (k0 + 1)
def few37 (l : List GLock) : Bool :=
  (match few37_L0 l ((min l.length 300) - 0) 0 with
    | .inl r_ => r_
    | .inr () => (decide ((l.length : Int) ≤ 250)))
theorem few37_ok (l : List GLock) (l_f : Bool) : Ok Tryd.prog 8 [.pv (.slc l.length l_f (l.flatMap encGLock))] [] (B (few37 l)) [] [] := by
 refine Ok.len fun hlen => ?_
 have hl_l : l.length ≤ maxLen := hlen _ (by simp [lensL, lens, lensP])
 unfold maxLen at hl_l
 refine ok_of_sem Tryd.func8 rfl ?_
 show Walks Tryd.prog _ _ ⟨[(0, .pv (.slc l.length l_f (l.flatMap encGLock)))], [], 0, [], 24, 0⟩
 refine sem_seq (sem_region rfl (step_r rfl rfl trivial (step_nil (seqK_n (sem_seq (sem_seq (sem_region rfl (step_r rfl rfl trivial (step_nil (seqK_n ?_))))))))))
 refine sem_cutW (fun w_ : Unit => match w_ with | () => (⟨[(0, .pv (.slc l.length l_f (l.flatMap encGLock)))], [], 0, [], 24, 0⟩ : St)) (fun w_ => few37_L0 l ((min l.length 300) - 0) 0 = .inr w_) ?_ ?_
 ·refine sem_block ?_
  refine sem_loopT (fun k0 : Nat => (⟨[(0, .pv (.slc l.length l_f (l.flatMap encGLock))), (3, I k0)], [], 0, [], 24, 0⟩ : St)) (fun k0 : Nat => few37_L0 l ((min l.length 300) - k0) k0 = few37_L0 l ((min l.length 300) - 0) 0 ∧ k0 ≤ min l.length 300) (fun k0 : Nat => min l.length 300 - k0) 0 (⟨rfl, (by first | omega | (simp; omega))⟩) ?_ (fun k0 hh_ => ?_)
  ·exact (Trans.ren [] (by decide +kernel) (by decide +kernel) rfl ⟨⟨rfl, rfl⟩, ⟨rfl, rfl⟩, trivial⟩ trivial (by decide))
  obtain ⟨hI0, hb0⟩ := hh_
  show Walks Tryd.prog _ _ (⟨[(0, .pv (.slc l.length l_f (l.flatMap encGLock))), (3, I k0)], [], 0, [], 24, 0⟩ : St)
  refine sem_seq (sem_seq (sem_region rfl (step_r rfl rfl trivial (step_r rfl rfl trivial (step_r rfl rfl trivial (step_bin rfl rfl rfl rfl rfl trivial (step_r rfl rfl trivial ?_)))))))
  refine step_gs rfl (fun h4 => ?_) (fun h4 => ?_)
  ·have g4 : (k0 : Int) < l.length := of_decide_eq_true h4
   refine step_g1 rfl h4 (step_r rfl rfl trivial (step_g1 rfl h4 (step_bin rfl rfl rfl rfl rfl trivial (step_pickT rfl h4 rfl rfl (step_nil (seqK_n ?_))))))
   refine sem_cond rfl (fun h6 => ?_) (fun h6 => ?_)
   ·have g6 : (k0 : Int) < 300 := of_decide_eq_true h6
    have hm0 : min l.length 300 - k0 = (min l.length 300 - (k0 + 1)) + 1 := by omega
    refine sem_skip (seqK_n (sem_seq (sem_block (sem_seq (sem_region rfl (step_r rfl rfl trivial (step_r rfl rfl trivial ?_)))))))
    have jk7 : k0 < l.length := by first | assumption | omega | (simp only [List.length_set, List.length_append]; omega) | (simp only [IntKind.wrap_i64] at *; omega) | (simp; omega) | simp_all
    refine step_idxS (k := k0) rfl rfl rfl rfl jk7 (flat_ne (s := 3) (enc := encGLock) (fun _ => rfl) (by decide) jk7) rfl (step_r rfl rfl (by decide) (step_load_one rfl rfl rfl (flat_get (s := 3) (enc := encGLock) (fun _ => rfl) (get_getD jk7) (o := 0) rfl (by decide)) rfl (step_r rfl rfl trivial (step_bin rfl rfl rfl rfl rfl trivial (step_nil (seqK_n ?_))))))
    refine sem_cond rfl (fun h8 => ?_) (fun h8 => ?_)
    ·have g8 : (((l.getD k0 default).Name).length : Int) > 100 := of_decide_eq_true h8
     refine sem_seq (sem_region rfl (step_r rfl rfl trivial (step_nil (seqK_n (sem_ret (blkK_r (seqK_r (lupK_r (blkK_r (cutW_r (seqK_r ?_)))))))))))
     have e9 : few37_L0 l ((min l.length 300) - 0) 0 = .inl false := by
      rewrite [← hI0, hm0]
      rewrite [few37_L0]
      try dsimp only
      rewrite [if_pos g8]
      all_goals rfl
     have e10 : few37 l = false := by
      unfold few37
      try dsimp only
      rewrite [e9]
      try dsimp only
      all_goals rfl
     rw [e10]
     exact answersR rfl ⟨trivial, trivial⟩ (rfl) rfl
    ·have g8 : ¬ ((((l.getD k0 default).Name).length : Int) > 100) := of_decide_eq_false h8
     refine sem_skip (blkK_n (seqK_n (sem_region rfl (step_r rfl rfl trivial (step_bin rfl rfl rfl rfl rfl trivial (step_r rfl rfl trivial (step_nil ?_)))))))
     have e12 : few37_L0 l ((min l.length 300) - k0) k0 = few37_L0 l ((min l.length 300) - (k0 + 1)) (k0 + 1) := by
      rewrite [hm0]
      rewrite [few37_L0]
      try dsimp only
      rewrite [if_neg g8]
      all_goals rfl
     exact lup_againT (k0 + 1) ⟨e12.symm.trans hI0, (by omega)⟩ (by show min l.length 300 - (k0 + 1) < min l.length 300 - k0; omega) (Trans.ren [] (by decide +kernel) (by decide +kernel) rfl ⟨⟨rfl, rfl⟩, ⟨congrArg (fun n => some (I n)) (wrapI (k := k0) (by first | omega | (simp; omega))), rfl⟩, trivial⟩ trivial (by decide))
   ·have g6 : ¬ ((k0 : Int) < 300) := of_decide_eq_false h6
    have hm0 : min l.length 300 - k0 = 0 := by omega
    refine sem_exit (seqK_e (lupK_e (blkK_t rfl ?_)))
    have e13 : few37_L0 l ((min l.length 300) - 0) 0 = .inr () := by
     rewrite [← hI0, hm0]
     rewrite [few37_L0]
     try dsimp only
     all_goals rfl
    exact cutW_n () e13 (Trans.ren [] (by decide +kernel) (by decide +kernel) rfl ⟨⟨rfl, rfl⟩, trivial⟩ trivial (by decide))
  ·have g4 : ¬ ((k0 : Int) < l.length) := of_decide_eq_false h4
   refine step_g0 rfl h4 rfl (step_g0 rfl h4 rfl (step_pickF rfl h4 rfl rfl (step_nil (seqK_n (sem_condF rfl ?_)))))
   have hm0 : min l.length 300 - k0 = 0 := by omega
   refine sem_exit (seqK_e (lupK_e (blkK_t rfl ?_)))
   have e14 : few37_L0 l ((min l.length 300) - 0) 0 = .inr () := by
    rewrite [← hI0, hm0]
    rewrite [few37_L0]
    try dsimp only
    all_goals rfl
   exact cutW_n () e14 (Trans.ren [] (by decide +kernel) (by decide +kernel) rfl ⟨⟨rfl, rfl⟩, trivial⟩ trivial (by decide))
 ·rintro ⟨⟩ (hJ1 : few37_L0 l ((min l.length 300) - 0) 0 = .inr ())
  show seqK _ _ _ .normal (⟨[(0, .pv (.slc l.length l_f (l.flatMap encGLock)))], [], 0, [], 24, 0⟩ : St)
  refine seqK_n (sem_seq (sem_region rfl (step_r rfl rfl trivial (step_r rfl rfl trivial (step_bin rfl rfl rfl rfl rfl trivial (step_r rfl rfl trivial (step_nil (seqK_n (sem_ret ?_)))))))))
  have e16 : few37 l = (decide ((l.length : Int) ≤ 250)) := by
   unfold few37
   try dsimp only
   rewrite [hJ1]
   try dsimp only
   all_goals rfl
  rw [e16]
  exact answersR rfl ⟨trivial, trivial⟩ (rfl) rfl

theorem few37_L0_go (l : List GLock) : ∀ (n k : Nat), few37_L0 l n k = .inr () → ∀ j, k ≤ j → j < k + n → (l.getD j default).Name.length ≤ 100
  | 0, k, _, j, h1, h2 => by omega
  | n + 1, k, h, j, h1, h2 => by
    rw [few37_L0] at h
    split at h
    · cases h
    · rename_i h0
      by_cases hj : j = k
      · subst hj; omega
      · exact few37_L0_go l n (k + 1) h j (by omega) (by omega)
theorem few37_L0_t (l : List GLock) : ∀ (n k : Nat), few37_L0 l n k ≠ .inl true
  | 0, k => by rw [few37_L0]; intro h; cases h
  | n + 1, k => by
    have ih := few37_L0_t l n (k + 1)
    rw [few37_L0]
    split
    · intro h; cases h
    · exact ih
theorem few37_is {l : List GLock} (h : few37 l = true) : l.length ≤ 250 ∧ ∀ z ∈ l, z.Name.length ≤ 100 := by
  unfold few37 at h
  split at h
  · rename_i r hr; subst h; exact absurd hr (few37_L0_t _ _ _)
  · rename_i hr
    have hl : l.length ≤ 250 := by have := of_decide_eq_true h; omega
    refine ⟨hl, fun z hz => ?_⟩
    obtain ⟨j, hj, rfl⟩ := List.getElem_of_mem hz
    have := few37_L0_go l _ _ hr j (Nat.zero_le _) (by omega)
    rw [List.getD_eq_getElem?_getD, List.getElem?_eq_getElem hj] at this
    exact this
theorem few37_l {l : List GLock} (h : few37 l = true) : l.length ≤ 250 := (few37_is h).1
theorem few37_n {l : List GLock} (h : few37 l = true) : ∀ z ∈ l, z.Name.length ≤ 9223372036854775807 := fun z hz => Nat.le_trans ((few37_is h).2 z hz) (by decide)
theorem few37_x {x : GLock} (h : few37 [x] = true) : x.Name.length ≤ 9223372036854775807 := few37_n h x (List.mem_singleton.2 rfl)

theorem cleanL_len (l : List GLock) (now : Int) : (cleanL l now).length ≤ l.length := List.length_filter_le _ _

def small37 : Bool :=
  if ((addL ([]) ([98]) 2 10).2 : Int) = 0 then (if ((addL ((addL ([]) ([98]) 2 10).1) ([97]) 3 5).2 : Int) = 0 then (if ((addL ((addL ((addL ([]) ([98]) 2 10).1) ([97]) 3 5).1) ([98]) 2 7).2 : Int) = 0 then (if sameLR ((addL ((addL ((addL ([]) ([98]) 2 10).1) ([97]) 3 5).1) ([98]) 2 7).1) ([(⟨[97], 3, 5⟩ : GLock), (⟨[98], 2, 10⟩ : GLock)]) = true then (if ((untilL ((addL ((addL ((addL ([]) ([98]) 2 10).1) ([97]) 3 5).1) ([98]) 2 7).1) ([98]) 2 9).1 : Int) = 10 then (if (untilL ((addL ((addL ((addL ([]) ([98]) 2 10).1) ([97]) 3 5).1) ([98]) 2 7).1) ([98]) 2 9).2 = true then (if (untilL ((addL ((addL ((addL ([]) ([98]) 2 10).1) ([97]) 3 5).1) ([98]) 2 7).1) ([98]) 2 10).2 = true then false else if (turnL 10 7 2 : Int) = 16 then (if (turnL 16 7 2 : Int) = 23 then (if ((cleanL ((addL ((addL ((addL ([]) ([98]) 2 10).1) ([97]) 3 5).1) ([98]) 2 7).1) 5).length : Int) = 1 then (if sameIR (ofL ((addL ((addL ((addL ([]) ([98]) 2 10).1) ([97]) 3 5).1) ([98]) 2 7).1) ([97]) 4) ([3]) = true then (if sameTR (freeL ((addL ((addL ((addL ([]) ([98]) 2 10).1) ([97]) 3 5).1) ([98]) 2 7).1) ([[97], [98], [99]]) 2 9) ([[97], [99]]) = true then (rightL ((addL ((addL ((addL ([]) ([98]) 2 10).1) ([97]) 3 5).1) ([98]) 2 7).1)) else false) else false) else false) else false) else false) else false) else false) else false) else false) else false) else false
theorem small37_ok  : Ok Tryd.prog 7 [] [] (B (small37)) [] [] := by
 refine ok_of_sem Tryd.func7 rfl ?_
 show Walks Tryd.prog _ _ ⟨[], [], 0, [], 94, 0⟩
 refine sem_seq (sem_region rfl (step_r rfl rfl trivial (step_nil (seqK_n (sem_seq (sem_region rfl ?_))))))
 refine step_callN (out' := .tup [.ref 0 _ _ _, _]) (H' := [(0, .row _ _ _)]) (nx' := 1) rfl rfl rfl rfl rfl rfl rfl (by (repeat' apply And.intro) <;> first | trivial | rfl | exact flat_len (fun _ => rfl) _ | exact encI_len _ | exact encS_len _ | exact Nat.le_of_ble_eq_true rfl | assumption) (addL_ok ([]) false ([98]) 2 10 (by first | omega | (simp; done) | (simp only [IntKind.wrap_i64]; omega) | (simp only [List.length_nil, List.length_cons] at *; omega) | (simp only [IntKind.wrap_i64] at *; omega) | (simp; omega))) rfl rfl rfl rfl ?_
 have p1 := addL_len ([]) ([98]) 2 10 (by first | omega | (simp; done) | (simp only [IntKind.wrap_i64]; omega) | (simp only [List.length_nil, List.length_cons] at *; omega) | (simp only [IntKind.wrap_i64] at *; omega) | (simp; omega))
 refine step_r rfl rfl trivial (step_r rfl rfl trivial (step_r rfl rfl trivial (step_r rfl rfl trivial (step_r rfl rfl trivial (step_nil (seqK_n (sem_seq (sem_region rfl (step_r rfl rfl trivial ?_)))))))))
 refine step_callJ (Hin := [.row _ _ _]) (out' := .tup [.ref 1 _ _ _, _]) (H' := [(1, .row _ _ _), (0, _)]) (nx' := 2) [0] rfl rfl rfl rfl rfl rfl rfl rfl rfl (by (repeat' apply And.intro) <;> first | trivial | rfl | exact flat_len (s := 3) (enc := encGLock) (fun _ => rfl) _ | exact flat_len (fun _ => rfl) _ | exact encI_len _ | exact encS_len _ | exact Nat.le_of_ble_eq_true rfl | assumption) (addL_ok ((addL ([]) ([98]) 2 10).1) false ([97]) 3 5 (by first | omega | (simp; done) | (simp only [IntKind.wrap_i64]; omega) | (simp only [List.length_nil, List.length_cons] at *; omega) | (simp only [IntKind.wrap_i64] at *; omega) | (simp; omega))) rfl (by decide) rfl rfl ⟨encGLock_solid, trivial⟩ rfl rfl rfl rfl ?_
 have p3 := addL_len ((addL ([]) ([98]) 2 10).1) ([97]) 3 5 (by first | omega | (simp; done) | (simp only [IntKind.wrap_i64]; omega) | (simp only [List.length_nil, List.length_cons] at *; omega) | (simp only [IntKind.wrap_i64] at *; omega) | (simp; omega))
 refine step_r rfl rfl trivial (step_r rfl rfl trivial (step_r rfl rfl trivial (step_r rfl rfl trivial (step_r rfl rfl trivial (step_nil (seqK_n (sem_seq (sem_region rfl (step_r rfl rfl trivial ?_)))))))))
 refine step_callJ (Hin := [.row _ _ _]) (out' := .tup [.ref 2 _ _ _, _]) (H' := [(2, .row _ _ _), (1, _), (0, _)]) (nx' := 3) [1] rfl rfl rfl rfl rfl rfl rfl rfl rfl (by (repeat' apply And.intro) <;> first | trivial | rfl | exact flat_len (s := 3) (enc := encGLock) (fun _ => rfl) _ | exact flat_len (fun _ => rfl) _ | exact encI_len _ | exact encS_len _ | exact Nat.le_of_ble_eq_true rfl | assumption) (addL_ok ((addL ((addL ([]) ([98]) 2 10).1) ([97]) 3 5).1) false ([98]) 2 7 (by first | omega | (simp; done) | (simp only [IntKind.wrap_i64]; omega) | (simp only [List.length_nil, List.length_cons] at *; omega) | (simp only [IntKind.wrap_i64] at *; omega) | (simp; omega))) rfl (by decide) rfl rfl ⟨encGLock_solid, trivial⟩ rfl rfl rfl rfl ?_
 have p5 := addL_len ((addL ((addL ([]) ([98]) 2 10).1) ([97]) 3 5).1) ([98]) 2 7 (by first | omega | (simp; done) | (simp only [IntKind.wrap_i64]; omega) | (simp only [List.length_nil, List.length_cons] at *; omega) | (simp only [IntKind.wrap_i64] at *; omega) | (simp; omega))
 refine step_r rfl rfl trivial (step_r rfl rfl trivial (step_r rfl rfl trivial (step_r rfl rfl trivial (step_r rfl rfl trivial (step_nil (seqK_n (sem_seq (sem_region rfl (step_r rfl rfl trivial ?_)))))))))
 refine step_callJ (Hin := [.row _ _ _]) (out' := .tup [_, _]) (H' := [(2, _), (1, _), (0, _)]) (nx' := 3) [2] rfl rfl rfl rfl rfl rfl rfl rfl rfl (by (repeat' apply And.intro) <;> first | trivial | rfl | exact flat_len (s := 3) (enc := encGLock) (fun _ => rfl) _ | exact flat_len (fun _ => rfl) _ | exact encI_len _ | exact encS_len _ | exact Nat.le_of_ble_eq_true rfl | assumption) (untilL_ok ((addL ((addL ((addL ([]) ([98]) 2 10).1) ([97]) 3 5).1) ([98]) 2 7).1) false ([98]) 2 9) rfl (by decide) rfl rfl trivial rfl rfl rfl rfl ?_
 refine step_r rfl rfl trivial (step_r rfl rfl trivial (step_r rfl rfl trivial (step_r rfl rfl trivial (step_r rfl rfl trivial (step_nil (seqK_n (sem_seq (sem_region rfl (step_r rfl rfl trivial ?_)))))))))
 refine step_callJ (Hin := [.row _ _ _]) (out' := .tup [_, _]) (H' := [(2, _), (1, _), (0, _)]) (nx' := 3) [2] rfl rfl rfl rfl rfl rfl rfl rfl rfl (by (repeat' apply And.intro) <;> first | trivial | rfl | exact flat_len (s := 3) (enc := encGLock) (fun _ => rfl) _ | exact flat_len (fun _ => rfl) _ | exact encI_len _ | exact encS_len _ | exact Nat.le_of_ble_eq_true rfl | assumption) (untilL_ok ((addL ((addL ((addL ([]) ([98]) 2 10).1) ([97]) 3 5).1) ([98]) 2 7).1) false ([98]) 2 10) rfl (by decide) rfl rfl trivial rfl rfl rfl rfl ?_
 refine step_r rfl rfl trivial (step_r rfl rfl trivial (step_r rfl rfl trivial (step_r rfl rfl trivial (step_r rfl rfl trivial (step_nil (seqK_n (sem_seq (sem_region rfl (step_r rfl rfl trivial (step_bin rfl rfl rfl rfl rfl trivial (step_r rfl rfl trivial ?_)))))))))))
 refine step_gs rfl (fun h12 => ?_) (fun h12 => ?_)
 ·have g12 : ((addL ([]) ([98]) 2 10).2 : Int) = 0 := beq_t h12
  refine step_g1 rfl h12 (step_r rfl rfl trivial (step_g1 rfl h12 (step_bin rfl rfl rfl rfl rfl trivial (step_pickT rfl h12 rfl rfl (step_r rfl rfl trivial ?_)))))
  refine step_gs rfl (fun h14 => ?_) (fun h14 => ?_)
  ·have g14 : ((addL ((addL ([]) ([98]) 2 10).1) ([97]) 3 5).2 : Int) = 0 := beq_t h14
   refine step_g1 rfl h14 (step_r rfl rfl trivial (step_g1 rfl h14 (step_bin rfl rfl rfl rfl rfl trivial (step_pickT rfl h14 rfl rfl (step_r rfl rfl trivial ?_)))))
   refine step_gs rfl (fun h16 => ?_) (fun h16 => ?_)
   ·have g16 : ((addL ((addL ((addL ([]) ([98]) 2 10).1) ([97]) 3 5).1) ([98]) 2 7).2 : Int) = 0 := beq_t h16
    refine step_g1 rfl h16 (step_r rfl rfl trivial (step_g1 rfl h16 (step_r (v := (.agg [_, _, _])) rfl rfl trivial (step_g1 rfl h16 (step_r (v := (.agg [_, _, _])) rfl rfl trivial (step_g1 rfl h16 (step_n (o := .row _ _ [_, _, _, _, _, _]) (nx' := 4) rfl rfl rfl (by decide) (step_g1 rfl h16 ?_))))))))
    refine step_callJ (Hin := [.row _ _ _, .row _ _ _]) (H' := [(3, _), (2, _), (1, _), (0, _)]) (nx' := 4) [2, 3] rfl rfl rfl rfl rfl rfl rfl rfl rfl (by (repeat' apply And.intro) <;> first | trivial | rfl | exact flat_len (s := 3) (enc := encGLock) (fun _ => rfl) _ | exact flat_len (fun _ => rfl) _ | exact encI_len _ | exact encS_len _ | exact Nat.le_of_ble_eq_true rfl | assumption) (sameLR_ok ((addL ((addL ((addL ([]) ([98]) 2 10).1) ([97]) 3 5).1) ([98]) 2 7).1) false ([(⟨[97], 3, 5⟩ : GLock), (⟨[98], 2, 10⟩ : GLock)]) false) rfl (by decide) rfl rfl trivial rfl rfl rfl rfl ?_
    refine step_pickT rfl h16 rfl rfl (step_r rfl rfl trivial ?_)
    refine step_gs rfl (fun h18 => ?_) (fun h18 => ?_)
    ·have g18 : sameLR ((addL ((addL ((addL ([]) ([98]) 2 10).1) ([97]) 3 5).1) ([98]) 2 7).1) ([(⟨[97], 3, 5⟩ : GLock), (⟨[98], 2, 10⟩ : GLock)]) = true := h18
     refine step_g1 rfl h18 (step_r rfl rfl trivial (step_g1 rfl h18 (step_bin rfl rfl rfl rfl rfl trivial (step_pickT rfl h18 rfl rfl (step_r rfl rfl trivial ?_)))))
     refine step_gs rfl (fun h20 => ?_) (fun h20 => ?_)
     ·have g20 : ((untilL ((addL ((addL ((addL ([]) ([98]) 2 10).1) ([97]) 3 5).1) ([98]) 2 7).1) ([98]) 2 9).1 : Int) = 10 := beq_t h20
      refine step_g1 rfl h20 (step_r rfl rfl trivial (step_pickT rfl h20 rfl rfl (step_r rfl rfl trivial ?_)))
      refine step_gs rfl (fun h21 => ?_) (fun h21 => ?_)
      ·have g21 : (untilL ((addL ((addL ((addL ([]) ([98]) 2 10).1) ([97]) 3 5).1) ([98]) 2 7).1) ([98]) 2 9).2 = true := h21
       refine step_g1 rfl h21 (step_r rfl rfl trivial (step_g1 rfl h21 (step_r rfl rfl trivial (step_pickT rfl h21 rfl rfl (step_r rfl rfl trivial ?_)))))
       refine step_gs rfl (fun h23 => ?_) (fun h23 => ?_)
       ·have g23 : ¬ ((untilL ((addL ((addL ((addL ([]) ([98]) 2 10).1) ([97]) 3 5).1) ([98]) 2 7).1) ([98]) 2 10).2 = true) := boo_f (not_t h23)
        refine step_g1 rfl h23 (step_call rfl rfl rfl rfl (turnL_ok 10 7 2) rfl rfl rfl (step_g1 rfl h23 (step_bin rfl rfl rfl rfl rfl trivial (step_pickT rfl h23 rfl rfl (step_r rfl rfl trivial ?_)))))
        refine step_gs rfl (fun h25 => ?_) (fun h25 => ?_)
        ·have g25 : (turnL 10 7 2 : Int) = 16 := beq_t h25
         refine step_g1 rfl h25 (step_call rfl rfl rfl rfl (turnL_ok 16 7 2) rfl rfl rfl (step_g1 rfl h25 (step_bin rfl rfl rfl rfl rfl trivial (step_pickT rfl h25 rfl rfl (step_r rfl rfl trivial ?_)))))
         refine step_gs rfl (fun h27 => ?_) (fun h27 => ?_)
         ·have g27 : (turnL 16 7 2 : Int) = 23 := beq_t h27
          refine step_g1 rfl h27 (step_r rfl rfl trivial (step_g1 rfl h27 ?_))
          refine step_callJ (Hin := [.row _ _ _]) (out' := .ref 4 _ _ _) (H' := [(4, .row _ _ _), (3, _), (2, _), (1, _), (0, _)]) (nx' := 5) [2] rfl rfl rfl rfl rfl rfl rfl rfl rfl (by (repeat' apply And.intro) <;> first | trivial | rfl | exact flat_len (s := 3) (enc := encGLock) (fun _ => rfl) _ | exact flat_len (fun _ => rfl) _ | exact encI_len _ | exact encS_len _ | exact Nat.le_of_ble_eq_true rfl | assumption) (cleanL_ok ((addL ((addL ((addL ([]) ([98]) 2 10).1) ([97]) 3 5).1) ([98]) 2 7).1) false 5 (by first | omega | (simp; done) | (simp only [IntKind.wrap_i64]; omega) | (simp only [List.length_nil, List.length_cons] at *; omega) | (simp only [IntKind.wrap_i64] at *; omega) | (simp; omega))) rfl (by decide) rfl rfl ⟨encGLock_solid, trivial⟩ rfl rfl rfl rfl ?_
          have p28 := cleanL_len ((addL ((addL ((addL ([]) ([98]) 2 10).1) ([97]) 3 5).1) ([98]) 2 7).1) 5
          refine step_g1 rfl h27 (step_r rfl rfl trivial (step_g1 rfl h27 (step_bin rfl rfl rfl rfl rfl trivial (step_pickT rfl h27 rfl rfl (step_r rfl rfl trivial ?_)))))
          refine step_gs rfl (fun h30 => ?_) (fun h30 => ?_)
          ·have g30 : ((cleanL ((addL ((addL ((addL ([]) ([98]) 2 10).1) ([97]) 3 5).1) ([98]) 2 7).1) 5).length : Int) = 1 := beq_t h30
           refine step_g1 rfl h30 (step_r rfl rfl trivial (step_g1 rfl h30 ?_))
           refine step_callJ (Hin := [.row _ _ _]) (out' := .ref 5 _ _ _) (H' := [(5, .row _ _ _), (4, _), (3, _), (2, _), (1, _), (0, _)]) (nx' := 6) [2] rfl rfl rfl rfl rfl rfl rfl rfl rfl (by (repeat' apply And.intro) <;> first | trivial | rfl | exact flat_len (s := 3) (enc := encGLock) (fun _ => rfl) _ | exact flat_len (fun _ => rfl) _ | exact encI_len _ | exact encS_len _ | exact Nat.le_of_ble_eq_true rfl | assumption) (ofL_ok ((addL ((addL ((addL ([]) ([98]) 2 10).1) ([97]) 3 5).1) ([98]) 2 7).1) false ([97]) 4 (by first | omega | (simp; done) | (simp only [IntKind.wrap_i64]; omega) | (simp only [List.length_nil, List.length_cons] at *; omega) | (simp only [IntKind.wrap_i64] at *; omega) | (simp; omega))) rfl (by decide) rfl rfl ⟨encI_solid, trivial⟩ rfl rfl rfl rfl ?_
           refine step_g1 rfl h30 (step_n (o := .row _ _ [_]) (nx' := 7) rfl rfl rfl (by decide) (step_g1 rfl h30 ?_))
           refine step_callJ (Hin := [.row _ _ _, .row _ _ _]) (H' := [(6, _), (5, _), (4, _), (3, _), (2, _), (1, _), (0, _)]) (nx' := 7) [5, 6] rfl rfl rfl rfl rfl rfl rfl rfl rfl (by (repeat' apply And.intro) <;> first | trivial | rfl | exact flat_len (fun _ => rfl) _ | exact encI_len _ | exact encS_len _ | exact Nat.le_of_ble_eq_true rfl | assumption) (sameIR_ok (ofL ((addL ((addL ((addL ([]) ([98]) 2 10).1) ([97]) 3 5).1) ([98]) 2 7).1) ([97]) 4) false ([3]) false) rfl (by decide) rfl rfl trivial rfl rfl rfl rfl ?_
           refine step_pickT rfl h30 rfl rfl (step_r rfl rfl trivial ?_)
           refine step_gs rfl (fun h32 => ?_) (fun h32 => ?_)
           ·have g32 : sameIR (ofL ((addL ((addL ((addL ([]) ([98]) 2 10).1) ([97]) 3 5).1) ([98]) 2 7).1) ([97]) 4) ([3]) = true := h32
            refine step_g1 rfl h32 (step_r rfl rfl trivial (step_g1 rfl h32 (step_n (o := .row _ _ [_, _, _]) (nx' := 8) rfl rfl rfl (by decide) (step_g1 rfl h32 ?_))))
            refine step_callJ (Hin := [.row _ _ _, .row _ _ _]) (out' := .ref 8 _ _ _) (H' := [(8, .row _ _ _), (7, _), (6, _), (5, _), (4, _), (3, _), (2, _), (1, _), (0, _)]) (nx' := 9) [2, 7] rfl rfl rfl rfl rfl rfl rfl rfl rfl (by (repeat' apply And.intro) <;> first | trivial | rfl | exact flat_len (s := 3) (enc := encGLock) (fun _ => rfl) _ | exact flat_len (fun _ => rfl) _ | exact encI_len _ | exact encS_len _ | exact Nat.le_of_ble_eq_true rfl | assumption) (freeL_ok ((addL ((addL ((addL ([]) ([98]) 2 10).1) ([97]) 3 5).1) ([98]) 2 7).1) false ([[97], [98], [99]]) false 2 9 (by first | omega | (simp; done) | (simp only [IntKind.wrap_i64]; omega) | (simp only [List.length_nil, List.length_cons] at *; omega) | (simp only [IntKind.wrap_i64] at *; omega) | (simp; omega))) rfl (by decide) rfl rfl ⟨encS_solid, trivial⟩ rfl rfl rfl rfl ?_
            refine step_g1 rfl h32 (step_n (o := .row _ _ [_, _]) (nx' := 10) rfl rfl rfl (by decide) (step_g1 rfl h32 ?_))
            refine step_callJ (Hin := [.row _ _ _, .row _ _ _]) (H' := [(9, _), (8, _), (7, _), (6, _), (5, _), (4, _), (3, _), (2, _), (1, _), (0, _)]) (nx' := 10) [8, 9] rfl rfl rfl rfl rfl rfl rfl rfl rfl (by (repeat' apply And.intro) <;> first | trivial | rfl | exact flat_len (fun _ => rfl) _ | exact encI_len _ | exact encS_len _ | exact Nat.le_of_ble_eq_true rfl | assumption) (sameTR_ok (freeL ((addL ((addL ((addL ([]) ([98]) 2 10).1) ([97]) 3 5).1) ([98]) 2 7).1) ([[97], [98], [99]]) 2 9) false ([[97], [99]]) false) rfl (by decide) rfl rfl trivial rfl rfl rfl rfl ?_
            refine step_pickT rfl h32 rfl rfl (step_r rfl rfl trivial ?_)
            refine step_gs rfl (fun h34 => ?_) (fun h34 => ?_)
            ·have g34 : sameTR (freeL ((addL ((addL ((addL ([]) ([98]) 2 10).1) ([97]) 3 5).1) ([98]) 2 7).1) ([[97], [98], [99]]) 2 9) ([[97], [99]]) = true := h34
             refine step_g1 rfl h34 (step_r rfl rfl trivial (step_g1 rfl h34 ?_))
             refine step_callJ (Hin := [.row _ _ _]) (H' := [(9, _), (8, _), (7, _), (6, _), (5, _), (4, _), (3, _), (2, _), (1, _), (0, _)]) (nx' := 10) [2] rfl rfl rfl rfl rfl rfl rfl rfl rfl (by (repeat' apply And.intro) <;> first | trivial | rfl | exact flat_len (s := 3) (enc := encGLock) (fun _ => rfl) _ | exact flat_len (fun _ => rfl) _ | exact encI_len _ | exact encS_len _ | exact Nat.le_of_ble_eq_true rfl | assumption) (rightL_ok ((addL ((addL ((addL ([]) ([98]) 2 10).1) ([97]) 3 5).1) ([98]) 2 7).1) false) rfl (by decide) rfl rfl trivial rfl rfl rfl rfl ?_
             refine step_pickT rfl h34 rfl rfl (step_r rfl rfl trivial (step_nil (seqK_n (sem_ret ?_))))
             have e36 : small37 = (rightL ((addL ((addL ((addL ([]) ([98]) 2 10).1) ([97]) 3 5).1) ([98]) 2 7).1)) := by
              unfold small37
              try dsimp only
              rewrite [if_pos g12, if_pos g14, if_pos g16, if_pos g18, if_pos g20, if_pos g21, if_neg g23, if_pos g25, if_pos g27, if_pos g30, if_pos g32, if_pos g34]
              all_goals rfl
             rw [e36]
             exact answersR rfl ⟨trivial, trivial⟩ (rfl) rfl
            ·have g34 : ¬ (sameTR (freeL ((addL ((addL ((addL ([]) ([98]) 2 10).1) ([97]) 3 5).1) ([98]) 2 7).1) ([[97], [98], [99]]) 2 9) ([[97], [99]]) = true) := boo_f h34
             refine step_g0 rfl h34 rfl (step_g0 rfl h34 rfl (step_pickF rfl h34 rfl rfl (step_r rfl rfl trivial (step_nil (seqK_n (sem_ret ?_))))))
             have e37 : small37 = false := by
              unfold small37
              try dsimp only
              rewrite [if_pos g12, if_pos g14, if_pos g16, if_pos g18, if_pos g20, if_pos g21, if_neg g23, if_pos g25, if_pos g27, if_pos g30, if_pos g32, if_neg g34]
              all_goals rfl
             rw [e37]
             exact answersR rfl ⟨trivial, trivial⟩ (rfl) rfl
           ·have g32 : ¬ (sameIR (ofL ((addL ((addL ((addL ([]) ([98]) 2 10).1) ([97]) 3 5).1) ([98]) 2 7).1) ([97]) 4) ([3]) = true) := boo_f h32
            refine step_g0 rfl h32 rfl (step_g0 rfl h32 rfl (step_g0 rfl h32 rfl (step_g0 rfl h32 rfl (step_g0 rfl h32 rfl (step_pickF rfl h32 rfl rfl (step_r rfl rfl trivial (step_gf rfl rfl (step_gf rfl rfl (step_r rfl rfl trivial (step_r rfl rfl trivial (step_nil ?_)))))))))))
            refine seqK_n (sem_ret ?_)
            have e38 : small37 = false := by
             unfold small37
             try dsimp only
             rewrite [if_pos g12, if_pos g14, if_pos g16, if_pos g18, if_pos g20, if_pos g21, if_neg g23, if_pos g25, if_pos g27, if_pos g30, if_neg g32]
             all_goals rfl
            rw [e38]
            exact answersR rfl ⟨trivial, trivial⟩ (rfl) rfl
          ·have g30 : ¬ (((cleanL ((addL ((addL ((addL ([]) ([98]) 2 10).1) ([97]) 3 5).1) ([98]) 2 7).1) 5).length : Int) = 1) := beq_f h30
           refine step_g0 rfl h30 rfl (step_g0 rfl h30 rfl (step_g0 rfl h30 rfl (step_g0 rfl h30 rfl (step_pickF rfl h30 rfl rfl (step_r rfl rfl trivial (step_gf rfl rfl (step_gf rfl rfl (step_gf rfl rfl (step_gf rfl rfl (step_gf rfl rfl (step_r rfl rfl trivial ?_)))))))))))
           refine step_r rfl rfl trivial (step_gf rfl rfl (step_gf rfl rfl (step_r rfl rfl trivial (step_r rfl rfl trivial (step_nil (seqK_n (sem_ret ?_)))))))
           have e39 : small37 = false := by
            unfold small37
            try dsimp only
            rewrite [if_pos g12, if_pos g14, if_pos g16, if_pos g18, if_pos g20, if_pos g21, if_neg g23, if_pos g25, if_pos g27, if_neg g30]
            all_goals rfl
           rw [e39]
           exact answersR rfl ⟨trivial, trivial⟩ (rfl) rfl
         ·have g27 : ¬ ((turnL 16 7 2 : Int) = 23) := beq_f h27
          refine step_g0 rfl h27 rfl (step_g0 rfl h27 rfl (step_g0 rfl h27 rfl (step_g0 rfl h27 rfl (step_pickF rfl h27 rfl rfl (step_r rfl rfl trivial (step_gf rfl rfl (step_gf rfl rfl (step_gf rfl rfl (step_gf rfl rfl (step_r rfl rfl trivial (step_r rfl rfl trivial ?_)))))))))))
          refine step_gf rfl rfl (step_gf rfl rfl (step_gf rfl rfl (step_gf rfl rfl (step_gf rfl rfl (step_r rfl rfl trivial (step_r rfl rfl trivial (step_gf rfl rfl (step_gf rfl rfl (step_r rfl rfl trivial (step_r rfl rfl trivial (step_nil ?_)))))))))))
          refine seqK_n (sem_ret ?_)
          have e40 : small37 = false := by
           unfold small37
           try dsimp only
           rewrite [if_pos g12, if_pos g14, if_pos g16, if_pos g18, if_pos g20, if_pos g21, if_neg g23, if_pos g25, if_neg g27]
           all_goals rfl
          rw [e40]
          exact answersR rfl ⟨trivial, trivial⟩ (rfl) rfl
        ·have g25 : ¬ ((turnL 10 7 2 : Int) = 16) := beq_f h25
         refine step_g0 rfl h25 rfl (step_g0 rfl h25 rfl (step_pickF rfl h25 rfl rfl (step_r rfl rfl trivial (step_gf rfl rfl (step_gf rfl rfl (step_gf rfl rfl (step_gf rfl rfl (step_r rfl rfl trivial (step_r rfl rfl trivial (step_gf rfl rfl (step_gf rfl rfl ?_)))))))))))
         refine step_gf rfl rfl (step_gf rfl rfl (step_r rfl rfl trivial (step_r rfl rfl trivial (step_gf rfl rfl (step_gf rfl rfl (step_gf rfl rfl (step_gf rfl rfl (step_gf rfl rfl (step_r rfl rfl trivial (step_r rfl rfl trivial (step_gf rfl rfl ?_)))))))))))
         refine step_gf rfl rfl (step_r rfl rfl trivial (step_r rfl rfl trivial (step_nil (seqK_n (sem_ret ?_)))))
         have e41 : small37 = false := by
          unfold small37
          try dsimp only
          rewrite [if_pos g12, if_pos g14, if_pos g16, if_pos g18, if_pos g20, if_pos g21, if_neg g23, if_neg g25]
          all_goals rfl
         rw [e41]
         exact answersR rfl ⟨trivial, trivial⟩ (rfl) rfl
       ·have g23 : (untilL ((addL ((addL ((addL ([]) ([98]) 2 10).1) ([97]) 3 5).1) ([98]) 2 7).1) ([98]) 2 10).2 = true := (not_f h23)
        refine step_g0 rfl h23 rfl (step_g0 rfl h23 rfl (step_pickF rfl h23 rfl rfl (step_r rfl rfl trivial (step_gf rfl rfl (step_gf rfl rfl (step_r rfl rfl trivial (step_r rfl rfl trivial (step_gf rfl rfl (step_gf rfl rfl (step_gf rfl rfl (step_gf rfl rfl ?_)))))))))))
        refine step_r rfl rfl trivial (step_r rfl rfl trivial (step_gf rfl rfl (step_gf rfl rfl (step_gf rfl rfl (step_gf rfl rfl (step_r rfl rfl trivial (step_r rfl rfl trivial (step_gf rfl rfl (step_gf rfl rfl (step_gf rfl rfl (step_gf rfl rfl ?_)))))))))))
        refine step_gf rfl rfl (step_r rfl rfl trivial (step_r rfl rfl trivial (step_gf rfl rfl (step_gf rfl rfl (step_r rfl rfl trivial (step_r rfl rfl trivial (step_nil (seqK_n (sem_ret ?_)))))))))
        have e42 : small37 = false := by
         unfold small37
         try dsimp only
         rewrite [if_pos g12, if_pos g14, if_pos g16, if_pos g18, if_pos g20, if_pos g21, if_pos g23]
         all_goals rfl
        rw [e42]
        exact answersR rfl ⟨trivial, trivial⟩ (rfl) rfl
      ·have g21 : ¬ ((untilL ((addL ((addL ((addL ([]) ([98]) 2 10).1) ([97]) 3 5).1) ([98]) 2 7).1) ([98]) 2 9).2 = true) := boo_f h21
       refine step_g0 rfl h21 rfl (step_g0 rfl h21 rfl (step_pickF rfl h21 rfl rfl (step_r rfl rfl trivial (step_gf rfl rfl (step_gf rfl rfl (step_r rfl rfl trivial (step_r rfl rfl trivial (step_gf rfl rfl (step_gf rfl rfl (step_r rfl rfl trivial (step_r rfl rfl trivial ?_)))))))))))
       refine step_gf rfl rfl (step_gf rfl rfl (step_gf rfl rfl (step_gf rfl rfl (step_r rfl rfl trivial (step_r rfl rfl trivial (step_gf rfl rfl (step_gf rfl rfl (step_gf rfl rfl (step_gf rfl rfl (step_r rfl rfl trivial (step_r rfl rfl trivial ?_)))))))))))
       refine step_gf rfl rfl (step_gf rfl rfl (step_gf rfl rfl (step_gf rfl rfl (step_gf rfl rfl (step_r rfl rfl trivial (step_r rfl rfl trivial (step_gf rfl rfl (step_gf rfl rfl (step_r rfl rfl trivial (step_r rfl rfl trivial (step_nil ?_)))))))))))
       refine seqK_n (sem_ret ?_)
       have e43 : small37 = false := by
        unfold small37
        try dsimp only
        rewrite [if_pos g12, if_pos g14, if_pos g16, if_pos g18, if_pos g20, if_neg g21]
        all_goals rfl
       rw [e43]
       exact answersR rfl ⟨trivial, trivial⟩ (rfl) rfl
     ·have g20 : ¬ (((untilL ((addL ((addL ((addL ([]) ([98]) 2 10).1) ([97]) 3 5).1) ([98]) 2 7).1) ([98]) 2 9).1 : Int) = 10) := beq_f h20
      refine step_g0 rfl h20 rfl (step_pickF rfl h20 rfl rfl (step_r rfl rfl trivial (step_gf rfl rfl (step_gf rfl rfl (step_r rfl rfl trivial (step_r rfl rfl trivial (step_gf rfl rfl (step_gf rfl rfl (step_r rfl rfl trivial (step_r rfl rfl trivial (step_gf rfl rfl ?_)))))))))))
      refine step_gf rfl rfl (step_r rfl rfl trivial (step_r rfl rfl trivial (step_gf rfl rfl (step_gf rfl rfl (step_gf rfl rfl (step_gf rfl rfl (step_r rfl rfl trivial (step_r rfl rfl trivial (step_gf rfl rfl (step_gf rfl rfl (step_gf rfl rfl ?_)))))))))))
      refine step_gf rfl rfl (step_r rfl rfl trivial (step_r rfl rfl trivial (step_gf rfl rfl (step_gf rfl rfl (step_gf rfl rfl (step_gf rfl rfl (step_gf rfl rfl (step_r rfl rfl trivial (step_r rfl rfl trivial (step_gf rfl rfl (step_gf rfl rfl ?_)))))))))))
      refine step_r rfl rfl trivial (step_r rfl rfl trivial (step_nil (seqK_n (sem_ret ?_))))
      have e44 : small37 = false := by
       unfold small37
       try dsimp only
       rewrite [if_pos g12, if_pos g14, if_pos g16, if_pos g18, if_neg g20]
       all_goals rfl
      rw [e44]
      exact answersR rfl ⟨trivial, trivial⟩ (rfl) rfl
    ·have g18 : ¬ (sameLR ((addL ((addL ((addL ([]) ([98]) 2 10).1) ([97]) 3 5).1) ([98]) 2 7).1) ([(⟨[97], 3, 5⟩ : GLock), (⟨[98], 2, 10⟩ : GLock)]) = true) := boo_f h18
     refine step_g0 rfl h18 rfl (step_g0 rfl h18 rfl (step_pickF rfl h18 rfl rfl (step_r rfl rfl trivial (step_gf rfl rfl (step_r rfl rfl trivial (step_r rfl rfl trivial (step_gf rfl rfl (step_gf rfl rfl (step_r rfl rfl trivial (step_r rfl rfl trivial (step_gf rfl rfl ?_)))))))))))
     refine step_gf rfl rfl (step_r rfl rfl trivial (step_r rfl rfl trivial (step_gf rfl rfl (step_gf rfl rfl (step_r rfl rfl trivial (step_r rfl rfl trivial (step_gf rfl rfl (step_gf rfl rfl (step_gf rfl rfl (step_gf rfl rfl (step_r rfl rfl trivial ?_)))))))))))
     refine step_r rfl rfl trivial (step_gf rfl rfl (step_gf rfl rfl (step_gf rfl rfl (step_gf rfl rfl (step_r rfl rfl trivial (step_r rfl rfl trivial (step_gf rfl rfl (step_gf rfl rfl (step_gf rfl rfl (step_gf rfl rfl (step_gf rfl rfl ?_)))))))))))
     refine step_r rfl rfl trivial (step_r rfl rfl trivial (step_gf rfl rfl (step_gf rfl rfl (step_r rfl rfl trivial (step_r rfl rfl trivial (step_nil (seqK_n (sem_ret ?_))))))))
     have e45 : small37 = false := by
      unfold small37
      try dsimp only
      rewrite [if_pos g12, if_pos g14, if_pos g16, if_neg g18]
      all_goals rfl
     rw [e45]
     exact answersR rfl ⟨trivial, trivial⟩ (rfl) rfl
   ·have g16 : ¬ (((addL ((addL ((addL ([]) ([98]) 2 10).1) ([97]) 3 5).1) ([98]) 2 7).2 : Int) = 0) := beq_f h16
    refine step_g0 rfl h16 rfl (step_g0 rfl h16 rfl (step_g0 rfl h16 rfl (step_g0 rfl h16 rfl (step_g0 rfl h16 rfl (step_pickF rfl h16 rfl rfl (step_r rfl rfl trivial (step_gf rfl rfl (step_gf rfl rfl (step_r rfl rfl trivial (step_r rfl rfl trivial (step_gf rfl rfl ?_)))))))))))
    refine step_r rfl rfl trivial (step_r rfl rfl trivial (step_gf rfl rfl (step_gf rfl rfl (step_r rfl rfl trivial (step_r rfl rfl trivial (step_gf rfl rfl (step_gf rfl rfl (step_r rfl rfl trivial (step_r rfl rfl trivial (step_gf rfl rfl (step_gf rfl rfl ?_)))))))))))
    refine step_r rfl rfl trivial (step_r rfl rfl trivial (step_gf rfl rfl (step_gf rfl rfl (step_gf rfl rfl (step_gf rfl rfl (step_r rfl rfl trivial (step_r rfl rfl trivial (step_gf rfl rfl (step_gf rfl rfl (step_gf rfl rfl (step_gf rfl rfl ?_)))))))))))
    refine step_r rfl rfl trivial (step_r rfl rfl trivial (step_gf rfl rfl (step_gf rfl rfl (step_gf rfl rfl (step_gf rfl rfl (step_gf rfl rfl (step_r rfl rfl trivial (step_r rfl rfl trivial (step_gf rfl rfl (step_gf rfl rfl (step_r rfl rfl trivial ?_)))))))))))
    refine step_r rfl rfl trivial (step_nil (seqK_n (sem_ret ?_)))
    have e46 : small37 = false := by
     unfold small37
     try dsimp only
     rewrite [if_pos g12, if_pos g14, if_neg g16]
     all_goals rfl
    rw [e46]
    exact answersR rfl ⟨trivial, trivial⟩ (rfl) rfl
  ·have g14 : ¬ (((addL ((addL ([]) ([98]) 2 10).1) ([97]) 3 5).2 : Int) = 0) := beq_f h14
   refine step_g0 rfl h14 rfl (step_g0 rfl h14 rfl (step_pickF rfl h14 rfl rfl (step_r rfl rfl trivial (step_gf rfl rfl (step_gf rfl rfl (step_gf rfl rfl (step_gf rfl rfl (step_gf rfl rfl (step_r rfl rfl trivial (step_r rfl rfl trivial (step_gf rfl rfl ?_)))))))))))
   refine step_gf rfl rfl (step_r rfl rfl trivial (step_r rfl rfl trivial (step_gf rfl rfl (step_r rfl rfl trivial (step_r rfl rfl trivial (step_gf rfl rfl (step_gf rfl rfl (step_r rfl rfl trivial (step_r rfl rfl trivial (step_gf rfl rfl (step_gf rfl rfl ?_)))))))))))
   refine step_r rfl rfl trivial (step_r rfl rfl trivial (step_gf rfl rfl (step_gf rfl rfl (step_r rfl rfl trivial (step_r rfl rfl trivial (step_gf rfl rfl (step_gf rfl rfl (step_gf rfl rfl (step_gf rfl rfl (step_r rfl rfl trivial (step_r rfl rfl trivial ?_)))))))))))
   refine step_gf rfl rfl (step_gf rfl rfl (step_gf rfl rfl (step_gf rfl rfl (step_r rfl rfl trivial (step_r rfl rfl trivial (step_gf rfl rfl (step_gf rfl rfl (step_gf rfl rfl (step_gf rfl rfl (step_gf rfl rfl (step_r rfl rfl trivial ?_)))))))))))
   refine step_r rfl rfl trivial (step_gf rfl rfl (step_gf rfl rfl (step_r rfl rfl trivial (step_r rfl rfl trivial (step_nil (seqK_n (sem_ret ?_)))))))
   have e47 : small37 = false := by
    unfold small37
    try dsimp only
    rewrite [if_pos g12, if_neg g14]
    all_goals rfl
   rw [e47]
   exact answersR rfl ⟨trivial, trivial⟩ (rfl) rfl
 ·have g12 : ¬ (((addL ([]) ([98]) 2 10).2 : Int) = 0) := beq_f h12
  refine step_g0 rfl h12 rfl (step_g0 rfl h12 rfl (step_pickF rfl h12 rfl rfl (step_r rfl rfl trivial (step_gf rfl rfl (step_gf rfl rfl (step_r rfl rfl trivial (step_r rfl rfl trivial (step_gf rfl rfl (step_gf rfl rfl (step_gf rfl rfl (step_gf rfl rfl ?_)))))))))))
  refine step_gf rfl rfl (step_r rfl rfl trivial (step_r rfl rfl trivial (step_gf rfl rfl (step_gf rfl rfl (step_r rfl rfl trivial (step_r rfl rfl trivial (step_gf rfl rfl (step_r rfl rfl trivial (step_r rfl rfl trivial (step_gf rfl rfl (step_gf rfl rfl ?_)))))))))))
  refine step_r rfl rfl trivial (step_r rfl rfl trivial (step_gf rfl rfl (step_gf rfl rfl (step_r rfl rfl trivial (step_r rfl rfl trivial (step_gf rfl rfl (step_gf rfl rfl (step_r rfl rfl trivial (step_r rfl rfl trivial (step_gf rfl rfl (step_gf rfl rfl ?_)))))))))))
  refine step_gf rfl rfl (step_gf rfl rfl (step_r rfl rfl trivial (step_r rfl rfl trivial (step_gf rfl rfl (step_gf rfl rfl (step_gf rfl rfl (step_gf rfl rfl (step_r rfl rfl trivial (step_r rfl rfl trivial (step_gf rfl rfl (step_gf rfl rfl ?_)))))))))))
  refine step_gf rfl rfl (step_gf rfl rfl (step_gf rfl rfl (step_r rfl rfl trivial (step_r rfl rfl trivial (step_gf rfl rfl (step_gf rfl rfl (step_r rfl rfl trivial (step_r rfl rfl trivial (step_nil (seqK_n (sem_ret ?_)))))))))))
  have e48 : small37 = false := by
   unfold small37
   try dsimp only
   rewrite [if_neg g12]
   all_goals rfl
  rw [e48]
  exact answersR rfl ⟨trivial, trivial⟩ (rfl) rfl

def holds37_J49 (l : List GLock) (name : List UInt8) (foe : Int) (until_ : Int) : Bool :=
  if small37 = true then (if ((addL l name foe until_).1.length : Int) = 0 then (if ((addL l name foe until_).2 : Int) = 4 then (if (l.length : Int) = 200 then true else if ((addL l name foe until_).2 : Int) = 1 then (if (foe : Int) < 1 then true else (!(nameC name))) else false) else if ((addL l name foe until_).2 : Int) = 1 then (if (foe : Int) < 1 then true else (!(nameC name))) else false) else false) else false
def holds37_J96 (l : List GLock) (name : List UInt8) (foe : Int) (until_ : Int) (now : Int) : Int :=
  if (untilL l name foe now).2 = true then (max until_ ((untilL l name foe now).1)) else until_
def holds37_J99 (l : List GLock) (name : List UInt8) (foe : Int) (until_ : Int) (now : Int) (want_96 : Int) : Sum Bool Unit :=
  if rightL ((addL l name foe until_).1) = true then (if (until_ : Int) > now then (if (untilL ((addL l name foe until_).1) name foe now).2 = true then (if ((untilL ((addL l name foe until_).1) name foe now).1 : Int) = want_96 then (if (until_ : Int) ≤ now then (if ((untilL ((addL l name foe until_).1) name foe now).2) = ((untilL l name foe now).2) then (if ((untilL ((addL l name foe until_).1) name foe now).1 : Int) = ((untilL l name foe now).1) then .inr () else .inl false) else .inl false) else .inr ()) else .inl false) else .inl false) else if (until_ : Int) ≤ now then (if ((untilL ((addL l name foe until_).1) name foe now).2) = ((untilL l name foe now).2) then (if ((untilL ((addL l name foe until_).1) name foe now).1 : Int) = ((untilL l name foe now).1) then .inr () else .inl false) else .inl false) else .inr ()) else .inl false
def holds37 (l : List GLock) (name : List UInt8) (foe : Int) (until_ : Int) (now : Int) : Bool :=
  if few37 l = true then (if rightL l = true then (if (name.length : Int) > 100 then (small37) else if ((addL l name foe until_).2 : Int) = 0 then (let want_96 := holds37_J96 l name foe until_ now; (match holds37_J99 l name foe until_ now want_96 with
    | .inl r_ => r_
    | .inr () => if small37 = true then (if rightL (cleanL ((addL l name foe until_).1) now) = true then (if ((untilL (cleanL ((addL l name foe until_).1) now) name foe now).1 : Int) = ((untilL ((addL l name foe until_).1) name foe now).1) then (if ((untilL (cleanL ((addL l name foe until_).1) now) name foe now).2) = ((untilL ((addL l name foe until_).1) name foe now).2) then (if ((cleanL (cleanL ((addL l name foe until_).1) now) now).length : Int) = ((cleanL ((addL l name foe until_).1) now).length) then ((((freeL ((addL l name foe until_).1) ([name]) foe now).length : Int) == 0) == ((untilL ((addL l name foe until_).1) name foe now).2)) else false) else false) else false) else false) else false)) else (let t10_49 := holds37_J49 l name foe until_; t10_49)) else (small37)) else (small37)
theorem holds37_ok (l : List GLock) (l_f : Bool) (name : List UInt8) (foe : Int) (until_ : Int) (now : Int) : Ok Tryd.prog 4 [.pv (.slc l.length l_f (l.flatMap encGLock)), .pv (.str name), I foe, I until_, I now] [] (B (holds37 l name foe until_ now)) [] [] := by
 refine Ok.len fun hlen => ?_
 have hl_l : l.length ≤ maxLen := hlen _ (by simp [lensL, lens, lensP])
 unfold maxLen at hl_l
 refine ok_of_sem Tryd.func4 rfl ?_
 show Walks Tryd.prog _ _ ⟨[(0, .pv (.slc l.length l_f (l.flatMap encGLock))), (1, .pv (.str name)), (2, I foe), (3, I until_), (4, I now)], [], 0, [], 178, 0⟩
 refine sem_seq (sem_region rfl (step_r rfl rfl trivial (step_nil (seqK_n (sem_seq (sem_region rfl (step_call rfl rfl rfl rfl (small37_ok ) rfl rfl rfl (step_r rfl rfl trivial (step_nil (seqK_n (sem_seq ?_)))))))))))
 refine sem_region rfl (step_r rfl rfl trivial (step_call rfl rfl rfl rfl (few37_ok l l_f) rfl rfl rfl (step_r rfl rfl trivial (step_nil (seqK_n (sem_seq (sem_seq (sem_region rfl (step_r rfl rfl trivial (step_r rfl rfl trivial (step_r rfl rfl trivial ?_)))))))))))
 refine step_gs rfl (fun h4 => ?_) (fun h4 => ?_)
 ·have g4 : ¬ (few37 l = true) := boo_f (not_t h4)
  refine step_g0 rfl h4 rfl (step_g0 rfl h4 rfl (step_g0 rfl h4 rfl (step_pickT rfl h4 rfl rfl (step_r rfl rfl trivial (step_gf rfl rfl (step_gf rfl rfl (step_gf rfl rfl (step_r rfl rfl trivial (step_nil (seqK_n (sem_condT rfl ?_)))))))))))
  refine sem_seq (sem_region rfl (step_r rfl rfl trivial (step_r rfl rfl trivial (step_nil (seqK_n (sem_ret (seqK_r ?_)))))))
  have e5 : holds37 l name foe until_ now = (small37) := by
   unfold holds37
   try dsimp only
   rewrite [if_neg g4]
   all_goals rfl
  rw [e5]
  exact answersR rfl ⟨trivial, trivial⟩ (rfl) rfl
 ·have g4 : few37 l = true := (not_f h4)
  have qg4 := few37_l g4
  refine step_g1 rfl h4 (step_r rfl rfl trivial (step_g1 rfl h4 (step_call rfl rfl rfl rfl (rightL_ok l l_f) rfl rfl rfl (step_g1 rfl h4 (step_r rfl rfl trivial (step_pickF rfl h4 rfl rfl (step_r rfl rfl trivial ?_)))))))
  refine step_gs rfl (fun h7 => ?_) (fun h7 => ?_)
  ·have g7 : ¬ (rightL l = true) := boo_f (not_t h7)
   refine step_g0 rfl h7 rfl (step_g0 rfl h7 rfl (step_g0 rfl h7 rfl (step_pickT rfl h7 rfl rfl (step_nil (seqK_n (sem_condT rfl (sem_seq (sem_region rfl (step_r rfl rfl trivial (step_r rfl rfl trivial (step_nil ?_)))))))))))
   refine seqK_n (sem_ret (seqK_r ?_))
   have e8 : holds37 l name foe until_ now = (small37) := by
    unfold holds37
    try dsimp only
    rewrite [if_pos g4, if_neg g7]
    all_goals rfl
   rw [e8]
   exact answersR rfl ⟨trivial, trivial⟩ (rfl) rfl
  ·have g7 : rightL l = true := (not_f h7)
   refine step_g1 rfl h7 (step_r rfl rfl trivial (step_g1 rfl h7 (step_r rfl rfl trivial (step_g1 rfl h7 (step_bin rfl rfl rfl rfl rfl trivial (step_pickF rfl h7 rfl rfl (step_nil (seqK_n ?_))))))))
   refine sem_cond rfl (fun h11 => ?_) (fun h11 => ?_)
   ·have g11 : (name.length : Int) > 100 := of_decide_eq_true h11
    refine sem_seq (sem_region rfl (step_r rfl rfl trivial (step_r rfl rfl trivial (step_nil (seqK_n (sem_ret (seqK_r ?_)))))))
    have e12 : holds37 l name foe until_ now = (small37) := by
     unfold holds37
     try dsimp only
     rewrite [if_pos g4, if_pos g7, if_pos g11]
     all_goals rfl
    rw [e12]
    exact answersR rfl ⟨trivial, trivial⟩ (rfl) rfl
   ·have g11 : ¬ ((name.length : Int) > 100) := of_decide_eq_false h11
    refine sem_skip (seqK_n (sem_seq (sem_region rfl (step_r rfl rfl trivial (step_r rfl rfl trivial (step_r rfl rfl trivial (step_r rfl rfl trivial ?_)))))))
    refine step_callN (out' := .tup [.ref 0 _ _ _, _]) (H' := [(0, .row _ _ _)]) (nx' := 1) rfl rfl rfl rfl rfl rfl rfl (by (repeat' apply And.intro) <;> first | trivial | rfl | exact flat_len (fun _ => rfl) _ | exact encI_len _ | exact encS_len _ | exact Nat.le_of_ble_eq_true rfl | assumption) (addL_ok l false name foe until_ (by first | omega | (simp; done) | (simp only [IntKind.wrap_i64]; omega) | (simp only [List.length_nil, List.length_cons] at *; omega) | (simp only [IntKind.wrap_i64] at *; omega) | (simp; omega))) rfl rfl rfl rfl ?_
    have p15 := addL_len l name foe until_ (by first | omega | (simp; done) | (simp only [IntKind.wrap_i64]; omega) | (simp only [List.length_nil, List.length_cons] at *; omega) | (simp only [IntKind.wrap_i64] at *; omega) | (simp; omega))
    refine step_r rfl rfl trivial (step_r rfl rfl trivial (step_r rfl rfl trivial (step_r rfl rfl trivial (step_r rfl rfl trivial (step_nil (seqK_n (sem_seq (sem_seq (sem_region rfl (step_r rfl rfl trivial (step_bin rfl rfl rfl rfl rfl trivial ?_)))))))))))
    refine step_nil (seqK_n ?_)
    refine sem_cond rfl (fun h17 => ?_) (fun h17 => ?_)
    ·have g17 : ¬ (((addL l name foe until_).2 : Int) = 0) := bne_t h17
     refine sem_seq ?_
     refine sem_cutW (fun t10_49 : Bool => (⟨[(10, B t10_49)], [], 0, [], 178, 0⟩ : St)) (fun w_ => holds37_J49 l name foe until_ = w_) ?_ ?_
     ·refine sem_region rfl (step_r rfl rfl trivial (step_r rfl rfl trivial ?_))
      refine step_gs rfl (fun h19 => ?_) (fun h19 => ?_)
      ·have g19 : small37 = true := h19
       refine step_g1 rfl h19 (step_r rfl rfl trivial (step_g1 rfl h19 (step_r rfl rfl trivial (step_g1 rfl h19 (step_bin rfl rfl rfl rfl rfl trivial (step_pickT rfl h19 rfl rfl (step_r rfl rfl trivial ?_)))))))
       refine step_gs rfl (fun h21 => ?_) (fun h21 => ?_)
       ·have g21 : ((addL l name foe until_).1.length : Int) = 0 := beq_t h21
        refine step_g1 rfl h21 (step_r rfl rfl trivial (step_g1 rfl h21 (step_bin rfl rfl rfl rfl rfl trivial (step_g1 rfl h21 (step_r rfl rfl trivial ?_)))))
        refine step_gs rfl (fun h23 => ?_) (fun h23 => ?_)
        ·have g23 : ((addL l name foe until_).2 : Int) = 4 := beq_t h23
         refine step_g1 rfl h23 (step_r rfl rfl trivial (step_g1 rfl h23 (step_r rfl rfl trivial (step_g1 rfl h23 (step_bin rfl rfl rfl rfl rfl trivial (step_g1 rfl h21 (step_pickT rfl h23 rfl rfl (step_g1 rfl h21 (step_r rfl rfl trivial ?_)))))))))
         refine step_gs rfl (fun h25 => ?_) (fun h25 => ?_)
         ·have g25 : (l.length : Int) = 200 := beq_t h25
          refine step_g0 rfl h25 rfl (step_g0 rfl h25 rfl (step_g0 rfl h25 rfl (step_gf rfl rfl (step_gf rfl rfl (step_gf rfl rfl (step_gf rfl rfl (step_gf rfl rfl (step_gf rfl rfl (step_gf rfl rfl (step_g0 rfl h25 rfl (step_g1 rfl h21 ?_)))))))))))
          refine step_pickT rfl h25 rfl rfl (step_pickT rfl h21 rfl rfl (step_r rfl rfl trivial (step_nil ?_)))
          have e26 : holds37_J49 l name foe until_ = true := by
           unfold holds37_J49
           try dsimp only
           rewrite [if_pos g19, if_pos g21, if_pos g23, if_pos g25]
           all_goals rfl
          exact cutW_n true e26 (Trans.ren [] (by decide +kernel) (by decide +kernel) rfl ⟨⟨rfl, rfl⟩, trivial⟩ trivial (by decide))
         ·have g25 : ¬ ((l.length : Int) = 200) := beq_f h25
          refine step_g1 rfl h25 (step_r rfl rfl trivial (step_g1 rfl h25 (step_bin rfl rfl rfl rfl rfl trivial (step_g1 rfl h25 (step_r rfl rfl trivial ?_)))))
          refine step_gs rfl (fun h28 => ?_) (fun h28 => ?_)
          ·have g28 : ((addL l name foe until_).2 : Int) = 1 := beq_t h28
           refine step_g1 rfl h28 (step_r rfl rfl trivial (step_g1 rfl h28 (step_bin rfl rfl rfl rfl rfl trivial (step_g1 rfl h28 (step_r rfl rfl trivial ?_)))))
           refine step_gs rfl (fun h30 => ?_) (fun h30 => ?_)
           ·have g30 : (foe : Int) < 1 := of_decide_eq_true h30
            refine step_g0 rfl h30 rfl (step_g0 rfl h30 rfl (step_g0 rfl h30 rfl (step_g1 rfl h28 (step_pickT rfl h30 rfl rfl (step_g1 rfl h25 (step_pickT rfl h28 rfl rfl (step_g1 rfl h21 (step_pickF rfl h25 rfl rfl (step_pickT rfl h21 rfl rfl (step_r rfl rfl trivial (step_nil ?_)))))))))))
            have e31 : holds37_J49 l name foe until_ = true := by
             unfold holds37_J49
             try dsimp only
             rewrite [if_pos g19, if_pos g21, if_pos g23, if_neg g25, if_pos g28, if_pos g30]
             all_goals rfl
            exact cutW_n true e31 (Trans.ren [] (by decide +kernel) (by decide +kernel) rfl ⟨⟨rfl, rfl⟩, trivial⟩ trivial (by decide))
           ·have g30 : ¬ ((foe : Int) < 1) := of_decide_eq_false h30
            refine step_g1 rfl h30 (step_r rfl rfl trivial (step_g1 rfl h30 (step_call rfl rfl rfl rfl (nameC_ok name) rfl rfl rfl (step_g1 rfl h30 (step_r rfl rfl trivial (step_g1 rfl h28 (step_pickF rfl h30 rfl rfl (step_g1 rfl h25 (step_pickT rfl h28 rfl rfl (step_g1 rfl h21 (step_pickF rfl h25 rfl rfl ?_)))))))))))
            refine step_pickT rfl h21 rfl rfl (step_r rfl rfl trivial (step_nil ?_))
            have e33 : holds37_J49 l name foe until_ = (!(nameC name)) := by
             unfold holds37_J49
             try dsimp only
             rewrite [if_pos g19, if_pos g21, if_pos g23, if_neg g25, if_pos g28, if_neg g30]
             all_goals rfl
            exact cutW_n (!(nameC name)) e33 (Trans.ren [] (by decide +kernel) (by decide +kernel) rfl ⟨⟨rfl, rfl⟩, trivial⟩ trivial (by decide))
          ·have g28 : ¬ (((addL l name foe until_).2 : Int) = 1) := beq_f h28
           refine step_g0 rfl h28 rfl (step_g0 rfl h28 rfl (step_g0 rfl h28 rfl (step_gf rfl rfl (step_gf rfl rfl (step_gf rfl rfl (step_g0 rfl h28 rfl (step_g1 rfl h25 (step_pickF rfl h28 rfl rfl (step_g1 rfl h21 (step_pickF rfl h25 rfl rfl (step_pickT rfl h21 rfl rfl ?_)))))))))))
           refine step_r rfl rfl trivial (step_nil ?_)
           have e34 : holds37_J49 l name foe until_ = false := by
            unfold holds37_J49
            try dsimp only
            rewrite [if_pos g19, if_pos g21, if_pos g23, if_neg g25, if_neg g28]
            all_goals rfl
           exact cutW_n false e34 (Trans.ren [] (by decide +kernel) (by decide +kernel) rfl ⟨⟨rfl, rfl⟩, trivial⟩ trivial (by decide))
        ·have g23 : ¬ (((addL l name foe until_).2 : Int) = 4) := beq_f h23
         refine step_g0 rfl h23 rfl (step_g0 rfl h23 rfl (step_g0 rfl h23 rfl (step_g1 rfl h21 (step_pickF rfl h23 rfl rfl (step_g1 rfl h21 (step_r rfl rfl trivial (step_gt rfl (step_r rfl rfl trivial (step_gt rfl (step_bin rfl rfl rfl rfl rfl trivial (step_gt rfl ?_)))))))))))
         refine step_r rfl rfl trivial ?_
         refine step_gs rfl (fun h36 => ?_) (fun h36 => ?_)
         ·have g36 : ((addL l name foe until_).2 : Int) = 1 := beq_t h36
          refine step_g1 rfl h36 (step_r rfl rfl trivial (step_g1 rfl h36 (step_bin rfl rfl rfl rfl rfl trivial (step_g1 rfl h36 (step_r rfl rfl trivial ?_)))))
          refine step_gs rfl (fun h38 => ?_) (fun h38 => ?_)
          ·have g38 : (foe : Int) < 1 := of_decide_eq_true h38
           refine step_g0 rfl h38 rfl (step_g0 rfl h38 rfl (step_g0 rfl h38 rfl (step_g1 rfl h36 (step_pickT rfl h38 rfl rfl (step_gt rfl (step_pickT rfl h36 rfl rfl (step_g1 rfl h21 (step_r rfl rfl trivial (step_pickT rfl h21 rfl rfl (step_r rfl rfl trivial (step_nil ?_)))))))))))
           have e39 : holds37_J49 l name foe until_ = true := by
            unfold holds37_J49
            try dsimp only
            rewrite [if_pos g19, if_pos g21, if_neg g23, if_pos g36, if_pos g38]
            all_goals rfl
           exact cutW_n true e39 (Trans.ren [] (by decide +kernel) (by decide +kernel) rfl ⟨⟨rfl, rfl⟩, trivial⟩ trivial (by decide))
          ·have g38 : ¬ ((foe : Int) < 1) := of_decide_eq_false h38
           refine step_g1 rfl h38 (step_r rfl rfl trivial (step_g1 rfl h38 (step_call rfl rfl rfl rfl (nameC_ok name) rfl rfl rfl (step_g1 rfl h38 (step_r rfl rfl trivial (step_g1 rfl h36 (step_pickF rfl h38 rfl rfl (step_gt rfl (step_pickT rfl h36 rfl rfl (step_g1 rfl h21 (step_r rfl rfl trivial ?_)))))))))))
           refine step_pickT rfl h21 rfl rfl (step_r rfl rfl trivial (step_nil ?_))
           have e41 : holds37_J49 l name foe until_ = (!(nameC name)) := by
            unfold holds37_J49
            try dsimp only
            rewrite [if_pos g19, if_pos g21, if_neg g23, if_pos g36, if_neg g38]
            all_goals rfl
           exact cutW_n (!(nameC name)) e41 (Trans.ren [] (by decide +kernel) (by decide +kernel) rfl ⟨⟨rfl, rfl⟩, trivial⟩ trivial (by decide))
         ·have g36 : ¬ (((addL l name foe until_).2 : Int) = 1) := beq_f h36
          refine step_g0 rfl h36 rfl (step_g0 rfl h36 rfl (step_g0 rfl h36 rfl (step_gf rfl rfl (step_gf rfl rfl (step_gf rfl rfl (step_g0 rfl h36 rfl (step_gt rfl (step_pickF rfl h36 rfl rfl (step_g1 rfl h21 (step_r rfl rfl trivial (step_pickT rfl h21 rfl rfl ?_)))))))))))
          refine step_r rfl rfl trivial (step_nil ?_)
          have e42 : holds37_J49 l name foe until_ = false := by
           unfold holds37_J49
           try dsimp only
           rewrite [if_pos g19, if_pos g21, if_neg g23, if_neg g36]
           all_goals rfl
          exact cutW_n false e42 (Trans.ren [] (by decide +kernel) (by decide +kernel) rfl ⟨⟨rfl, rfl⟩, trivial⟩ trivial (by decide))
       ·have g21 : ¬ (((addL l name foe until_).1.length : Int) = 0) := beq_f h21
        refine step_g0 rfl h21 rfl (step_g0 rfl h21 rfl (step_g0 rfl h21 rfl (step_gf rfl rfl (step_gf rfl rfl (step_gf rfl rfl (step_g0 rfl h21 rfl (step_g0 rfl h21 rfl (step_gf rfl rfl (step_gf rfl rfl (step_gf rfl rfl (step_gf rfl rfl ?_)))))))))))
        refine step_gf rfl rfl (step_gf rfl rfl (step_gf rfl rfl (step_gf rfl rfl (step_gf rfl rfl (step_gf rfl rfl (step_gf rfl rfl (step_g0 rfl h21 rfl (step_pickF rfl h21 rfl rfl (step_r rfl rfl trivial (step_nil ?_))))))))))
        have e43 : holds37_J49 l name foe until_ = false := by
         unfold holds37_J49
         try dsimp only
         rewrite [if_pos g19, if_neg g21]
         all_goals rfl
        exact cutW_n false e43 (Trans.ren [] (by decide +kernel) (by decide +kernel) rfl ⟨⟨rfl, rfl⟩, trivial⟩ trivial (by decide))
      ·have g19 : ¬ (small37 = true) := boo_f h19
       refine step_g0 rfl h19 rfl (step_g0 rfl h19 rfl (step_g0 rfl h19 rfl (step_pickF rfl h19 rfl rfl (step_r rfl rfl trivial (step_gf rfl rfl (step_gf rfl rfl (step_gf rfl rfl (step_gf rfl rfl (step_gf rfl rfl (step_gf rfl rfl (step_gf rfl rfl ?_)))))))))))
       refine step_gf rfl rfl (step_gf rfl rfl (step_gf rfl rfl (step_gf rfl rfl (step_gf rfl rfl (step_gf rfl rfl (step_gf rfl rfl (step_gf rfl rfl (step_gf rfl rfl (step_gf rfl rfl (step_gf rfl rfl (step_gf rfl rfl ?_)))))))))))
       refine step_gf rfl rfl (step_r rfl rfl trivial (step_r rfl rfl trivial (step_nil ?_)))
       have e44 : holds37_J49 l name foe until_ = false := by
        unfold holds37_J49
        try dsimp only
        rewrite [if_neg g19]
        all_goals rfl
       exact cutW_n false e44 (Trans.ren [] (by decide +kernel) (by decide +kernel) rfl ⟨⟨rfl, rfl⟩, trivial⟩ trivial (by decide))
     ·rintro t10_49 (hJ18 : holds37_J49 l name foe until_ = t10_49)
      show seqK _ _ _ .normal (⟨[(10, B t10_49)], [], 0, [], 178, 0⟩ : St)
      refine seqK_n (sem_ret (seqK_r ?_))
      have e45 : holds37 l name foe until_ now = t10_49 := by
       unfold holds37
       try dsimp only
       rewrite [if_pos g4, if_pos g7, if_neg g11, if_neg g17, hJ18]
       try dsimp only
       all_goals rfl
      rw [e45]
      exact answersR rfl ⟨trivial, trivial⟩ (rfl) rfl
    ·have g17 : ((addL l name foe until_).2 : Int) = 0 := bne_f h17
     refine sem_skip (seqK_n (sem_seq (sem_region rfl (step_r rfl rfl trivial (step_r rfl rfl trivial (step_r rfl rfl trivial (step_r rfl rfl trivial ?_)))))))
     refine step_callJ (Hin := [.row _ _ _]) (out' := .tup [_, _]) (H' := [(0, _)]) (nx' := 1) [0] rfl rfl rfl rfl rfl rfl rfl rfl rfl (by (repeat' apply And.intro) <;> first | trivial | rfl | exact flat_len (s := 3) (enc := encGLock) (fun _ => rfl) _ | exact flat_len (fun _ => rfl) _ | exact encI_len _ | exact encS_len _ | exact Nat.le_of_ble_eq_true rfl | assumption) (untilL_ok ((addL l name foe until_).1) false name foe now) rfl (by decide) rfl rfl trivial rfl rfl rfl rfl ?_
     refine step_r rfl rfl trivial (step_r rfl rfl trivial (step_r rfl rfl trivial (step_r rfl rfl trivial (step_r rfl rfl trivial (step_nil (seqK_n (sem_seq (sem_region rfl (step_r rfl rfl trivial (step_r rfl rfl trivial (step_r rfl rfl trivial ?_)))))))))))
     refine step_r rfl rfl trivial (step_call rfl rfl rfl rfl (untilL_ok l l_f name foe now) rfl rfl rfl (step_r rfl rfl trivial (step_r rfl rfl trivial (step_r rfl rfl trivial (step_r rfl rfl trivial (step_r rfl rfl trivial (step_nil (seqK_n (sem_seq (sem_region rfl (step_r rfl rfl trivial ?_)))))))))))
     refine step_r rfl rfl trivial ?_
     refine step_max rfl rfl rfl ?_
     refine step_r rfl rfl trivial (step_nil (seqK_n (sem_seq ?_)))
     refine sem_cutW (fun want_96 : Int => (⟨[(1, .pv (.str name)), (2, I foe), (3, I until_), (4, I now), (11, B (small37)), (13, .ref 0 3 0 (addL l name foe until_).1.length), (15, I (untilL ((addL l name foe until_).1) name foe now).1), (16, B (untilL ((addL l name foe until_).1) name foe now).2), (17, I (untilL l name foe now).1), (18, B (untilL l name foe now).2), (19, I want_96)], [(0, .row 24 3 ((addL l name foe until_).1.flatMap encGLock))], 1, [], 178, 0⟩ : St)) (fun w_ => holds37_J96 l name foe until_ now = w_) ?_ ?_
     ·refine sem_seq (sem_region rfl (step_r rfl rfl trivial (step_r rfl rfl trivial (step_nil (seqK_n ?_)))))
      refine sem_cond rfl (fun h53 => ?_) (fun h53 => ?_)
      ·have g53 : ¬ ((untilL l name foe now).2 = true) := boo_f (not_t h53)
       refine sem_region rfl (step_r rfl rfl trivial (step_r rfl rfl trivial (step_nil ?_)))
       have e54 : holds37_J96 l name foe until_ now = until_ := by
        unfold holds37_J96
        try dsimp only
        rewrite [if_neg g53]
        all_goals rfl
       exact cutW_n until_ e54 (Trans.ren [] (by decide +kernel) (by decide +kernel) rfl ⟨⟨rfl, rfl⟩, ⟨rfl, rfl⟩, ⟨rfl, rfl⟩, ⟨rfl, rfl⟩, ⟨rfl, rfl⟩, ⟨rfl, rfl⟩, ⟨rfl, rfl⟩, ⟨rfl, rfl⟩, ⟨rfl, rfl⟩, ⟨rfl, rfl⟩, ⟨rfl, rfl⟩, trivial⟩ ⟨⟨rfl, rfl, rfl⟩, trivial⟩ (by decide))
      ·have g53 : (untilL l name foe now).2 = true := (not_f h53)
       refine sem_skip ?_
       have e55 : holds37_J96 l name foe until_ now = (max until_ ((untilL l name foe now).1)) := by
        unfold holds37_J96
        try dsimp only
        rewrite [if_pos g53]
        all_goals rfl
       exact cutW_n (max until_ ((untilL l name foe now).1)) e55 (Trans.ren [] (by decide +kernel) (by decide +kernel) rfl ⟨⟨rfl, rfl⟩, ⟨rfl, rfl⟩, ⟨rfl, rfl⟩, ⟨rfl, rfl⟩, ⟨rfl, rfl⟩, ⟨rfl, rfl⟩, ⟨rfl, rfl⟩, ⟨rfl, rfl⟩, ⟨rfl, rfl⟩, ⟨rfl, rfl⟩, ⟨rfl, rfl⟩, trivial⟩ ⟨⟨rfl, rfl, rfl⟩, trivial⟩ (by decide))
     ·rintro want_96 (hJ52 : holds37_J96 l name foe until_ now = want_96)
      show seqK _ _ _ .normal (⟨[(1, .pv (.str name)), (2, I foe), (3, I until_), (4, I now), (11, B (small37)), (13, .ref 0 3 0 (addL l name foe until_).1.length), (15, I (untilL ((addL l name foe until_).1) name foe now).1), (16, B (untilL ((addL l name foe until_).1) name foe now).2), (17, I (untilL l name foe now).1), (18, B (untilL l name foe now).2), (19, I want_96)], [(0, .row 24 3 ((addL l name foe until_).1.flatMap encGLock))], 1, [], 178, 0⟩ : St)
      refine seqK_n (sem_seq ?_)
      refine sem_cutW (fun w_ : Unit => match w_ with | () => (⟨[(1, .pv (.str name)), (2, I foe), (4, I now), (11, B (small37)), (13, .ref 0 3 0 (addL l name foe until_).1.length), (15, I (untilL ((addL l name foe until_).1) name foe now).1), (16, B (untilL ((addL l name foe until_).1) name foe now).2)], [(0, .row 24 3 ((addL l name foe until_).1.flatMap encGLock))], 1, [], 178, 0⟩ : St)) (fun w_ => holds37_J99 l name foe until_ now want_96 = .inr w_) ?_ ?_
      ·refine sem_seq (sem_region rfl (step_r rfl rfl trivial ?_))
       refine step_callJ (Hin := [.row _ _ _]) (H' := [(0, _)]) (nx' := 1) [0] rfl rfl rfl rfl rfl rfl rfl rfl rfl (by (repeat' apply And.intro) <;> first | trivial | rfl | exact flat_len (s := 3) (enc := encGLock) (fun _ => rfl) _ | exact flat_len (fun _ => rfl) _ | exact encI_len _ | exact encS_len _ | exact Nat.le_of_ble_eq_true rfl | assumption) (rightL_ok ((addL l name foe until_).1) false) rfl (by decide) rfl rfl trivial rfl rfl rfl rfl ?_
       refine step_r rfl rfl trivial (step_r rfl rfl trivial ?_)
       refine step_gs rfl (fun h58 => ?_) (fun h58 => ?_)
       ·have g58 : ¬ (rightL ((addL l name foe until_).1) = true) := boo_f (not_t h58)
        refine step_g0 rfl h58 rfl (step_g0 rfl h58 rfl (step_g0 rfl h58 rfl (step_g0 rfl h58 rfl (step_gf rfl rfl (step_gf rfl rfl (step_gf rfl rfl (step_gf rfl rfl (step_gf rfl rfl (step_gf rfl rfl (step_gf rfl rfl (step_g0 rfl h58 rfl ?_)))))))))))
        refine step_pickT rfl h58 rfl rfl (step_r rfl rfl trivial (step_gf rfl rfl (step_gf rfl rfl (step_gf rfl rfl (step_gf rfl rfl (step_gf rfl rfl (step_gf rfl rfl (step_gf rfl rfl (step_gf rfl rfl (step_gf rfl rfl (step_gf rfl rfl ?_)))))))))))
        refine step_gf rfl rfl (step_gf rfl rfl (step_gf rfl rfl (step_r rfl rfl trivial (step_nil (seqK_n (sem_condT rfl (sem_seq (sem_region rfl (step_r rfl rfl trivial (step_nil (seqK_n ?_)))))))))))
        refine sem_ret (cutW_r (seqK_r ?_))
        have e59 : holds37_J99 l name foe until_ now want_96 = .inl false := by
         unfold holds37_J99
         try dsimp only
         rewrite [if_neg g58]
         all_goals rfl
        have e60 : holds37 l name foe until_ now = false := by
         unfold holds37
         try dsimp only
         rewrite [if_pos g4, if_pos g7, if_neg g11, if_pos g17, hJ52]
         try dsimp only
         rewrite [e59]
         try dsimp only
         all_goals rfl
        rw [e60]
        exact answersR rfl ⟨trivial, trivial⟩ (rfl) rfl
       ·have g58 : rightL ((addL l name foe until_).1) = true := (not_f h58)
        refine step_g1 rfl h58 (step_r rfl rfl trivial (step_g1 rfl h58 (step_r rfl rfl trivial (step_g1 rfl h58 (step_bin rfl rfl rfl rfl rfl trivial (step_g1 rfl h58 (step_r rfl rfl trivial ?_)))))))
        refine step_gs rfl (fun h64 => ?_) (fun h64 => ?_)
        ·have g64 : (until_ : Int) > now := of_decide_eq_true h64
         refine step_g1 rfl h64 (step_r rfl rfl trivial (step_g1 rfl h64 (step_r rfl rfl trivial (step_g1 rfl h64 (step_r rfl rfl trivial ?_)))))
         refine step_gs rfl (fun h67 => ?_) (fun h67 => ?_)
         ·have g67 : ¬ ((untilL ((addL l name foe until_).1) name foe now).2 = true) := boo_f (not_t h67)
          refine step_g0 rfl h67 rfl (step_g0 rfl h67 rfl (step_g0 rfl h67 rfl (step_g1 rfl h64 (step_pickT rfl h67 rfl rfl (step_g1 rfl h58 (step_pickT rfl h64 rfl rfl (step_pickF rfl h58 rfl rfl (step_r rfl rfl trivial (step_gf rfl rfl (step_gf rfl rfl (step_gf rfl rfl ?_)))))))))))
          refine step_gf rfl rfl (step_gf rfl rfl (step_gf rfl rfl (step_gf rfl rfl (step_gf rfl rfl (step_gf rfl rfl (step_gf rfl rfl (step_gf rfl rfl (step_gf rfl rfl (step_gf rfl rfl (step_r rfl rfl trivial (step_nil ?_)))))))))))
          refine seqK_n (sem_condT rfl (sem_seq (sem_region rfl (step_r rfl rfl trivial (step_nil (seqK_n (sem_ret (cutW_r (seqK_r ?_)))))))))
          have e68 : holds37_J99 l name foe until_ now want_96 = .inl false := by
           unfold holds37_J99
           try dsimp only
           rewrite [if_pos g58, if_pos g64, if_neg g67]
           all_goals rfl
          have e69 : holds37 l name foe until_ now = false := by
           unfold holds37
           try dsimp only
           rewrite [if_pos g4, if_pos g7, if_neg g11, if_pos g17, hJ52]
           try dsimp only
           rewrite [e68]
           try dsimp only
           all_goals rfl
          rw [e69]
          exact answersR rfl ⟨trivial, trivial⟩ (rfl) rfl
         ·have g67 : (untilL ((addL l name foe until_).1) name foe now).2 = true := (not_f h67)
          refine step_g1 rfl h67 (step_r rfl rfl trivial (step_g1 rfl h67 (step_r rfl rfl trivial (step_g1 rfl h67 (step_bin rfl rfl rfl rfl rfl trivial (step_g1 rfl h64 (step_pickF rfl h67 rfl rfl (step_g1 rfl h58 (step_pickT rfl h64 rfl rfl (step_pickF rfl h58 rfl rfl (step_r rfl rfl trivial ?_)))))))))))
          refine step_gs rfl (fun h73 => ?_) (fun h73 => ?_)
          ·have g73 : ¬ (((untilL ((addL l name foe until_).1) name foe now).1 : Int) = want_96) := bne_t h73
           refine step_g0 rfl h73 rfl (step_g0 rfl h73 rfl (step_g0 rfl h73 rfl (step_g0 rfl h73 rfl (step_gf rfl rfl (step_gf rfl rfl (step_gf rfl rfl (step_gf rfl rfl (step_gf rfl rfl (step_gf rfl rfl (step_gf rfl rfl (step_gf rfl rfl ?_)))))))))))
           refine step_g0 rfl h73 rfl (step_pickT rfl h73 rfl rfl (step_nil (seqK_n (sem_condT rfl (sem_seq (sem_region rfl (step_r rfl rfl trivial (step_nil (seqK_n (sem_ret (cutW_r ?_)))))))))))
           refine seqK_r ?_
           have e74 : holds37_J99 l name foe until_ now want_96 = .inl false := by
            unfold holds37_J99
            try dsimp only
            rewrite [if_pos g58, if_pos g64, if_pos g67, if_neg g73]
            all_goals rfl
           have e75 : holds37 l name foe until_ now = false := by
            unfold holds37
            try dsimp only
            rewrite [if_pos g4, if_pos g7, if_neg g11, if_pos g17, hJ52]
            try dsimp only
            rewrite [e74]
            try dsimp only
            all_goals rfl
           rw [e75]
           exact answersR rfl ⟨trivial, trivial⟩ (rfl) rfl
          ·have g73 : ((untilL ((addL l name foe until_).1) name foe now).1 : Int) = want_96 := bne_f h73
           refine step_g1 rfl h73 (step_r rfl rfl trivial (step_g1 rfl h73 (step_r rfl rfl trivial (step_g1 rfl h73 (step_bin rfl rfl rfl rfl rfl trivial (step_g1 rfl h73 (step_r rfl rfl trivial ?_)))))))
           refine step_gs rfl (fun h77 => ?_) (fun h77 => ?_)
           ·have g77 : (until_ : Int) ≤ now := of_decide_eq_true h77
            refine step_g1 rfl h77 (step_r rfl rfl trivial (step_g1 rfl h77 (step_r rfl rfl trivial (step_g1 rfl h77 (step_bin rfl rfl rfl rfl rfl trivial (step_g1 rfl h77 (step_r rfl rfl trivial ?_)))))))
            refine step_gs rfl (fun h80 => ?_) (fun h80 => ?_)
            ·have g80 : ¬ (((untilL ((addL l name foe until_).1) name foe now).2) = ((untilL l name foe now).2)) := beq_f (not_t h80)
             refine step_g0 rfl h80 rfl (step_g0 rfl h80 rfl (step_g0 rfl h80 rfl (step_g1 rfl h77 (step_pickT rfl h80 rfl rfl (step_g1 rfl h73 (step_pickT rfl h77 rfl rfl (step_pickF rfl h73 rfl rfl (step_nil (seqK_n (sem_condT rfl (sem_seq ?_)))))))))))
             refine sem_region rfl (step_r rfl rfl trivial (step_nil (seqK_n (sem_ret (cutW_r (seqK_r ?_))))))
             have e81 : holds37_J99 l name foe until_ now want_96 = .inl false := by
              unfold holds37_J99
              try dsimp only
              rewrite [if_pos g58, if_pos g64, if_pos g67, if_pos g73, if_pos g77, if_neg g80]
              all_goals rfl
             have e82 : holds37 l name foe until_ now = false := by
              unfold holds37
              try dsimp only
              rewrite [if_pos g4, if_pos g7, if_neg g11, if_pos g17, hJ52]
              try dsimp only
              rewrite [e81]
              try dsimp only
              all_goals rfl
             rw [e82]
             exact answersR rfl ⟨trivial, trivial⟩ (rfl) rfl
            ·have g80 : ((untilL ((addL l name foe until_).1) name foe now).2) = ((untilL l name foe now).2) := beq_t (not_f h80)
             refine step_g1 rfl h80 (step_r rfl rfl trivial (step_g1 rfl h80 (step_r rfl rfl trivial (step_g1 rfl h80 (step_bin rfl rfl rfl rfl rfl trivial (step_g1 rfl h77 (step_pickF rfl h80 rfl rfl (step_g1 rfl h73 (step_pickT rfl h77 rfl rfl (step_pickF rfl h73 rfl rfl (step_nil ?_)))))))))))
             refine seqK_n ?_
             refine sem_cond rfl (fun h85 => ?_) (fun h85 => ?_)
             ·have g85 : ¬ (((untilL ((addL l name foe until_).1) name foe now).1 : Int) = ((untilL l name foe now).1)) := bne_t h85
              refine sem_seq (sem_region rfl (step_r rfl rfl trivial (step_nil (seqK_n (sem_ret (cutW_r (seqK_r ?_)))))))
              have e86 : holds37_J99 l name foe until_ now want_96 = .inl false := by
               unfold holds37_J99
               try dsimp only
               rewrite [if_pos g58, if_pos g64, if_pos g67, if_pos g73, if_pos g77, if_pos g80, if_neg g85]
               all_goals rfl
              have e87 : holds37 l name foe until_ now = false := by
               unfold holds37
               try dsimp only
               rewrite [if_pos g4, if_pos g7, if_neg g11, if_pos g17, hJ52]
               try dsimp only
               rewrite [e86]
               try dsimp only
               all_goals rfl
              rw [e87]
              exact answersR rfl ⟨trivial, trivial⟩ (rfl) rfl
             ·have g85 : ((untilL ((addL l name foe until_).1) name foe now).1 : Int) = ((untilL l name foe now).1) := bne_f h85
              refine sem_skip ?_
              have e88 : holds37_J99 l name foe until_ now want_96 = .inr () := by
               unfold holds37_J99
               try dsimp only
               rewrite [if_pos g58, if_pos g64, if_pos g67, if_pos g73, if_pos g77, if_pos g80, if_pos g85]
               all_goals rfl
              exact cutW_n () e88 (Trans.ren [] (by decide +kernel) (by decide +kernel) rfl ⟨⟨rfl, rfl⟩, ⟨rfl, rfl⟩, ⟨rfl, rfl⟩, ⟨rfl, rfl⟩, ⟨rfl, rfl⟩, ⟨rfl, rfl⟩, ⟨rfl, rfl⟩, trivial⟩ ⟨⟨rfl, rfl, rfl⟩, trivial⟩ (by decide))
           ·have g77 : ¬ ((until_ : Int) ≤ now) := of_decide_eq_false h77
            refine step_g0 rfl h77 rfl (step_g0 rfl h77 rfl (step_g0 rfl h77 rfl (step_g0 rfl h77 rfl (step_gf rfl rfl (step_gf rfl rfl (step_gf rfl rfl (step_g0 rfl h77 rfl (step_g1 rfl h73 (step_pickF rfl h77 rfl rfl (step_pickF rfl h73 rfl rfl (step_nil ?_)))))))))))
            refine seqK_n (sem_condF rfl (sem_skip ?_))
            have e89 : holds37_J99 l name foe until_ now want_96 = .inr () := by
             unfold holds37_J99
             try dsimp only
             rewrite [if_pos g58, if_pos g64, if_pos g67, if_pos g73, if_neg g77]
             all_goals rfl
            exact cutW_n () e89 (Trans.ren [] (by decide +kernel) (by decide +kernel) rfl ⟨⟨rfl, rfl⟩, ⟨rfl, rfl⟩, ⟨rfl, rfl⟩, ⟨rfl, rfl⟩, ⟨rfl, rfl⟩, ⟨rfl, rfl⟩, ⟨rfl, rfl⟩, trivial⟩ ⟨⟨rfl, rfl, rfl⟩, trivial⟩ (by decide))
        ·have g64 : ¬ ((until_ : Int) > now) := of_decide_eq_false h64
         refine step_g0 rfl h64 rfl (step_g0 rfl h64 rfl (step_g0 rfl h64 rfl (step_gf rfl rfl (step_gf rfl rfl (step_gf rfl rfl (step_g0 rfl h64 rfl (step_g1 rfl h58 (step_pickF rfl h64 rfl rfl (step_pickF rfl h58 rfl rfl (step_r rfl rfl trivial (step_gt rfl ?_)))))))))))
         refine step_r rfl rfl trivial (step_gt rfl (step_r rfl rfl trivial (step_gt rfl (step_bin rfl rfl rfl rfl rfl trivial (step_gt rfl (step_r rfl rfl trivial ?_))))))
         refine step_gs rfl (fun h91 => ?_) (fun h91 => ?_)
         ·have g91 : (until_ : Int) ≤ now := of_decide_eq_true h91
          refine step_g1 rfl h91 (step_r rfl rfl trivial (step_g1 rfl h91 (step_r rfl rfl trivial (step_g1 rfl h91 (step_bin rfl rfl rfl rfl rfl trivial (step_g1 rfl h91 (step_r rfl rfl trivial ?_)))))))
          refine step_gs rfl (fun h95 => ?_) (fun h95 => ?_)
          ·have g95 : ¬ (((untilL ((addL l name foe until_).1) name foe now).2) = ((untilL l name foe now).2)) := beq_f (not_t h95)
           refine step_g0 rfl h95 rfl (step_g0 rfl h95 rfl (step_g0 rfl h95 rfl (step_g1 rfl h91 (step_pickT rfl h95 rfl rfl (step_gt rfl (step_pickT rfl h91 rfl rfl (step_r rfl rfl trivial (step_nil (seqK_n (sem_condT rfl (sem_seq ?_)))))))))))
           refine sem_region rfl (step_r rfl rfl trivial (step_nil (seqK_n (sem_ret (cutW_r (seqK_r ?_))))))
           have e96 : holds37_J99 l name foe until_ now want_96 = .inl false := by
            unfold holds37_J99
            try dsimp only
            rewrite [if_pos g58, if_neg g64, if_pos g91, if_neg g95]
            all_goals rfl
           have e97 : holds37 l name foe until_ now = false := by
            unfold holds37
            try dsimp only
            rewrite [if_pos g4, if_pos g7, if_neg g11, if_pos g17, hJ52]
            try dsimp only
            rewrite [e96]
            try dsimp only
            all_goals rfl
           rw [e97]
           exact answersR rfl ⟨trivial, trivial⟩ (rfl) rfl
          ·have g95 : ((untilL ((addL l name foe until_).1) name foe now).2) = ((untilL l name foe now).2) := beq_t (not_f h95)
           refine step_g1 rfl h95 (step_r rfl rfl trivial (step_g1 rfl h95 (step_r rfl rfl trivial (step_g1 rfl h95 (step_bin rfl rfl rfl rfl rfl trivial (step_g1 rfl h91 (step_pickF rfl h95 rfl rfl (step_gt rfl (step_pickT rfl h91 rfl rfl (step_r rfl rfl trivial (step_nil ?_)))))))))))
           refine seqK_n ?_
           refine sem_cond rfl (fun h101 => ?_) (fun h101 => ?_)
           ·have g101 : ¬ (((untilL ((addL l name foe until_).1) name foe now).1 : Int) = ((untilL l name foe now).1)) := bne_t h101
            refine sem_seq (sem_region rfl (step_r rfl rfl trivial (step_nil (seqK_n (sem_ret (cutW_r (seqK_r ?_)))))))
            have e102 : holds37_J99 l name foe until_ now want_96 = .inl false := by
             unfold holds37_J99
             try dsimp only
             rewrite [if_pos g58, if_neg g64, if_pos g91, if_pos g95, if_neg g101]
             all_goals rfl
            have e103 : holds37 l name foe until_ now = false := by
             unfold holds37
             try dsimp only
             rewrite [if_pos g4, if_pos g7, if_neg g11, if_pos g17, hJ52]
             try dsimp only
             rewrite [e102]
             try dsimp only
             all_goals rfl
            rw [e103]
            exact answersR rfl ⟨trivial, trivial⟩ (rfl) rfl
           ·have g101 : ((untilL ((addL l name foe until_).1) name foe now).1 : Int) = ((untilL l name foe now).1) := bne_f h101
            refine sem_skip ?_
            have e104 : holds37_J99 l name foe until_ now want_96 = .inr () := by
             unfold holds37_J99
             try dsimp only
             rewrite [if_pos g58, if_neg g64, if_pos g91, if_pos g95, if_pos g101]
             all_goals rfl
            exact cutW_n () e104 (Trans.ren [] (by decide +kernel) (by decide +kernel) rfl ⟨⟨rfl, rfl⟩, ⟨rfl, rfl⟩, ⟨rfl, rfl⟩, ⟨rfl, rfl⟩, ⟨rfl, rfl⟩, ⟨rfl, rfl⟩, ⟨rfl, rfl⟩, trivial⟩ ⟨⟨rfl, rfl, rfl⟩, trivial⟩ (by decide))
         ·have g91 : ¬ ((until_ : Int) ≤ now) := of_decide_eq_false h91
          refine step_g0 rfl h91 rfl (step_g0 rfl h91 rfl (step_g0 rfl h91 rfl (step_g0 rfl h91 rfl (step_gf rfl rfl (step_gf rfl rfl (step_gf rfl rfl (step_g0 rfl h91 rfl (step_gt rfl (step_pickF rfl h91 rfl rfl (step_r rfl rfl trivial (step_nil ?_)))))))))))
          refine seqK_n (sem_condF rfl (sem_skip ?_))
          have e105 : holds37_J99 l name foe until_ now want_96 = .inr () := by
           unfold holds37_J99
           try dsimp only
           rewrite [if_pos g58, if_neg g64, if_neg g91]
           all_goals rfl
          exact cutW_n () e105 (Trans.ren [] (by decide +kernel) (by decide +kernel) rfl ⟨⟨rfl, rfl⟩, ⟨rfl, rfl⟩, ⟨rfl, rfl⟩, ⟨rfl, rfl⟩, ⟨rfl, rfl⟩, ⟨rfl, rfl⟩, ⟨rfl, rfl⟩, trivial⟩ ⟨⟨rfl, rfl, rfl⟩, trivial⟩ (by decide))
      ·rintro ⟨⟩ (hJ56 : holds37_J99 l name foe until_ now want_96 = .inr ())
       show seqK _ _ _ .normal (⟨[(1, .pv (.str name)), (2, I foe), (4, I now), (11, B (small37)), (13, .ref 0 3 0 (addL l name foe until_).1.length), (15, I (untilL ((addL l name foe until_).1) name foe now).1), (16, B (untilL ((addL l name foe until_).1) name foe now).2)], [(0, .row 24 3 ((addL l name foe until_).1.flatMap encGLock))], 1, [], 178, 0⟩ : St)
       refine seqK_n (sem_seq (sem_region rfl (step_r rfl rfl trivial (step_r rfl rfl trivial ?_))))
       refine step_callJ (Hin := [.row _ _ _]) (out' := .ref 1 _ _ _) (H' := [(1, .row _ _ _), (0, _)]) (nx' := 2) [0] rfl rfl rfl rfl rfl rfl rfl rfl rfl (by (repeat' apply And.intro) <;> first | trivial | rfl | exact flat_len (s := 3) (enc := encGLock) (fun _ => rfl) _ | exact flat_len (fun _ => rfl) _ | exact encI_len _ | exact encS_len _ | exact Nat.le_of_ble_eq_true rfl | assumption) (cleanL_ok ((addL l name foe until_).1) false now (by first | omega | (simp; done) | (simp only [IntKind.wrap_i64]; omega) | (simp only [List.length_nil, List.length_cons] at *; omega) | (simp only [IntKind.wrap_i64] at *; omega) | (simp; omega))) rfl (by decide) rfl rfl ⟨encGLock_solid, trivial⟩ rfl rfl rfl rfl ?_
       have p107 := cleanL_len ((addL l name foe until_).1) now
       refine step_r rfl rfl trivial (step_nil (seqK_n (sem_seq (sem_region rfl (step_r rfl rfl trivial (step_r rfl rfl trivial (step_r rfl rfl trivial (step_r rfl rfl trivial ?_))))))))
       refine step_callJ (Hin := [.row _ _ _]) (out' := .tup [_, _]) (H' := [(1, _), (0, _)]) (nx' := 2) [1] rfl rfl rfl rfl rfl rfl rfl rfl rfl (by (repeat' apply And.intro) <;> first | trivial | rfl | exact flat_len (s := 3) (enc := encGLock) (fun _ => rfl) _ | exact flat_len (fun _ => rfl) _ | exact encI_len _ | exact encS_len _ | exact Nat.le_of_ble_eq_true rfl | assumption) (untilL_ok (cleanL ((addL l name foe until_).1) now) false name foe now) rfl (by decide) rfl rfl trivial rfl rfl rfl rfl ?_
       refine step_r rfl rfl trivial (step_r rfl rfl trivial (step_r rfl rfl trivial (step_r rfl rfl trivial (step_r rfl rfl trivial (step_nil (seqK_n (sem_seq (sem_region rfl (step_r rfl rfl trivial (step_r rfl rfl trivial ?_))))))))))
       refine step_gs rfl (fun h113 => ?_) (fun h113 => ?_)
       ·have g113 : small37 = true := h113
        refine step_g1 rfl h113 (step_r rfl rfl trivial (step_g1 rfl h113 ?_))
        refine step_callJ (Hin := [.row _ _ _]) (H' := [(1, _), (0, _)]) (nx' := 2) [1] rfl rfl rfl rfl rfl rfl rfl rfl rfl (by (repeat' apply And.intro) <;> first | trivial | rfl | exact flat_len (s := 3) (enc := encGLock) (fun _ => rfl) _ | exact flat_len (fun _ => rfl) _ | exact encI_len _ | exact encS_len _ | exact Nat.le_of_ble_eq_true rfl | assumption) (rightL_ok (cleanL ((addL l name foe until_).1) now) false) rfl (by decide) rfl rfl trivial rfl rfl rfl rfl ?_
        refine step_pickT rfl h113 rfl rfl (step_r rfl rfl trivial ?_)
        refine step_gs rfl (fun h115 => ?_) (fun h115 => ?_)
        ·have g115 : rightL (cleanL ((addL l name foe until_).1) now) = true := h115
         refine step_g1 rfl h115 (step_r rfl rfl trivial (step_g1 rfl h115 (step_r rfl rfl trivial (step_g1 rfl h115 (step_bin rfl rfl rfl rfl rfl trivial (step_pickT rfl h115 rfl rfl (step_r rfl rfl trivial ?_)))))))
         refine step_gs rfl (fun h118 => ?_) (fun h118 => ?_)
         ·have g118 : ((untilL (cleanL ((addL l name foe until_).1) now) name foe now).1 : Int) = ((untilL ((addL l name foe until_).1) name foe now).1) := beq_t h118
          refine step_g1 rfl h118 (step_r rfl rfl trivial (step_g1 rfl h118 (step_r rfl rfl trivial (step_g1 rfl h118 (step_bin rfl rfl rfl rfl rfl trivial (step_pickT rfl h118 rfl rfl (step_r rfl rfl trivial ?_)))))))
          refine step_gs rfl (fun h121 => ?_) (fun h121 => ?_)
          ·have g121 : ((untilL (cleanL ((addL l name foe until_).1) now) name foe now).2) = ((untilL ((addL l name foe until_).1) name foe now).2) := beq_t h121
           refine step_g1 rfl h121 (step_r rfl rfl trivial (step_g1 rfl h121 (step_r rfl rfl trivial (step_g1 rfl h121 ?_))))
           refine step_callJ (Hin := [.row _ _ _]) (out' := .ref 2 _ _ _) (H' := [(2, .row _ _ _), (1, _), (0, _)]) (nx' := 3) [1] rfl rfl rfl rfl rfl rfl rfl rfl rfl (by (repeat' apply And.intro) <;> first | trivial | rfl | exact flat_len (s := 3) (enc := encGLock) (fun _ => rfl) _ | exact flat_len (fun _ => rfl) _ | exact encI_len _ | exact encS_len _ | exact Nat.le_of_ble_eq_true rfl | assumption) (cleanL_ok (cleanL ((addL l name foe until_).1) now) false now (by first | omega | (simp; done) | (simp only [IntKind.wrap_i64]; omega) | (simp only [List.length_nil, List.length_cons] at *; omega) | (simp only [IntKind.wrap_i64] at *; omega) | (simp; omega))) rfl (by decide) rfl rfl ⟨encGLock_solid, trivial⟩ rfl rfl rfl rfl ?_
           have p122 := cleanL_len (cleanL ((addL l name foe until_).1) now) now
           refine step_g1 rfl h121 (step_r rfl rfl trivial (step_g1 rfl h121 (step_r rfl rfl trivial (step_g1 rfl h121 (step_r rfl rfl trivial (step_g1 rfl h121 (step_bin rfl rfl rfl rfl rfl trivial (step_pickT rfl h121 rfl rfl (step_r rfl rfl trivial ?_)))))))))
           refine step_gs rfl (fun h124 => ?_) (fun h124 => ?_)
           ·have g124 : ((cleanL (cleanL ((addL l name foe until_).1) now) now).length : Int) = ((cleanL ((addL l name foe until_).1) now).length) := beq_t h124
            refine step_g1 rfl h124 (step_r rfl rfl trivial (step_g1 rfl h124 (step_r rfl rfl trivial (step_g1 rfl h124 (step_n (o := .row _ _ [_]) (nx' := 4) rfl rfl rfl (by decide) (step_g1 rfl h124 (step_r rfl rfl trivial (step_g1 rfl h124 (step_r rfl rfl trivial (step_g1 rfl h124 ?_))))))))))
            refine step_callJ (Hin := [.row _ _ _, .row _ _ _]) (out' := .ref 4 _ _ _) (H' := [(4, .row _ _ _), (3, _), (2, _), (1, _), (0, _)]) (nx' := 5) [0, 3] rfl rfl rfl rfl rfl rfl rfl rfl rfl (by (repeat' apply And.intro) <;> first | trivial | rfl | exact flat_len (s := 3) (enc := encGLock) (fun _ => rfl) _ | exact flat_len (fun _ => rfl) _ | exact encI_len _ | exact encS_len _ | exact Nat.le_of_ble_eq_true rfl | assumption) (freeL_ok ((addL l name foe until_).1) false ([name]) false foe now (by first | omega | (simp; done) | (simp only [IntKind.wrap_i64]; omega) | (simp only [List.length_nil, List.length_cons] at *; omega) | (simp only [IntKind.wrap_i64] at *; omega) | (simp; omega))) rfl (by decide) rfl rfl ⟨encS_solid, trivial⟩ rfl rfl rfl rfl ?_
            refine step_g1 rfl h124 (step_r rfl rfl trivial (step_g1 rfl h124 (step_bin rfl rfl rfl rfl rfl trivial (step_g1 rfl h124 (step_r rfl rfl trivial (step_g1 rfl h124 (step_bin rfl rfl rfl rfl rfl trivial (step_pickT rfl h124 rfl rfl (step_r rfl rfl trivial (step_nil (seqK_n ?_)))))))))))
            refine sem_ret ?_
            have e126 : holds37 l name foe until_ now = ((((freeL ((addL l name foe until_).1) ([name]) foe now).length : Int) == 0) == ((untilL ((addL l name foe until_).1) name foe now).2)) := by
             unfold holds37
             try dsimp only
             rewrite [if_pos g4, if_pos g7, if_neg g11, if_pos g17, hJ52]
             try dsimp only
             rewrite [hJ56]
             try dsimp only
             rewrite [if_pos g113, if_pos g115, if_pos g118, if_pos g121, if_pos g124]
             all_goals rfl
            rw [e126]
            exact answersR rfl ⟨trivial, trivial⟩ (rfl) rfl
           ·have g124 : ¬ (((cleanL (cleanL ((addL l name foe until_).1) now) now).length : Int) = ((cleanL ((addL l name foe until_).1) now).length)) := beq_f h124
            refine step_g0 rfl h124 rfl (step_g0 rfl h124 rfl (step_g0 rfl h124 rfl (step_g0 rfl h124 rfl (step_g0 rfl h124 rfl (step_g0 rfl h124 rfl (step_g0 rfl h124 rfl (step_g0 rfl h124 rfl (step_g0 rfl h124 rfl (step_g0 rfl h124 rfl (step_pickF rfl h124 rfl rfl (step_r rfl rfl trivial ?_)))))))))))
            refine step_nil (seqK_n (sem_ret ?_))
            have e127 : holds37 l name foe until_ now = false := by
             unfold holds37
             try dsimp only
             rewrite [if_pos g4, if_pos g7, if_neg g11, if_pos g17, hJ52]
             try dsimp only
             rewrite [hJ56]
             try dsimp only
             rewrite [if_pos g113, if_pos g115, if_pos g118, if_pos g121, if_neg g124]
             all_goals rfl
            rw [e127]
            exact answersR rfl ⟨trivial, trivial⟩ (rfl) rfl
          ·have g121 : ¬ (((untilL (cleanL ((addL l name foe until_).1) now) name foe now).2) = ((untilL ((addL l name foe until_).1) name foe now).2)) := beq_f h121
           refine step_g0 rfl h121 rfl (step_g0 rfl h121 rfl (step_g0 rfl h121 rfl (step_g0 rfl h121 rfl (step_g0 rfl h121 rfl (step_g0 rfl h121 rfl (step_g0 rfl h121 rfl (step_pickF rfl h121 rfl rfl (step_r rfl rfl trivial (step_gf rfl rfl (step_gf rfl rfl (step_gf rfl rfl ?_)))))))))))
           refine step_gf rfl rfl (step_gf rfl rfl (step_gf rfl rfl (step_gf rfl rfl (step_gf rfl rfl (step_gf rfl rfl (step_gf rfl rfl (step_r rfl rfl trivial (step_r rfl rfl trivial (step_nil (seqK_n (sem_ret ?_)))))))))))
           have e128 : holds37 l name foe until_ now = false := by
            unfold holds37
            try dsimp only
            rewrite [if_pos g4, if_pos g7, if_neg g11, if_pos g17, hJ52]
            try dsimp only
            rewrite [hJ56]
            try dsimp only
            rewrite [if_pos g113, if_pos g115, if_pos g118, if_neg g121]
            all_goals rfl
           rw [e128]
           exact answersR rfl ⟨trivial, trivial⟩ (rfl) rfl
         ·have g118 : ¬ (((untilL (cleanL ((addL l name foe until_).1) now) name foe now).1 : Int) = ((untilL ((addL l name foe until_).1) name foe now).1)) := beq_f h118
          refine step_g0 rfl h118 rfl (step_g0 rfl h118 rfl (step_g0 rfl h118 rfl (step_pickF rfl h118 rfl rfl (step_r rfl rfl trivial (step_gf rfl rfl (step_gf rfl rfl (step_gf rfl rfl (step_gf rfl rfl (step_gf rfl rfl (step_gf rfl rfl (step_gf rfl rfl ?_)))))))))))
          refine step_r rfl rfl trivial (step_r rfl rfl trivial (step_gf rfl rfl (step_gf rfl rfl (step_gf rfl rfl (step_gf rfl rfl (step_gf rfl rfl (step_gf rfl rfl (step_gf rfl rfl (step_gf rfl rfl (step_gf rfl rfl (step_gf rfl rfl ?_)))))))))))
          refine step_r rfl rfl trivial (step_r rfl rfl trivial (step_nil (seqK_n (sem_ret ?_))))
          have e129 : holds37 l name foe until_ now = false := by
           unfold holds37
           try dsimp only
           rewrite [if_pos g4, if_pos g7, if_neg g11, if_pos g17, hJ52]
           try dsimp only
           rewrite [hJ56]
           try dsimp only
           rewrite [if_pos g113, if_pos g115, if_neg g118]
           all_goals rfl
          rw [e129]
          exact answersR rfl ⟨trivial, trivial⟩ (rfl) rfl
        ·have g115 : ¬ (rightL (cleanL ((addL l name foe until_).1) now) = true) := boo_f h115
         refine step_g0 rfl h115 rfl (step_g0 rfl h115 rfl (step_g0 rfl h115 rfl (step_pickF rfl h115 rfl rfl (step_r rfl rfl trivial (step_gf rfl rfl (step_gf rfl rfl (step_gf rfl rfl (step_r rfl rfl trivial (step_r rfl rfl trivial (step_gf rfl rfl (step_gf rfl rfl ?_)))))))))))
         refine step_gf rfl rfl (step_gf rfl rfl (step_gf rfl rfl (step_gf rfl rfl (step_gf rfl rfl (step_r rfl rfl trivial (step_r rfl rfl trivial (step_gf rfl rfl (step_gf rfl rfl (step_gf rfl rfl (step_gf rfl rfl (step_gf rfl rfl ?_)))))))))))
         refine step_gf rfl rfl (step_gf rfl rfl (step_gf rfl rfl (step_gf rfl rfl (step_gf rfl rfl (step_r rfl rfl trivial (step_r rfl rfl trivial (step_nil (seqK_n (sem_ret ?_)))))))))
         have e130 : holds37 l name foe until_ now = false := by
          unfold holds37
          try dsimp only
          rewrite [if_pos g4, if_pos g7, if_neg g11, if_pos g17, hJ52]
          try dsimp only
          rewrite [hJ56]
          try dsimp only
          rewrite [if_pos g113, if_neg g115]
          all_goals rfl
         rw [e130]
         exact answersR rfl ⟨trivial, trivial⟩ (rfl) rfl
       ·have g113 : ¬ (small37 = true) := boo_f h113
        refine step_g0 rfl h113 rfl (step_g0 rfl h113 rfl (step_pickF rfl h113 rfl rfl (step_r rfl rfl trivial (step_gf rfl rfl (step_gf rfl rfl (step_gf rfl rfl (step_r rfl rfl trivial (step_r rfl rfl trivial (step_gf rfl rfl (step_gf rfl rfl (step_gf rfl rfl ?_)))))))))))
        refine step_r rfl rfl trivial (step_r rfl rfl trivial (step_gf rfl rfl (step_gf rfl rfl (step_gf rfl rfl (step_gf rfl rfl (step_gf rfl rfl (step_gf rfl rfl (step_gf rfl rfl (step_r rfl rfl trivial (step_r rfl rfl trivial (step_gf rfl rfl ?_)))))))))))
        refine step_gf rfl rfl (step_gf rfl rfl (step_gf rfl rfl (step_gf rfl rfl (step_gf rfl rfl (step_gf rfl rfl (step_gf rfl rfl (step_gf rfl rfl (step_gf rfl rfl (step_r rfl rfl trivial (step_r rfl rfl trivial (step_nil ?_)))))))))))
        refine seqK_n (sem_ret ?_)
        have e131 : holds37 l name foe until_ now = false := by
         unfold holds37
         try dsimp only
         rewrite [if_pos g4, if_pos g7, if_neg g11, if_pos g17, hJ52]
         try dsimp only
         rewrite [hJ56]
         try dsimp only
         rewrite [if_neg g113]
         all_goals rfl
        rw [e131]
        exact answersR rfl ⟨trivial, trivial⟩ (rfl) rfl

def joins37_J18 (a : List GLock) (b : List GLock) : Bool :=
  if few37 a = true then (few37 b) else false
def joins37 (a : List GLock) (b : List GLock) (now : Int) (period : Int) (offset : Int) : Bool :=
  (let ok_18 := joins37_J18 a b; if ok_18 = true then (if small37 = true then (if sameLR ((joinL a b).1) ((joinLR a b).1) = true then (if ((joinL a b).2 : Int) = ((joinLR a b).2) then ((turnL now period offset : Int) == (turnR now period offset)) else false) else false) else false) else (small37))
theorem joins37_ok (a : List GLock) (a_f : Bool) (b : List GLock) (b_f : Bool) (now : Int) (period : Int) (offset : Int) : Ok Tryd.prog 5 [.pv (.slc a.length a_f (a.flatMap encGLock)), .pv (.slc b.length b_f (b.flatMap encGLock)), I now, I period, I offset] [] (B (joins37 a b now period offset)) [] [] := by
 refine Ok.len fun hlen => ?_
 have hl_a : a.length ≤ maxLen := hlen _ (by simp [lensL, lens, lensP])
 have hl_b : b.length ≤ maxLen := hlen _ (by simp [lensL, lens, lensP])
 unfold maxLen at hl_a hl_b
 refine ok_of_sem Tryd.func5 rfl ?_
 show Walks Tryd.prog _ _ ⟨[(0, .pv (.slc a.length a_f (a.flatMap encGLock))), (1, .pv (.slc b.length b_f (b.flatMap encGLock))), (2, I now), (3, I period), (4, I offset)], [], 0, [], 61, 0⟩
 refine sem_seq (sem_region rfl (step_r rfl rfl trivial (step_nil (seqK_n (sem_seq (sem_region rfl (step_call rfl rfl rfl rfl (small37_ok ) rfl rfl rfl (step_r rfl rfl trivial (step_nil (seqK_n (sem_seq ?_)))))))))))
 refine sem_cutW (fun ok_18 : Bool => (⟨[(0, .pv (.slc a.length a_f (a.flatMap encGLock))), (1, .pv (.slc b.length b_f (b.flatMap encGLock))), (2, I now), (3, I period), (4, I offset), (11, B (small37)), (12, B ok_18)], [], 0, [], 61, 0⟩ : St)) (fun ok_18 : Bool => joins37_J18 a b = ok_18 ∧ (ok_18 = true → few37 a = true ∧ few37 b = true)) ?_ ?_
 ·refine sem_region rfl (step_r rfl rfl trivial (step_call rfl rfl rfl rfl (few37_ok a a_f) rfl rfl rfl (step_r rfl rfl trivial ?_)))
  refine step_gs rfl (fun h4 => ?_) (fun h4 => ?_)
  ·have g4 : few37 a = true := h4
   have qg4 := few37_l g4
   refine step_g1 rfl h4 (step_r rfl rfl trivial (step_g1 rfl h4 (step_call rfl rfl rfl rfl (few37_ok b b_f) rfl rfl rfl (step_pickT rfl h4 rfl rfl (step_r rfl rfl trivial (step_nil ?_))))))
   have e6 : joins37_J18 a b = (few37 b) := by
    unfold joins37_J18
    try dsimp only
    rewrite [if_pos g4]
    all_goals rfl
   exact cutW_n (few37 b) ⟨e6, by first | assumption | omega | (simp; omega) | simp_all | grind⟩ (Trans.ren [] (by decide +kernel) (by decide +kernel) rfl ⟨⟨rfl, rfl⟩, ⟨rfl, rfl⟩, ⟨rfl, rfl⟩, ⟨rfl, rfl⟩, ⟨rfl, rfl⟩, ⟨rfl, rfl⟩, ⟨rfl, rfl⟩, trivial⟩ trivial (by decide))
  ·have g4 : ¬ (few37 a = true) := boo_f h4
   refine step_g0 rfl h4 rfl (step_g0 rfl h4 rfl (step_pickF rfl h4 rfl rfl (step_r rfl rfl trivial (step_nil ?_))))
   have e7 : joins37_J18 a b = false := by
    unfold joins37_J18
    try dsimp only
    rewrite [if_neg g4]
    all_goals rfl
   exact cutW_n false ⟨e7, by first | assumption | omega | (simp; omega) | simp_all | grind⟩ (Trans.ren [] (by decide +kernel) (by decide +kernel) rfl ⟨⟨rfl, rfl⟩, ⟨rfl, rfl⟩, ⟨rfl, rfl⟩, ⟨rfl, rfl⟩, ⟨rfl, rfl⟩, ⟨rfl, rfl⟩, ⟨rfl, rfl⟩, trivial⟩ trivial (by decide))
 ·rintro ok_18 ⟨(hJ2 : joins37_J18 a b = ok_18), hK18⟩
  show seqK _ _ _ .normal (⟨[(0, .pv (.slc a.length a_f (a.flatMap encGLock))), (1, .pv (.slc b.length b_f (b.flatMap encGLock))), (2, I now), (3, I period), (4, I offset), (11, B (small37)), (12, B ok_18)], [], 0, [], 61, 0⟩ : St)
  refine seqK_n (sem_seq (sem_seq (sem_region rfl (step_r rfl rfl trivial (step_r rfl rfl trivial (step_nil (seqK_n ?_)))))))
  refine sem_cond rfl (fun h9 => ?_) (fun h9 => ?_)
  ·have g9 : ¬ (ok_18 = true) := boo_f (not_t h9)
   refine sem_seq (sem_region rfl (step_r rfl rfl trivial (step_r rfl rfl trivial (step_nil (seqK_n (sem_ret (seqK_r ?_)))))))
   have e11 : joins37 a b now period offset = (small37) := by
    unfold joins37
    try dsimp only
    rewrite [hJ2]
    try dsimp only
    rewrite [if_neg g9]
    all_goals rfl
   rw [e11]
   exact answersR rfl ⟨trivial, trivial⟩ (rfl) rfl
  ·have g9 : ok_18 = true := (not_f h9)
   have hok : ok_18 = true := by simpa using h9
   obtain ⟨f1, f2⟩ := hK18 hok
   have f3 := few37_l f1
   have f4 := few37_l f2
   have f5 := few37_n f1
   have f6 := few37_n f2
   refine sem_skip (seqK_n (sem_seq (sem_region rfl (step_r rfl rfl trivial (step_r rfl rfl trivial ?_)))))
   refine step_callN (out' := .tup [.ref 0 _ _ _, _]) (H' := [(0, .row _ _ _)]) (nx' := 1) rfl rfl rfl rfl rfl rfl rfl (by (repeat' apply And.intro) <;> first | trivial | rfl | exact flat_len (fun _ => rfl) _ | exact encI_len _ | exact encS_len _ | exact Nat.le_of_ble_eq_true rfl | assumption) (joinL_ok a false b false (by first | omega | (simp; done) | (simp only [IntKind.wrap_i64]; omega) | (simp only [List.length_nil, List.length_cons] at *; omega) | (simp only [IntKind.wrap_i64] at *; omega) | (simp; omega)) (by first | omega | (simp; done) | (simp only [IntKind.wrap_i64]; omega) | (simp only [List.length_nil, List.length_cons] at *; omega) | (simp only [IntKind.wrap_i64] at *; omega) | (simp; omega))) rfl rfl rfl rfl ?_
   refine step_r rfl rfl trivial (step_r rfl rfl trivial (step_r rfl rfl trivial (step_r rfl rfl trivial (step_r rfl rfl trivial (step_nil (seqK_n (sem_seq (sem_region rfl (step_r rfl rfl trivial (step_r rfl rfl trivial ?_))))))))))
   refine step_callN (out' := .tup [.ref 1 _ _ _, _]) (H' := [(1, .row _ _ _), (0, _)]) (nx' := 2) rfl rfl rfl rfl rfl rfl rfl (by (repeat' apply And.intro) <;> first | trivial | rfl | exact flat_len (fun _ => rfl) _ | exact encI_len _ | exact encS_len _ | exact Nat.le_of_ble_eq_true rfl | assumption) (joinLR_ok a false b false (by first | omega | (simp; done) | (simp only [IntKind.wrap_i64]; omega) | (simp only [List.length_nil, List.length_cons] at *; omega) | (simp only [IntKind.wrap_i64] at *; omega) | (simp; omega)) (by first | omega | (simp; done) | (simp only [IntKind.wrap_i64]; omega) | (simp only [List.length_nil, List.length_cons] at *; omega) | (simp only [IntKind.wrap_i64] at *; omega) | (simp; omega)) (by first | assumption | exact few37_n (by assumption) | exact hN) (by first | assumption | exact few37_n (by assumption) | exact hN)) rfl rfl rfl rfl ?_
   refine step_r rfl rfl trivial (step_r rfl rfl trivial (step_r rfl rfl trivial (step_r rfl rfl trivial (step_r rfl rfl trivial (step_nil (seqK_n (sem_seq (sem_region rfl (step_r rfl rfl trivial (step_r rfl rfl trivial ?_))))))))))
   refine step_gs rfl (fun h15 => ?_) (fun h15 => ?_)
   ·have g15 : small37 = true := h15
    refine step_g1 rfl h15 (step_r rfl rfl trivial (step_g1 rfl h15 (step_r rfl rfl trivial (step_g1 rfl h15 ?_))))
    refine step_callJ (Hin := [.row _ _ _, .row _ _ _]) (H' := [(1, _), (0, _)]) (nx' := 2) [0, 1] rfl rfl rfl rfl rfl rfl rfl rfl rfl (by (repeat' apply And.intro) <;> first | trivial | rfl | exact flat_len (s := 3) (enc := encGLock) (fun _ => rfl) _ | exact flat_len (fun _ => rfl) _ | exact encI_len _ | exact encS_len _ | exact Nat.le_of_ble_eq_true rfl | assumption) (sameLR_ok ((joinL a b).1) false ((joinLR a b).1) false) rfl (by decide) rfl rfl trivial rfl rfl rfl rfl ?_
    refine step_pickT rfl h15 rfl rfl (step_r rfl rfl trivial ?_)
    refine step_gs rfl (fun h17 => ?_) (fun h17 => ?_)
    ·have g17 : sameLR ((joinL a b).1) ((joinLR a b).1) = true := h17
     refine step_g1 rfl h17 (step_r rfl rfl trivial (step_g1 rfl h17 (step_r rfl rfl trivial (step_g1 rfl h17 (step_bin rfl rfl rfl rfl rfl trivial (step_pickT rfl h17 rfl rfl (step_r rfl rfl trivial ?_)))))))
     refine step_gs rfl (fun h19 => ?_) (fun h19 => ?_)
     ·have g19 : ((joinL a b).2 : Int) = ((joinLR a b).2) := beq_t h19
      refine step_g1 rfl h19 (step_r rfl rfl trivial (step_g1 rfl h19 (step_r rfl rfl trivial (step_g1 rfl h19 (step_r rfl rfl trivial (step_g1 rfl h19 (step_call rfl rfl rfl rfl (turnL_ok now period offset) rfl rfl rfl (step_g1 rfl h19 (step_r rfl rfl trivial (step_g1 rfl h19 (step_r rfl rfl trivial ?_)))))))))))
      refine step_g1 rfl h19 (step_r rfl rfl trivial (step_g1 rfl h19 (step_call rfl rfl rfl rfl (turnR_ok now period offset) rfl rfl rfl (step_g1 rfl h19 (step_bin rfl rfl rfl rfl rfl trivial (step_pickT rfl h19 rfl rfl (step_r rfl rfl trivial (step_nil (seqK_n (sem_ret ?_))))))))))
      have e24 : joins37 a b now period offset = ((turnL now period offset : Int) == (turnR now period offset)) := by
       unfold joins37
       try dsimp only
       rewrite [hJ2]
       try dsimp only
       rewrite [if_pos g9, if_pos g15, if_pos g17, if_pos g19]
       all_goals rfl
      rw [e24]
      exact answersR rfl ⟨trivial, trivial⟩ (rfl) rfl
     ·have g19 : ¬ (((joinL a b).2 : Int) = ((joinLR a b).2)) := beq_f h19
      refine step_g0 rfl h19 rfl (step_g0 rfl h19 rfl (step_g0 rfl h19 rfl (step_g0 rfl h19 rfl (step_g0 rfl h19 rfl (step_g0 rfl h19 rfl (step_g0 rfl h19 rfl (step_g0 rfl h19 rfl (step_g0 rfl h19 rfl (step_pickF rfl h19 rfl rfl (step_r rfl rfl trivial (step_nil ?_)))))))))))
      refine seqK_n (sem_ret ?_)
      have e25 : joins37 a b now period offset = false := by
       unfold joins37
       try dsimp only
       rewrite [hJ2]
       try dsimp only
       rewrite [if_pos g9, if_pos g15, if_pos g17, if_neg g19]
       all_goals rfl
      rw [e25]
      exact answersR rfl ⟨trivial, trivial⟩ (rfl) rfl
    ·have g17 : ¬ (sameLR ((joinL a b).1) ((joinLR a b).1) = true) := boo_f h17
     refine step_g0 rfl h17 rfl (step_g0 rfl h17 rfl (step_g0 rfl h17 rfl (step_pickF rfl h17 rfl rfl (step_r rfl rfl trivial (step_gf rfl rfl (step_gf rfl rfl (step_gf rfl rfl (step_gf rfl rfl (step_gf rfl rfl (step_gf rfl rfl (step_gf rfl rfl ?_)))))))))))
     refine step_gf rfl rfl (step_gf rfl rfl (step_r rfl rfl trivial (step_r rfl rfl trivial (step_nil (seqK_n (sem_ret ?_))))))
     have e26 : joins37 a b now period offset = false := by
      unfold joins37
      try dsimp only
      rewrite [hJ2]
      try dsimp only
      rewrite [if_pos g9, if_pos g15, if_neg g17]
      all_goals rfl
     rw [e26]
     exact answersR rfl ⟨trivial, trivial⟩ (rfl) rfl
   ·have g15 : ¬ (small37 = true) := boo_f h15
    refine step_g0 rfl h15 rfl (step_g0 rfl h15 rfl (step_g0 rfl h15 rfl (step_pickF rfl h15 rfl rfl (step_r rfl rfl trivial (step_gf rfl rfl (step_gf rfl rfl (step_gf rfl rfl (step_r rfl rfl trivial (step_r rfl rfl trivial (step_gf rfl rfl (step_gf rfl rfl ?_)))))))))))
    refine step_gf rfl rfl (step_gf rfl rfl (step_gf rfl rfl (step_gf rfl rfl (step_gf rfl rfl (step_gf rfl rfl (step_gf rfl rfl (step_r rfl rfl trivial (step_r rfl rfl trivial (step_nil (seqK_n (sem_ret ?_)))))))))))
    have e27 : joins37 a b now period offset = false := by
     unfold joins37
     try dsimp only
     rewrite [hJ2]
     try dsimp only
     rewrite [if_pos g9, if_neg g15]
     all_goals rfl
    rw [e27]
    exact answersR rfl ⟨trivial, trivial⟩ (rfl) rfl

def both37_J19 (a : List GLock) (b : List GLock) : Bool :=
  if few37 a = true then (few37 b) else false
def both37_J40 (a : List GLock) (b : List GLock) : Sum Bool Unit :=
  if ((joinL a b).2 : Int) = 0 then (if ((joinL b a).2 : Int) = 0 then (if sameLR ((joinL a b).1) ((joinL b a).1) = true then (if rightL ((joinL a b).1) = true then (if ((joinL a b).1.length : Int) < a.length then .inl false else if ((joinL a b).1.length : Int) > (IntKind.i64.wrap (a.length + b.length)) then .inl false else .inr ()) else .inl false) else .inl false) else .inr ()) else .inr ()
def both37 (a : List GLock) (b : List GLock) (now : Int) (period : Int) (offset : Int) : Bool :=
  (let ok_19 := both37_J19 a b; if ok_19 = true then (match both37_J40 a b with
    | .inl r_ => r_
    | .inr () => if (now : Int) < (-1099511627776) then (small37) else if (now : Int) > 1099511627776 then (small37) else if (offset : Int) < (-1099511627776) then (small37) else if (offset : Int) > 1099511627776 then (small37) else if (period : Int) < 1 then (small37) else if (period : Int) > 1073741824 then (small37) else if small37 = true then (if (turnL now period offset : Int) > now then (if (turnL now period offset : Int) ≤ (IntKind.i64.wrap (now + period)) then (if ((IntKind.i64.wrap ((turnL now period offset) - offset) : Int).tmod period : Int) = 0 then (if (turnL (turnL now period offset) period offset : Int) = (IntKind.i64.wrap ((turnL now period offset) + period)) then ((turnL (IntKind.i64.wrap ((turnL now period offset) - 1)) period offset : Int) == (turnL now period offset)) else false) else false) else false) else false) else false) else (small37))
theorem both37_ok (a : List GLock) (a_f : Bool) (b : List GLock) (b_f : Bool) (now : Int) (period : Int) (offset : Int) : Ok Tryd.prog 6 [.pv (.slc a.length a_f (a.flatMap encGLock)), .pv (.slc b.length b_f (b.flatMap encGLock)), I now, I period, I offset] [] (B (both37 a b now period offset)) [] [] := by
 refine Ok.len fun hlen => ?_
 have hl_a : a.length ≤ maxLen := hlen _ (by simp [lensL, lens, lensP])
 have hl_b : b.length ≤ maxLen := hlen _ (by simp [lensL, lens, lensP])
 unfold maxLen at hl_a hl_b
 refine ok_of_sem Tryd.func6 rfl ?_
 show Walks Tryd.prog _ _ ⟨[(0, .pv (.slc a.length a_f (a.flatMap encGLock))), (1, .pv (.slc b.length b_f (b.flatMap encGLock))), (2, I now), (3, I period), (4, I offset)], [], 0, [], 141, 0⟩
 refine sem_seq (sem_region rfl (step_r rfl rfl trivial (step_nil (seqK_n (sem_seq (sem_region rfl (step_call rfl rfl rfl rfl (small37_ok ) rfl rfl rfl (step_r rfl rfl trivial (step_nil (seqK_n (sem_seq ?_)))))))))))
 refine sem_cutW (fun ok_19 : Bool => (⟨[(0, .pv (.slc a.length a_f (a.flatMap encGLock))), (1, .pv (.slc b.length b_f (b.flatMap encGLock))), (2, I now), (3, I period), (4, I offset), (11, B (small37)), (12, B ok_19)], [], 0, [], 141, 0⟩ : St)) (fun ok_19 : Bool => both37_J19 a b = ok_19 ∧ (ok_19 = true → few37 a = true ∧ few37 b = true)) ?_ ?_
 ·refine sem_region rfl (step_r rfl rfl trivial (step_call rfl rfl rfl rfl (few37_ok a a_f) rfl rfl rfl (step_r rfl rfl trivial ?_)))
  refine step_gs rfl (fun h4 => ?_) (fun h4 => ?_)
  ·have g4 : few37 a = true := h4
   have qg4 := few37_l g4
   refine step_g1 rfl h4 (step_r rfl rfl trivial (step_g1 rfl h4 (step_call rfl rfl rfl rfl (few37_ok b b_f) rfl rfl rfl (step_pickT rfl h4 rfl rfl (step_r rfl rfl trivial (step_nil ?_))))))
   have e6 : both37_J19 a b = (few37 b) := by
    unfold both37_J19
    try dsimp only
    rewrite [if_pos g4]
    all_goals rfl
   exact cutW_n (few37 b) ⟨e6, by first | assumption | omega | (simp; omega) | simp_all | grind⟩ (Trans.ren [] (by decide +kernel) (by decide +kernel) rfl ⟨⟨rfl, rfl⟩, ⟨rfl, rfl⟩, ⟨rfl, rfl⟩, ⟨rfl, rfl⟩, ⟨rfl, rfl⟩, ⟨rfl, rfl⟩, ⟨rfl, rfl⟩, trivial⟩ trivial (by decide))
  ·have g4 : ¬ (few37 a = true) := boo_f h4
   refine step_g0 rfl h4 rfl (step_g0 rfl h4 rfl (step_pickF rfl h4 rfl rfl (step_r rfl rfl trivial (step_nil ?_))))
   have e7 : both37_J19 a b = false := by
    unfold both37_J19
    try dsimp only
    rewrite [if_neg g4]
    all_goals rfl
   exact cutW_n false ⟨e7, by first | assumption | omega | (simp; omega) | simp_all | grind⟩ (Trans.ren [] (by decide +kernel) (by decide +kernel) rfl ⟨⟨rfl, rfl⟩, ⟨rfl, rfl⟩, ⟨rfl, rfl⟩, ⟨rfl, rfl⟩, ⟨rfl, rfl⟩, ⟨rfl, rfl⟩, ⟨rfl, rfl⟩, trivial⟩ trivial (by decide))
 ·rintro ok_19 ⟨(hJ2 : both37_J19 a b = ok_19), hK19⟩
  show seqK _ _ _ .normal (⟨[(0, .pv (.slc a.length a_f (a.flatMap encGLock))), (1, .pv (.slc b.length b_f (b.flatMap encGLock))), (2, I now), (3, I period), (4, I offset), (11, B (small37)), (12, B ok_19)], [], 0, [], 141, 0⟩ : St)
  refine seqK_n (sem_seq (sem_seq (sem_region rfl (step_r rfl rfl trivial (step_r rfl rfl trivial (step_nil (seqK_n ?_)))))))
  refine sem_cond rfl (fun h9 => ?_) (fun h9 => ?_)
  ·have g9 : ¬ (ok_19 = true) := boo_f (not_t h9)
   refine sem_seq (sem_region rfl (step_r rfl rfl trivial (step_r rfl rfl trivial (step_nil (seqK_n (sem_ret (seqK_r ?_)))))))
   have e11 : both37 a b now period offset = (small37) := by
    unfold both37
    try dsimp only
    rewrite [hJ2]
    try dsimp only
    rewrite [if_neg g9]
    all_goals rfl
   rw [e11]
   exact answersR rfl ⟨trivial, trivial⟩ (rfl) rfl
  ·have g9 : ok_19 = true := (not_f h9)
   have hok : ok_19 = true := by simpa using h9
   obtain ⟨f1, f2⟩ := hK19 hok
   have f3 := few37_l f1
   have f4 := few37_l f2
   have f5 := few37_n f1
   have f6 := few37_n f2
   refine sem_skip (seqK_n (sem_seq (sem_region rfl (step_r rfl rfl trivial (step_r rfl rfl trivial ?_)))))
   refine step_callN (out' := .tup [.ref 0 _ _ _, _]) (H' := [(0, .row _ _ _)]) (nx' := 1) rfl rfl rfl rfl rfl rfl rfl (by (repeat' apply And.intro) <;> first | trivial | rfl | exact flat_len (fun _ => rfl) _ | exact encI_len _ | exact encS_len _ | exact Nat.le_of_ble_eq_true rfl | assumption) (joinL_ok a false b false (by first | omega | (simp; done) | (simp only [IntKind.wrap_i64]; omega) | (simp only [List.length_nil, List.length_cons] at *; omega) | (simp only [IntKind.wrap_i64] at *; omega) | (simp; omega)) (by first | omega | (simp; done) | (simp only [IntKind.wrap_i64]; omega) | (simp only [List.length_nil, List.length_cons] at *; omega) | (simp only [IntKind.wrap_i64] at *; omega) | (simp; omega))) rfl rfl rfl rfl ?_
   refine step_r rfl rfl trivial (step_r rfl rfl trivial (step_r rfl rfl trivial (step_r rfl rfl trivial (step_r rfl rfl trivial (step_nil (seqK_n (sem_seq (sem_region rfl (step_r rfl rfl trivial (step_r rfl rfl trivial ?_))))))))))
   refine step_callN (out' := .tup [.ref 1 _ _ _, _]) (H' := [(1, .row _ _ _), (0, _)]) (nx' := 2) rfl rfl rfl rfl rfl rfl rfl (by (repeat' apply And.intro) <;> first | trivial | rfl | exact flat_len (fun _ => rfl) _ | exact encI_len _ | exact encS_len _ | exact Nat.le_of_ble_eq_true rfl | assumption) (joinL_ok b false a false (by first | omega | (simp; done) | (simp only [IntKind.wrap_i64]; omega) | (simp only [List.length_nil, List.length_cons] at *; omega) | (simp only [IntKind.wrap_i64] at *; omega) | (simp; omega)) (by first | omega | (simp; done) | (simp only [IntKind.wrap_i64]; omega) | (simp only [List.length_nil, List.length_cons] at *; omega) | (simp only [IntKind.wrap_i64] at *; omega) | (simp; omega))) rfl rfl rfl rfl ?_
   refine step_r rfl rfl trivial (step_r rfl rfl trivial (step_r rfl rfl trivial (step_r rfl rfl trivial (step_r rfl rfl trivial (step_nil (seqK_n (sem_seq ?_)))))))
   refine sem_cutW (fun w_ : Unit => match w_ with | () => (⟨[(2, I now), (3, I period), (4, I offset), (11, B (small37))], [], 0, [], 141, 0⟩ : St)) (fun w_ => both37_J40 a b = .inr w_) ?_ ?_
   ·refine sem_seq (sem_region rfl (step_r rfl rfl trivial (step_bin rfl rfl rfl rfl rfl trivial (step_r rfl rfl trivial ?_))))
    refine step_gs rfl (fun h16 => ?_) (fun h16 => ?_)
    ·have g16 : ((joinL a b).2 : Int) = 0 := beq_t h16
     refine step_g1 rfl h16 (step_r rfl rfl trivial (step_g1 rfl h16 (step_bin rfl rfl rfl rfl rfl trivial (step_pickT rfl h16 rfl rfl (step_r rfl rfl trivial ?_)))))
     refine step_gs rfl (fun h18 => ?_) (fun h18 => ?_)
     ·have g18 : ((joinL b a).2 : Int) = 0 := beq_t h18
      refine step_g1 rfl h18 (step_r rfl rfl trivial (step_g1 rfl h18 (step_r rfl rfl trivial (step_g1 rfl h18 ?_))))
      refine step_callJ (Hin := [.row _ _ _, .row _ _ _]) (H' := [(1, _), (0, _)]) (nx' := 2) [0, 1] rfl rfl rfl rfl rfl rfl rfl rfl rfl (by (repeat' apply And.intro) <;> first | trivial | rfl | exact flat_len (s := 3) (enc := encGLock) (fun _ => rfl) _ | exact flat_len (fun _ => rfl) _ | exact encI_len _ | exact encS_len _ | exact Nat.le_of_ble_eq_true rfl | assumption) (sameLR_ok ((joinL a b).1) false ((joinL b a).1) false) rfl (by decide) rfl rfl trivial rfl rfl rfl rfl ?_
      refine step_g1 rfl h18 (step_r rfl rfl trivial (step_g1 rfl h18 (step_r rfl rfl trivial ?_)))
      refine step_gs rfl (fun h20 => ?_) (fun h20 => ?_)
      ·have g20 : ¬ (sameLR ((joinL a b).1) ((joinL b a).1) = true) := boo_f (not_t h20)
       refine step_g0 rfl h20 rfl (step_g0 rfl h20 rfl (step_g0 rfl h20 rfl (step_g1 rfl h18 (step_pickT rfl h20 rfl rfl (step_g1 rfl h18 (step_r rfl rfl trivial (step_gf rfl rfl (step_gf rfl rfl (step_gf rfl rfl (step_gf rfl rfl (step_gf rfl rfl ?_)))))))))))
       refine step_g1 rfl h18 (step_r rfl rfl trivial (step_g1 rfl h18 (step_r rfl rfl trivial (step_gf rfl rfl (step_gf rfl rfl (step_gf rfl rfl (step_gf rfl rfl (step_gf rfl rfl (step_gf rfl rfl (step_gf rfl rfl (step_gf rfl rfl ?_)))))))))))
       refine step_g1 rfl h18 (step_r rfl rfl trivial (step_pickT rfl h18 rfl rfl (step_nil (seqK_n (sem_condT rfl (sem_seq (sem_region rfl (step_r rfl rfl trivial (step_nil (seqK_n (sem_ret ?_)))))))))))
       refine cutW_r (seqK_r ?_)
       have e21 : both37_J40 a b = .inl false := by
        unfold both37_J40
        try dsimp only
        rewrite [if_pos g16, if_pos g18, if_neg g20]
        all_goals rfl
       have e22 : both37 a b now period offset = false := by
        unfold both37
        try dsimp only
        rewrite [hJ2]
        try dsimp only
        rewrite [if_pos g9, e21]
        try dsimp only
        all_goals rfl
       rw [e22]
       exact answersR rfl ⟨trivial, trivial⟩ (rfl) rfl
      ·have g20 : sameLR ((joinL a b).1) ((joinL b a).1) = true := (not_f h20)
       refine step_g1 rfl h20 (step_r rfl rfl trivial (step_g1 rfl h20 ?_))
       refine step_callJ (Hin := [.row _ _ _]) (H' := [(1, _), (0, _)]) (nx' := 2) [0] rfl rfl rfl rfl rfl rfl rfl rfl rfl (by (repeat' apply And.intro) <;> first | trivial | rfl | exact flat_len (s := 3) (enc := encGLock) (fun _ => rfl) _ | exact flat_len (fun _ => rfl) _ | exact encI_len _ | exact encS_len _ | exact Nat.le_of_ble_eq_true rfl | assumption) (rightL_ok ((joinL a b).1) false) rfl (by decide) rfl rfl trivial rfl rfl rfl rfl ?_
       refine step_g1 rfl h20 (step_r rfl rfl trivial (step_g1 rfl h18 (step_pickF rfl h20 rfl rfl (step_g1 rfl h18 (step_r rfl rfl trivial ?_)))))
       refine step_gs rfl (fun h24 => ?_) (fun h24 => ?_)
       ·have g24 : ¬ (rightL ((joinL a b).1) = true) := boo_f (not_t h24)
        refine step_g0 rfl h24 rfl (step_g0 rfl h24 rfl (step_g0 rfl h24 rfl (step_g0 rfl h24 rfl (step_g0 rfl h24 rfl (step_g1 rfl h18 (step_pickT rfl h24 rfl rfl (step_g1 rfl h18 (step_r rfl rfl trivial (step_gf rfl rfl (step_gf rfl rfl (step_gf rfl rfl ?_)))))))))))
        refine step_gf rfl rfl (step_gf rfl rfl (step_gf rfl rfl (step_gf rfl rfl (step_gf rfl rfl (step_g1 rfl h18 (step_r rfl rfl trivial (step_pickT rfl h18 rfl rfl (step_nil (seqK_n (sem_condT rfl (sem_seq ?_)))))))))))
        refine sem_region rfl (step_r rfl rfl trivial (step_nil (seqK_n (sem_ret (cutW_r (seqK_r ?_))))))
        have e25 : both37_J40 a b = .inl false := by
         unfold both37_J40
         try dsimp only
         rewrite [if_pos g16, if_pos g18, if_pos g20, if_neg g24]
         all_goals rfl
        have e26 : both37 a b now period offset = false := by
         unfold both37
         try dsimp only
         rewrite [hJ2]
         try dsimp only
         rewrite [if_pos g9, e25]
         try dsimp only
         all_goals rfl
        rw [e26]
        exact answersR rfl ⟨trivial, trivial⟩ (rfl) rfl
       ·have g24 : rightL ((joinL a b).1) = true := (not_f h24)
        refine step_g1 rfl h24 (step_r rfl rfl trivial (step_g1 rfl h24 (step_r rfl rfl trivial (step_g1 rfl h24 (step_r rfl rfl trivial (step_g1 rfl h24 (step_r rfl rfl trivial (step_g1 rfl h24 (step_bin rfl rfl rfl rfl rfl trivial (step_g1 rfl h18 (step_pickF rfl h24 rfl rfl ?_)))))))))))
        refine step_g1 rfl h18 (step_r rfl rfl trivial ?_)
        refine step_gs rfl (fun h28 => ?_) (fun h28 => ?_)
        ·have g28 : ((joinL a b).1.length : Int) < a.length := of_decide_eq_true h28
         refine step_g0 rfl h28 rfl (step_g0 rfl h28 rfl (step_g0 rfl h28 rfl (step_g0 rfl h28 rfl (step_g0 rfl h28 rfl (step_g0 rfl h28 rfl (step_g0 rfl h28 rfl (step_g0 rfl h28 rfl (step_g1 rfl h18 (step_pickT rfl h28 rfl rfl (step_pickT rfl h18 rfl rfl (step_nil ?_)))))))))))
         refine seqK_n (sem_condT rfl (sem_seq (sem_region rfl (step_r rfl rfl trivial (step_nil (seqK_n (sem_ret (cutW_r (seqK_r ?_)))))))))
         have e29 : both37_J40 a b = .inl false := by
          unfold both37_J40
          try dsimp only
          rewrite [if_pos g16, if_pos g18, if_pos g20, if_pos g24, if_pos g28]
          all_goals rfl
         have e30 : both37 a b now period offset = false := by
          unfold both37
          try dsimp only
          rewrite [hJ2]
          try dsimp only
          rewrite [if_pos g9, e29]
          try dsimp only
          all_goals rfl
         rw [e30]
         exact answersR rfl ⟨trivial, trivial⟩ (rfl) rfl
        ·have g28 : ¬ (((joinL a b).1.length : Int) < a.length) := of_decide_eq_false h28
         refine step_g1 rfl h28 (step_r rfl rfl trivial (step_g1 rfl h28 (step_r rfl rfl trivial (step_g1 rfl h28 (step_r rfl rfl trivial (step_g1 rfl h28 (step_r rfl rfl trivial (step_g1 rfl h28 (step_r rfl rfl trivial (step_g1 rfl h28 (step_r rfl rfl trivial ?_)))))))))))
         refine step_g1 rfl h28 (step_bin rfl rfl rfl rfl rfl trivial (step_g1 rfl h28 (step_bin rfl rfl rfl rfl rfl trivial (step_g1 rfl h18 (step_pickF rfl h28 rfl rfl (step_pickT rfl h18 rfl rfl (step_nil (seqK_n ?_))))))))
         refine sem_cond rfl (fun h32 => ?_) (fun h32 => ?_)
         ·have g32 : ((joinL a b).1.length : Int) > (IntKind.i64.wrap (a.length + b.length)) := of_decide_eq_true h32
          refine sem_seq (sem_region rfl (step_r rfl rfl trivial (step_nil (seqK_n (sem_ret (cutW_r (seqK_r ?_)))))))
          have e33 : both37_J40 a b = .inl false := by
           unfold both37_J40
           try dsimp only
           rewrite [if_pos g16, if_pos g18, if_pos g20, if_pos g24, if_neg g28, if_pos g32]
           all_goals rfl
          have e34 : both37 a b now period offset = false := by
           unfold both37
           try dsimp only
           rewrite [hJ2]
           try dsimp only
           rewrite [if_pos g9, e33]
           try dsimp only
           all_goals rfl
          rw [e34]
          exact answersR rfl ⟨trivial, trivial⟩ (rfl) rfl
         ·have g32 : ¬ (((joinL a b).1.length : Int) > (IntKind.i64.wrap (a.length + b.length))) := of_decide_eq_false h32
          refine sem_skip ?_
          have e35 : both37_J40 a b = .inr () := by
           unfold both37_J40
           try dsimp only
           rewrite [if_pos g16, if_pos g18, if_pos g20, if_pos g24, if_neg g28, if_neg g32]
           all_goals rfl
          exact cutW_n () e35 (Trans.ren [] (by decide +kernel) (by decide +kernel) rfl ⟨⟨rfl, rfl⟩, ⟨rfl, rfl⟩, ⟨rfl, rfl⟩, ⟨rfl, rfl⟩, trivial⟩ trivial (by decide))
     ·have g18 : ¬ (((joinL b a).2 : Int) = 0) := beq_f h18
      refine step_g0 rfl h18 rfl (step_g0 rfl h18 rfl (step_g0 rfl h18 rfl (step_g0 rfl h18 rfl (step_g0 rfl h18 rfl (step_gf rfl rfl (step_gf rfl rfl (step_gf rfl rfl (step_g0 rfl h18 rfl (step_g0 rfl h18 rfl (step_gf rfl rfl (step_gf rfl rfl ?_)))))))))))
      refine step_gf rfl rfl (step_gf rfl rfl (step_gf rfl rfl (step_g0 rfl h18 rfl (step_g0 rfl h18 rfl (step_gf rfl rfl (step_gf rfl rfl (step_gf rfl rfl (step_gf rfl rfl (step_gf rfl rfl (step_gf rfl rfl (step_gf rfl rfl ?_)))))))))))
      refine step_gf rfl rfl (step_g0 rfl h18 rfl (step_pickF rfl h18 rfl rfl (step_nil (seqK_n (sem_condF rfl (sem_skip ?_))))))
      have e36 : both37_J40 a b = .inr () := by
       unfold both37_J40
       try dsimp only
       rewrite [if_pos g16, if_neg g18]
       all_goals rfl
      exact cutW_n () e36 (Trans.ren [] (by decide +kernel) (by decide +kernel) rfl ⟨⟨rfl, rfl⟩, ⟨rfl, rfl⟩, ⟨rfl, rfl⟩, ⟨rfl, rfl⟩, trivial⟩ trivial (by decide))
    ·have g16 : ¬ (((joinL a b).2 : Int) = 0) := beq_f h16
     refine step_g0 rfl h16 rfl (step_g0 rfl h16 rfl (step_pickF rfl h16 rfl rfl (step_r rfl rfl trivial (step_gf rfl rfl (step_gf rfl rfl (step_gf rfl rfl (step_gf rfl rfl (step_gf rfl rfl (step_gf rfl rfl (step_gf rfl rfl (step_gf rfl rfl ?_)))))))))))
     refine step_gf rfl rfl (step_gf rfl rfl (step_gf rfl rfl (step_gf rfl rfl (step_gf rfl rfl (step_gf rfl rfl (step_gf rfl rfl (step_gf rfl rfl (step_gf rfl rfl (step_gf rfl rfl (step_gf rfl rfl (step_gf rfl rfl ?_)))))))))))
     refine step_gf rfl rfl (step_gf rfl rfl (step_gf rfl rfl (step_gf rfl rfl (step_gf rfl rfl (step_gf rfl rfl (step_r rfl rfl trivial (step_nil (seqK_n (sem_condF rfl (sem_skip ?_))))))))))
     have e37 : both37_J40 a b = .inr () := by
      unfold both37_J40
      try dsimp only
      rewrite [if_neg g16]
      all_goals rfl
     exact cutW_n () e37 (Trans.ren [] (by decide +kernel) (by decide +kernel) rfl ⟨⟨rfl, rfl⟩, ⟨rfl, rfl⟩, ⟨rfl, rfl⟩, ⟨rfl, rfl⟩, trivial⟩ trivial (by decide))
   ·rintro ⟨⟩ (hJ14 : both37_J40 a b = .inr ())
    show seqK _ _ _ .normal (⟨[(2, I now), (3, I period), (4, I offset), (11, B (small37))], [], 0, [], 141, 0⟩ : St)
    refine seqK_n (sem_seq (sem_seq (sem_region rfl (step_r rfl rfl trivial (step_bin rfl rfl rfl rfl rfl trivial (step_r rfl rfl trivial ?_))))))
    refine step_gs rfl (fun h40 => ?_) (fun h40 => ?_)
    ·have g40 : (now : Int) < (-1099511627776) := of_decide_eq_true h40
     refine step_g0 rfl h40 rfl (step_g0 rfl h40 rfl (step_pickT rfl h40 rfl rfl (step_r rfl rfl trivial (step_gf rfl rfl (step_gf rfl rfl (step_r rfl rfl trivial (step_r rfl rfl trivial (step_gf rfl rfl (step_gf rfl rfl (step_r rfl rfl trivial (step_r rfl rfl trivial ?_)))))))))))
     refine step_gf rfl rfl (step_gf rfl rfl (step_r rfl rfl trivial (step_r rfl rfl trivial (step_gf rfl rfl (step_gf rfl rfl (step_r rfl rfl trivial (step_nil (seqK_n (sem_condT rfl (sem_seq (sem_region rfl ?_)))))))))))
     refine step_r rfl rfl trivial (step_r rfl rfl trivial (step_nil (seqK_n (sem_ret (seqK_r ?_)))))
     have e42 : both37 a b now period offset = (small37) := by
      unfold both37
      try dsimp only
      rewrite [hJ2]
      try dsimp only
      rewrite [if_pos g9, hJ14]
      try dsimp only
      rewrite [if_pos g40]
      all_goals rfl
     rw [e42]
     exact answersR rfl ⟨trivial, trivial⟩ (rfl) rfl
    ·have g40 : ¬ ((now : Int) < (-1099511627776)) := of_decide_eq_false h40
     refine step_g1 rfl h40 (step_r rfl rfl trivial (step_g1 rfl h40 (step_bin rfl rfl rfl rfl rfl trivial (step_pickF rfl h40 rfl rfl (step_r rfl rfl trivial ?_)))))
     refine step_gs rfl (fun h44 => ?_) (fun h44 => ?_)
     ·have g44 : (now : Int) > 1099511627776 := of_decide_eq_true h44
      refine step_g0 rfl h44 rfl (step_g0 rfl h44 rfl (step_pickT rfl h44 rfl rfl (step_r rfl rfl trivial (step_gf rfl rfl (step_gf rfl rfl (step_r rfl rfl trivial (step_r rfl rfl trivial (step_gf rfl rfl (step_gf rfl rfl (step_r rfl rfl trivial (step_r rfl rfl trivial ?_)))))))))))
      refine step_gf rfl rfl (step_gf rfl rfl (step_r rfl rfl trivial (step_nil (seqK_n (sem_condT rfl (sem_seq (sem_region rfl (step_r rfl rfl trivial (step_r rfl rfl trivial (step_nil (seqK_n ?_)))))))))))
      refine sem_ret (seqK_r ?_)
      have e46 : both37 a b now period offset = (small37) := by
       unfold both37
       try dsimp only
       rewrite [hJ2]
       try dsimp only
       rewrite [if_pos g9, hJ14]
       try dsimp only
       rewrite [if_neg g40, if_pos g44]
       all_goals rfl
      rw [e46]
      exact answersR rfl ⟨trivial, trivial⟩ (rfl) rfl
     ·have g44 : ¬ ((now : Int) > 1099511627776) := of_decide_eq_false h44
      refine step_g1 rfl h44 (step_r rfl rfl trivial (step_g1 rfl h44 (step_bin rfl rfl rfl rfl rfl trivial (step_pickF rfl h44 rfl rfl (step_r rfl rfl trivial ?_)))))
      refine step_gs rfl (fun h49 => ?_) (fun h49 => ?_)
      ·have g49 : (offset : Int) < (-1099511627776) := of_decide_eq_true h49
       refine step_g0 rfl h49 rfl (step_g0 rfl h49 rfl (step_pickT rfl h49 rfl rfl (step_r rfl rfl trivial (step_gf rfl rfl (step_gf rfl rfl (step_r rfl rfl trivial (step_r rfl rfl trivial (step_gf rfl rfl (step_gf rfl rfl (step_r rfl rfl trivial (step_nil ?_)))))))))))
       refine seqK_n (sem_condT rfl (sem_seq (sem_region rfl (step_r rfl rfl trivial (step_r rfl rfl trivial (step_nil (seqK_n (sem_ret (seqK_r ?_)))))))))
       have e51 : both37 a b now period offset = (small37) := by
        unfold both37
        try dsimp only
        rewrite [hJ2]
        try dsimp only
        rewrite [if_pos g9, hJ14]
        try dsimp only
        rewrite [if_neg g40, if_neg g44, if_pos g49]
        all_goals rfl
       rw [e51]
       exact answersR rfl ⟨trivial, trivial⟩ (rfl) rfl
      ·have g49 : ¬ ((offset : Int) < (-1099511627776)) := of_decide_eq_false h49
       refine step_g1 rfl h49 (step_r rfl rfl trivial (step_g1 rfl h49 (step_bin rfl rfl rfl rfl rfl trivial (step_pickF rfl h49 rfl rfl (step_r rfl rfl trivial ?_)))))
       refine step_gs rfl (fun h53 => ?_) (fun h53 => ?_)
       ·have g53 : (offset : Int) > 1099511627776 := of_decide_eq_true h53
        refine step_g0 rfl h53 rfl (step_g0 rfl h53 rfl (step_pickT rfl h53 rfl rfl (step_r rfl rfl trivial (step_gf rfl rfl (step_gf rfl rfl (step_r rfl rfl trivial (step_nil (seqK_n (sem_condT rfl (sem_seq (sem_region rfl ?_)))))))))))
        refine step_r rfl rfl trivial (step_r rfl rfl trivial (step_nil (seqK_n (sem_ret (seqK_r ?_)))))
        have e55 : both37 a b now period offset = (small37) := by
         unfold both37
         try dsimp only
         rewrite [hJ2]
         try dsimp only
         rewrite [if_pos g9, hJ14]
         try dsimp only
         rewrite [if_neg g40, if_neg g44, if_neg g49, if_pos g53]
         all_goals rfl
        rw [e55]
        exact answersR rfl ⟨trivial, trivial⟩ (rfl) rfl
       ·have g53 : ¬ ((offset : Int) > 1099511627776) := of_decide_eq_false h53
        refine step_g1 rfl h53 (step_r rfl rfl trivial (step_g1 rfl h53 (step_bin rfl rfl rfl rfl rfl trivial (step_pickF rfl h53 rfl rfl (step_r rfl rfl trivial ?_)))))
        refine step_gs rfl (fun h58 => ?_) (fun h58 => ?_)
        ·have g58 : (period : Int) < 1 := of_decide_eq_true h58
         refine step_g0 rfl h58 rfl (step_g0 rfl h58 rfl (step_pickT rfl h58 rfl rfl (step_nil (seqK_n (sem_condT rfl (sem_seq (sem_region rfl (step_r rfl rfl trivial (step_r rfl rfl trivial (step_nil (seqK_n ?_)))))))))))
         refine sem_ret (seqK_r ?_)
         have e60 : both37 a b now period offset = (small37) := by
          unfold both37
          try dsimp only
          rewrite [hJ2]
          try dsimp only
          rewrite [if_pos g9, hJ14]
          try dsimp only
          rewrite [if_neg g40, if_neg g44, if_neg g49, if_neg g53, if_pos g58]
          all_goals rfl
         rw [e60]
         exact answersR rfl ⟨trivial, trivial⟩ (rfl) rfl
        ·have g58 : ¬ ((period : Int) < 1) := of_decide_eq_false h58
         refine step_g1 rfl h58 (step_r rfl rfl trivial (step_g1 rfl h58 (step_bin rfl rfl rfl rfl rfl trivial (step_pickF rfl h58 rfl rfl (step_nil (seqK_n ?_))))))
         refine sem_cond rfl (fun h62 => ?_) (fun h62 => ?_)
         ·have g62 : (period : Int) > 1073741824 := of_decide_eq_true h62
          refine sem_seq (sem_region rfl (step_r rfl rfl trivial (step_r rfl rfl trivial (step_nil (seqK_n (sem_ret (seqK_r ?_)))))))
          have e64 : both37 a b now period offset = (small37) := by
           unfold both37
           try dsimp only
           rewrite [hJ2]
           try dsimp only
           rewrite [if_pos g9, hJ14]
           try dsimp only
           rewrite [if_neg g40, if_neg g44, if_neg g49, if_neg g53, if_neg g58, if_pos g62]
           all_goals rfl
          rw [e64]
          exact answersR rfl ⟨trivial, trivial⟩ (rfl) rfl
         ·have g62 : ¬ ((period : Int) > 1073741824) := of_decide_eq_false h62
          refine sem_skip (seqK_n (sem_seq (sem_region rfl (step_r rfl rfl trivial (step_r rfl rfl trivial (step_r rfl rfl trivial (step_call rfl rfl rfl rfl (turnL_ok now period offset) rfl rfl rfl (step_r rfl rfl trivial (step_nil (seqK_n (sem_seq ?_)))))))))))
          refine sem_region rfl (step_r rfl rfl trivial (step_r rfl rfl trivial ?_))
          refine step_gs rfl (fun h67 => ?_) (fun h67 => ?_)
          ·have g67 : small37 = true := h67
           refine step_g1 rfl h67 (step_r rfl rfl trivial (step_g1 rfl h67 (step_r rfl rfl trivial (step_g1 rfl h67 (step_bin rfl rfl rfl rfl rfl trivial (step_pickT rfl h67 rfl rfl (step_r rfl rfl trivial ?_)))))))
           refine step_gs rfl (fun h69 => ?_) (fun h69 => ?_)
           ·have g69 : (turnL now period offset : Int) > now := of_decide_eq_true h69
            refine step_g1 rfl h69 (step_r rfl rfl trivial (step_g1 rfl h69 (step_r rfl rfl trivial (step_g1 rfl h69 (step_r rfl rfl trivial (step_g1 rfl h69 (step_bin rfl rfl rfl rfl rfl trivial (step_g1 rfl h69 (step_bin rfl rfl rfl rfl rfl trivial (step_pickT rfl h69 rfl rfl (step_r rfl rfl trivial ?_)))))))))))
            refine step_gs rfl (fun h71 => ?_) (fun h71 => ?_)
            ·have g71 : (turnL now period offset : Int) ≤ (IntKind.i64.wrap (now + period)) := of_decide_eq_true h71
             refine step_g1 rfl h71 (step_r rfl rfl trivial (step_g1 rfl h71 (step_r rfl rfl trivial (step_g1 rfl h71 (step_bin rfl rfl rfl rfl rfl trivial (step_g1 rfl h71 (step_r rfl rfl trivial (step_g1 rfl h71 ?_))))))))
             refine step_bin rfl rfl rfl rfl rfl (by first | decide | omega | (show (0 : Int) ≤ IntKind.i64.wrap _; rw [wrap_lt (by omega) (by omega)]; omega) | simp_all) ?_
             refine step_g1 rfl h71 (step_bin rfl rfl rfl rfl rfl trivial (step_pickT rfl h71 rfl rfl (step_r rfl rfl trivial ?_)))
             refine step_gs rfl (fun h73 => ?_) (fun h73 => ?_)
             ·have g73 : ((IntKind.i64.wrap ((turnL now period offset) - offset) : Int).tmod period : Int) = 0 := beq_t h73
              refine step_g1 rfl h73 (step_r rfl rfl trivial (step_g1 rfl h73 (step_r rfl rfl trivial (step_g1 rfl h73 (step_r rfl rfl trivial (step_g1 rfl h73 (step_call rfl rfl rfl rfl (turnL_ok (turnL now period offset) period offset) rfl rfl rfl (step_g1 rfl h73 (step_r rfl rfl trivial (step_g1 rfl h73 (step_r rfl rfl trivial ?_)))))))))))
              refine step_g1 rfl h73 (step_bin rfl rfl rfl rfl rfl trivial (step_g1 rfl h73 (step_bin rfl rfl rfl rfl rfl trivial (step_pickT rfl h73 rfl rfl (step_r rfl rfl trivial ?_)))))
              refine step_gs rfl (fun h75 => ?_) (fun h75 => ?_)
              ·have g75 : (turnL (turnL now period offset) period offset : Int) = (IntKind.i64.wrap ((turnL now period offset) + period)) := beq_t h75
               refine step_g1 rfl h75 (step_r rfl rfl trivial (step_g1 rfl h75 (step_bin rfl rfl rfl rfl rfl trivial (step_g1 rfl h75 (step_r rfl rfl trivial (step_g1 rfl h75 (step_r rfl rfl trivial (step_g1 rfl h75 (step_call rfl rfl rfl rfl (turnL_ok (IntKind.i64.wrap ((turnL now period offset) - 1)) period offset) rfl rfl rfl (step_g1 rfl h75 (step_r rfl rfl trivial ?_)))))))))))
               refine step_g1 rfl h75 (step_bin rfl rfl rfl rfl rfl trivial (step_pickT rfl h75 rfl rfl (step_r rfl rfl trivial (step_nil (seqK_n (sem_ret ?_))))))
               have e77 : both37 a b now period offset = ((turnL (IntKind.i64.wrap ((turnL now period offset) - 1)) period offset : Int) == (turnL now period offset)) := by
                unfold both37
                try dsimp only
                rewrite [hJ2]
                try dsimp only
                rewrite [if_pos g9, hJ14]
                try dsimp only
                rewrite [if_neg g40, if_neg g44, if_neg g49, if_neg g53, if_neg g58, if_neg g62, if_pos g67, if_pos g69, if_pos g71, if_pos g73, if_pos g75]
                all_goals rfl
               rw [e77]
               exact answersR rfl ⟨trivial, trivial⟩ (rfl) rfl
              ·have g75 : ¬ ((turnL (turnL now period offset) period offset : Int) = (IntKind.i64.wrap ((turnL now period offset) + period))) := beq_f h75
               refine step_g0 rfl h75 rfl (step_g0 rfl h75 rfl (step_g0 rfl h75 rfl (step_g0 rfl h75 rfl (step_g0 rfl h75 rfl (step_g0 rfl h75 rfl (step_g0 rfl h75 rfl (step_pickF rfl h75 rfl rfl (step_r rfl rfl trivial (step_nil (seqK_n (sem_ret ?_)))))))))))
               have e78 : both37 a b now period offset = false := by
                unfold both37
                try dsimp only
                rewrite [hJ2]
                try dsimp only
                rewrite [if_pos g9, hJ14]
                try dsimp only
                rewrite [if_neg g40, if_neg g44, if_neg g49, if_neg g53, if_neg g58, if_neg g62, if_pos g67, if_pos g69, if_pos g71, if_pos g73, if_neg g75]
                all_goals rfl
               rw [e78]
               exact answersR rfl ⟨trivial, trivial⟩ (rfl) rfl
             ·have g73 : ¬ (((IntKind.i64.wrap ((turnL now period offset) - offset) : Int).tmod period : Int) = 0) := beq_f h73
              refine step_g0 rfl h73 rfl (step_g0 rfl h73 rfl (step_g0 rfl h73 rfl (step_g0 rfl h73 rfl (step_g0 rfl h73 rfl (step_g0 rfl h73 rfl (step_g0 rfl h73 rfl (step_g0 rfl h73 rfl (step_pickF rfl h73 rfl rfl (step_r rfl rfl trivial (step_gf rfl rfl (step_gf rfl rfl ?_)))))))))))
              refine step_gf rfl rfl (step_gf rfl rfl (step_gf rfl rfl (step_gf rfl rfl (step_gf rfl rfl (step_r rfl rfl trivial (step_r rfl rfl trivial (step_nil (seqK_n (sem_ret ?_)))))))))
              have e79 : both37 a b now period offset = false := by
               unfold both37
               try dsimp only
               rewrite [hJ2]
               try dsimp only
               rewrite [if_pos g9, hJ14]
               try dsimp only
               rewrite [if_neg g40, if_neg g44, if_neg g49, if_neg g53, if_neg g58, if_neg g62, if_pos g67, if_pos g69, if_pos g71, if_neg g73]
               all_goals rfl
              rw [e79]
              exact answersR rfl ⟨trivial, trivial⟩ (rfl) rfl
            ·have g71 : ¬ ((turnL now period offset : Int) ≤ (IntKind.i64.wrap (now + period))) := of_decide_eq_false h71
             refine step_g0 rfl h71 rfl (step_g0 rfl h71 rfl (step_g0 rfl h71 rfl (step_g0 rfl h71 rfl (step_g0 rfl h71 rfl (step_g0 rfl h71 rfl (step_pickF rfl h71 rfl rfl (step_r rfl rfl trivial (step_gf rfl rfl (step_gf rfl rfl (step_gf rfl rfl (step_gf rfl rfl ?_)))))))))))
             refine step_gf rfl rfl (step_gf rfl rfl (step_gf rfl rfl (step_gf rfl rfl (step_r rfl rfl trivial (step_r rfl rfl trivial (step_gf rfl rfl (step_gf rfl rfl (step_gf rfl rfl (step_gf rfl rfl (step_gf rfl rfl (step_gf rfl rfl ?_)))))))))))
             refine step_gf rfl rfl (step_r rfl rfl trivial (step_r rfl rfl trivial (step_nil (seqK_n (sem_ret ?_)))))
             have e80 : both37 a b now period offset = false := by
              unfold both37
              try dsimp only
              rewrite [hJ2]
              try dsimp only
              rewrite [if_pos g9, hJ14]
              try dsimp only
              rewrite [if_neg g40, if_neg g44, if_neg g49, if_neg g53, if_neg g58, if_neg g62, if_pos g67, if_pos g69, if_neg g71]
              all_goals rfl
             rw [e80]
             exact answersR rfl ⟨trivial, trivial⟩ (rfl) rfl
           ·have g69 : ¬ ((turnL now period offset : Int) > now) := of_decide_eq_false h69
            refine step_g0 rfl h69 rfl (step_g0 rfl h69 rfl (step_g0 rfl h69 rfl (step_g0 rfl h69 rfl (step_g0 rfl h69 rfl (step_pickF rfl h69 rfl rfl (step_r rfl rfl trivial (step_gf rfl rfl (step_gf rfl rfl (step_gf rfl rfl (step_gf rfl rfl (step_gf rfl rfl ?_)))))))))))
            refine step_gf rfl rfl (step_r rfl rfl trivial (step_r rfl rfl trivial (step_gf rfl rfl (step_gf rfl rfl (step_gf rfl rfl (step_gf rfl rfl (step_gf rfl rfl (step_gf rfl rfl (step_gf rfl rfl (step_gf rfl rfl (step_r rfl rfl trivial ?_)))))))))))
            refine step_r rfl rfl trivial (step_gf rfl rfl (step_gf rfl rfl (step_gf rfl rfl (step_gf rfl rfl (step_gf rfl rfl (step_gf rfl rfl (step_gf rfl rfl (step_r rfl rfl trivial (step_r rfl rfl trivial (step_nil (seqK_n ?_)))))))))))
            refine sem_ret ?_
            have e81 : both37 a b now period offset = false := by
             unfold both37
             try dsimp only
             rewrite [hJ2]
             try dsimp only
             rewrite [if_pos g9, hJ14]
             try dsimp only
             rewrite [if_neg g40, if_neg g44, if_neg g49, if_neg g53, if_neg g58, if_neg g62, if_pos g67, if_neg g69]
             all_goals rfl
            rw [e81]
            exact answersR rfl ⟨trivial, trivial⟩ (rfl) rfl
          ·have g67 : ¬ (small37 = true) := boo_f h67
           refine step_g0 rfl h67 rfl (step_g0 rfl h67 rfl (step_g0 rfl h67 rfl (step_pickF rfl h67 rfl rfl (step_r rfl rfl trivial (step_gf rfl rfl (step_gf rfl rfl (step_gf rfl rfl (step_gf rfl rfl (step_gf rfl rfl (step_r rfl rfl trivial (step_r rfl rfl trivial ?_)))))))))))
           refine step_gf rfl rfl (step_gf rfl rfl (step_gf rfl rfl (step_gf rfl rfl (step_gf rfl rfl (step_gf rfl rfl (step_r rfl rfl trivial (step_r rfl rfl trivial (step_gf rfl rfl (step_gf rfl rfl (step_gf rfl rfl (step_gf rfl rfl ?_)))))))))))
           refine step_gf rfl rfl (step_gf rfl rfl (step_gf rfl rfl (step_gf rfl rfl (step_r rfl rfl trivial (step_r rfl rfl trivial (step_gf rfl rfl (step_gf rfl rfl (step_gf rfl rfl (step_gf rfl rfl (step_gf rfl rfl (step_gf rfl rfl ?_)))))))))))
           refine step_gf rfl rfl (step_r rfl rfl trivial (step_r rfl rfl trivial (step_nil (seqK_n (sem_ret ?_)))))
           have e82 : both37 a b now period offset = false := by
            unfold both37
            try dsimp only
            rewrite [hJ2]
            try dsimp only
            rewrite [if_pos g9, hJ14]
            try dsimp only
            rewrite [if_neg g40, if_neg g44, if_neg g49, if_neg g53, if_neg g58, if_neg g62, if_neg g67]
            all_goals rfl
           rw [e82]
           exact answersR rfl ⟨trivial, trivial⟩ (rfl) rfl

def tells37_J26 (l : List GLock) (x_ : GLock) : Bool :=
  if few37 l = true then (few37 ([x_])) else false
def tells37_L0 (names : List ((List UInt8))) : Nat → Nat → Bool → Bool
  | 0, k0, ok0 => ok0
  | n_ + 1, k0, ok0 => if ok0 = true then tells37_L0 names n_ (k0 + 1) (decide (((names.getD k0 default).length : Int) ≤ 100)) else tells37_L0 names n_ (k0 + 1) false
def tells37_J108 (l : List GLock) (x_ : GLock) (now : Int) : Bool :=
  if sameLR ((addL l x_.Name x_.Foe x_.Until).1) ((addLR l x_.Name x_.Foe x_.Until).1) = true then (if ((addL l x_.Name x_.Foe x_.Until).2 : Int) = ((addLR l x_.Name x_.Foe x_.Until).2) then (if ((untilL l x_.Name x_.Foe now).1 : Int) = ((untilLR l x_.Name x_.Foe now).1) then (if ((untilL l x_.Name x_.Foe now).2) = ((untilLR l x_.Name x_.Foe now).2) then (sameLR (cleanL l now) (cleanLR l now)) else false) else false) else false) else false
def tells37_L1 : Nat → Nat → (List GLock) → Unit
  | 0, k1, c1 => ()
  | n_ + 1, k1, c1 => tells37_L1 n_ (k1 + 1) (c1.set k1 { (c1.getD k1 default) with Foe := (-7) })
def tells37_L2 : Nat → Nat → (List GLock) → Unit
  | 0, k2, a2 => ()
  | n_ + 1, k2, a2 => tells37_L2 n_ (k2 + 1) (a2.set k2 { (a2.getD k2 default) with Foe := (-7) })
def tells37 (l : List GLock) (x_ : GLock) (now : Int) (names : List ((List UInt8))) : Bool :=
  (let ok_26 := tells37_J26 l x_; (let ok_0 := tells37_L0 names ((min names.length 100) - 0) 0 ok_26; if ok_0 = true then (if (names.length : Int) > 60 then (small37) else (let same_108 := tells37_J108 l x_ now; if small37 = true then (if same_108 = true then (if (rightL l) = (rightR l) then (if sameIR (ofL l x_.Name now) (ofLR l x_.Name now) = true then (if sameTR (freeL l names x_.Foe now) (freeLR l names x_.Foe now) = true then (sameLR l l) else false) else false) else false) else false) else false)) else (small37)))
theorem tells37_ok (l : List GLock) (l_f : Bool) (x_ : GLock) (now : Int) (names : List ((List UInt8))) (names_f : Bool) : Ok Tryd.prog 3 [.pv (.slc l.length l_f (l.flatMap encGLock)), aGLock x_, I now, .pv (.slc names.length names_f (encS names))] [] (B (tells37 l x_ now names)) [] [] := by
 refine Ok.len fun hlen => ?_
 have hl_l : l.length ≤ maxLen := hlen _ (by simp [lensL, lens, lensP])
 have hl_names : names.length ≤ maxLen := hlen _ (by simp [lensL, lens, lensP])
 unfold maxLen at hl_l hl_names
 refine ok_of_sem Tryd.func3 rfl ?_
 show Walks Tryd.prog _ _ ⟨[(0, .pv (.slc l.length l_f (l.flatMap encGLock))), (1, aGLock x_), (2, I now), (3, .pv (.slc names.length names_f (encS names)))], [], 0, [], 197, 0⟩
 refine sem_seq (sem_region rfl (step_n (o := .box [_, _, _]) (nx' := 1) rfl rfl rfl trivial (step_r rfl rfl trivial (step_nil (seqK_n (sem_seq (sem_region rfl (step_call rfl rfl rfl rfl (small37_ok ) rfl rfl rfl (step_r rfl rfl trivial (step_nil (seqK_n ?_)))))))))))
 refine sem_seq ?_
 refine sem_cutW (fun ok_26 : Bool => (⟨[(0, .pv (.slc l.length l_f (l.flatMap encGLock))), (2, I now), (3, .pv (.slc names.length names_f (encS names))), (5, .ptr 0 0), (9, B (small37)), (10, B ok_26)], [(0, .box [.pv (.str x_.Name), I x_.Foe, I x_.Until])], 1, [], 197, 0⟩ : St)) (fun ok_26 : Bool => tells37_J26 l x_ = ok_26 ∧ (ok_26 = true → few37 l = true ∧ few37 [x_] = true)) ?_ ?_
 ·refine sem_region rfl (step_r rfl rfl trivial (step_call rfl rfl rfl rfl (few37_ok l l_f) rfl rfl rfl (step_r rfl rfl trivial ?_)))
  refine step_gs rfl (fun h4 => ?_) (fun h4 => ?_)
  ·have g4 : few37 l = true := h4
   have qg4 := few37_l g4
   refine step_g1 rfl h4 (step_r (v := (.agg [_, _, _])) rfl rfl (Nat.le_of_ble_eq_true rfl) (step_g1 rfl h4 (step_n (o := .row _ _ [_, _, _]) (nx' := 2) rfl rfl rfl (by decide) (step_g1 rfl h4 ?_))))
   refine step_callJ (Hin := [.row _ _ _]) (H' := [(1, _), (0, _)]) (nx' := 2) [1] rfl rfl rfl rfl rfl rfl rfl rfl rfl (by (repeat' apply And.intro) <;> first | trivial | rfl | exact flat_len (fun _ => rfl) _ | exact encI_len _ | exact encS_len _ | exact Nat.le_of_ble_eq_true rfl | assumption) (few37_ok ([x_]) false) rfl (by decide) rfl rfl trivial rfl rfl rfl rfl ?_
   refine step_pickT rfl h4 rfl rfl (step_r rfl rfl trivial (step_nil ?_))
   have e6 : tells37_J26 l x_ = (few37 ([x_])) := by
    unfold tells37_J26
    try dsimp only
    rewrite [if_pos g4]
    all_goals rfl
   exact cutW_n (few37 ([x_])) ⟨e6, by first | assumption | omega | (simp; omega) | simp_all | grind⟩ (Trans.ren [] (by decide +kernel) (by decide +kernel) rfl ⟨⟨rfl, rfl⟩, ⟨rfl, rfl⟩, ⟨rfl, rfl⟩, ⟨rfl, rfl⟩, ⟨rfl, rfl⟩, ⟨rfl, rfl⟩, trivial⟩ ⟨⟨rfl, rfl, rfl⟩, trivial⟩ (by decide))
  ·have g4 : ¬ (few37 l = true) := boo_f h4
   refine step_g0 rfl h4 rfl (step_g0 rfl h4 rfl (step_g0 rfl h4 rfl (step_pickF rfl h4 rfl rfl (step_r rfl rfl trivial (step_nil ?_)))))
   have e7 : tells37_J26 l x_ = false := by
    unfold tells37_J26
    try dsimp only
    rewrite [if_neg g4]
    all_goals rfl
   exact cutW_n false ⟨e7, by first | assumption | omega | (simp; omega) | simp_all | grind⟩ (Trans.ren [] (by decide +kernel) (by decide +kernel) rfl ⟨⟨rfl, rfl⟩, ⟨rfl, rfl⟩, ⟨rfl, rfl⟩, ⟨rfl, rfl⟩, ⟨rfl, rfl⟩, ⟨rfl, rfl⟩, trivial⟩ ⟨⟨rfl, rfl, rfl⟩, trivial⟩ (by decide))
 ·rintro ok_26 ⟨(hJ2 : tells37_J26 l x_ = ok_26), hK26⟩
  show seqK _ _ _ .normal (⟨[(0, .pv (.slc l.length l_f (l.flatMap encGLock))), (2, I now), (3, .pv (.slc names.length names_f (encS names))), (5, .ptr 0 0), (9, B (small37)), (10, B ok_26)], [(0, .box [.pv (.str x_.Name), I x_.Foe, I x_.Until])], 1, [], 197, 0⟩ : St)
  refine seqK_n (sem_seq (sem_seq (sem_region rfl (step_r rfl rfl trivial (step_nil (seqK_n ?_))))))
  refine sem_cutW (fun ok_0 : Bool => (⟨[(0, .pv (.slc l.length l_f (l.flatMap encGLock))), (2, I now), (3, .pv (.slc names.length names_f (encS names))), (5, .ptr 0 0), (9, B (small37)), (10, B ok_0)], [(0, .box [.pv (.str x_.Name), I x_.Foe, I x_.Until])], 1, [], 197, 0⟩ : St)) (fun ok_0 : Bool => tells37_L0 names ((min names.length 100) - 0) 0 ok_26 = ok_0 ∧ (ok_0 = true → few37 l = true ∧ few37 [x_] = true)) ?_ ?_
  ·refine sem_block ?_
   refine sem_loopT (fun w_ : Nat × Bool => match w_ with | (k0, ok0) => (⟨[(0, .pv (.slc l.length l_f (l.flatMap encGLock))), (2, I now), (3, .pv (.slc names.length names_f (encS names))), (5, .ptr 0 0), (9, B (small37)), (10, B ok0), (11, I k0)], [(0, .box [.pv (.str x_.Name), I x_.Foe, I x_.Until])], 1, [], 197, 0⟩ : St)) (fun w_ : Nat × Bool => match w_ with | (k0, ok0) => tells37_L0 names ((min names.length 100) - k0) k0 ok0 = tells37_L0 names ((min names.length 100) - 0) 0 ok_26 ∧ k0 ≤ min names.length 100 ∧ (ok0 = true → few37 l = true ∧ few37 [x_] = true)) (fun w_ : Nat × Bool => match w_ with | (k0, ok0) => min names.length 100 - k0) (0, ok_26) (⟨rfl, (by first | omega | (simp; omega)), hK26⟩) ?_ (fun w_ hh_ => ?_)
   ·exact (Trans.ren [] (by decide +kernel) (by decide +kernel) rfl ⟨⟨rfl, rfl⟩, ⟨rfl, rfl⟩, ⟨rfl, rfl⟩, ⟨rfl, rfl⟩, ⟨rfl, rfl⟩, ⟨rfl, rfl⟩, ⟨rfl, rfl⟩, trivial⟩ ⟨⟨rfl, rfl, rfl⟩, trivial⟩ (by decide))
   obtain ⟨k0, ok0⟩ := w_
   obtain ⟨hI0, hb0, hv0⟩ := hh_
   show Walks Tryd.prog _ _ (⟨[(0, .pv (.slc l.length l_f (l.flatMap encGLock))), (2, I now), (3, .pv (.slc names.length names_f (encS names))), (5, .ptr 0 0), (9, B (small37)), (10, B ok0), (11, I k0)], [(0, .box [.pv (.str x_.Name), I x_.Foe, I x_.Until])], 1, [], 197, 0⟩ : St)
   refine sem_seq (sem_seq (sem_region rfl (step_r rfl rfl trivial (step_r rfl rfl trivial (step_r rfl rfl trivial (step_bin rfl rfl rfl rfl rfl trivial (step_r rfl rfl trivial ?_)))))))
   refine step_gs rfl (fun h11 => ?_) (fun h11 => ?_)
   ·have g11 : (k0 : Int) < names.length := of_decide_eq_true h11
    refine step_g1 rfl h11 (step_r rfl rfl trivial (step_g1 rfl h11 (step_bin rfl rfl rfl rfl rfl trivial (step_pickT rfl h11 rfl rfl (step_nil (seqK_n ?_))))))
    refine sem_cond rfl (fun h13 => ?_) (fun h13 => ?_)
    ·have g13 : (k0 : Int) < 100 := of_decide_eq_true h13
     have hm0 : min names.length 100 - k0 = (min names.length 100 - (k0 + 1)) + 1 := by omega
     refine sem_skip (seqK_n (sem_seq (sem_block (sem_region rfl (step_r rfl rfl trivial (step_r rfl rfl trivial ?_))))))
     refine step_gs rfl (fun h15 => ?_) (fun h15 => ?_)
     ·have g15 : ok0 = true := h15
      refine step_g1 rfl h15 (step_r rfl rfl trivial (step_g1 rfl h15 (step_r rfl rfl trivial (step_g1 rfl h15 ?_))))
      have jk16 : k0 < names.length := by first | assumption | omega | (simp only [List.length_set, List.length_append]; omega) | (simp only [IntKind.wrap_i64] at *; omega) | (simp; omega) | simp_all
      refine step_idxS (k := k0) rfl rfl rfl rfl jk16 (encS_ne jk16) rfl (step_g1 rfl h15 (step_load_one rfl rfl rfl (encS_get (get_getD jk16)) rfl (step_g1 rfl h15 (step_r rfl rfl trivial (step_g1 rfl h15 (step_bin rfl rfl rfl rfl rfl trivial (step_pickT rfl h15 rfl rfl (step_r rfl rfl trivial (step_nil (blkK_n (seqK_n ?_)))))))))))
      refine sem_region rfl (step_r rfl rfl trivial (step_bin rfl rfl rfl rfl rfl trivial (step_r rfl rfl trivial (step_nil ?_))))
      have e19 : tells37_L0 names ((min names.length 100) - k0) k0 ok0 = tells37_L0 names ((min names.length 100) - (k0 + 1)) (k0 + 1) (decide (((names.getD k0 default).length : Int) ≤ 100)) := by
       rewrite [hm0]
       rewrite [tells37_L0]
       try dsimp only
       rewrite [if_pos g15]
       all_goals rfl
      exact lup_againT (k0 + 1, (decide (((names.getD k0 default).length : Int) ≤ 100))) ⟨e19.symm.trans hI0, (by omega), by first | omega | assumption | (simp only [List.length_append, List.length_cons, List.length_nil, List.length_set]; omega) | (simp; omega) | grind⟩ (by show min names.length 100 - (k0 + 1) < min names.length 100 - k0; omega) (Trans.ren [] (by decide +kernel) (by decide +kernel) rfl ⟨⟨rfl, rfl⟩, ⟨rfl, rfl⟩, ⟨rfl, rfl⟩, ⟨rfl, rfl⟩, ⟨rfl, rfl⟩, ⟨rfl, rfl⟩, ⟨congrArg (fun n => some (I n)) (wrapI (k := k0) (by first | omega | (simp; omega))), rfl⟩, trivial⟩ ⟨⟨rfl, rfl, rfl⟩, trivial⟩ (by decide))
     ·have g15 : ¬ (ok0 = true) := boo_f h15
      refine step_g0 rfl h15 rfl (step_g0 rfl h15 rfl (step_g0 rfl h15 rfl (step_g0 rfl h15 rfl (step_g0 rfl h15 rfl (step_g0 rfl h15 rfl (step_pickF rfl h15 rfl rfl (step_r rfl rfl trivial (step_nil (blkK_n (seqK_n (sem_region rfl ?_)))))))))))
      refine step_r rfl rfl trivial (step_bin rfl rfl rfl rfl rfl trivial (step_r rfl rfl trivial (step_nil ?_)))
      have e21 : tells37_L0 names ((min names.length 100) - k0) k0 ok0 = tells37_L0 names ((min names.length 100) - (k0 + 1)) (k0 + 1) false := by
       rewrite [hm0]
       rewrite [tells37_L0]
       try dsimp only
       rewrite [if_neg g15]
       all_goals rfl
      exact lup_againT (k0 + 1, false) ⟨e21.symm.trans hI0, (by omega), by first | omega | assumption | (simp only [List.length_append, List.length_cons, List.length_nil, List.length_set]; omega) | (simp; omega) | grind⟩ (by show min names.length 100 - (k0 + 1) < min names.length 100 - k0; omega) (Trans.ren [] (by decide +kernel) (by decide +kernel) rfl ⟨⟨rfl, rfl⟩, ⟨rfl, rfl⟩, ⟨rfl, rfl⟩, ⟨rfl, rfl⟩, ⟨rfl, rfl⟩, ⟨rfl, rfl⟩, ⟨congrArg (fun n => some (I n)) (wrapI (k := k0) (by first | omega | (simp; omega))), rfl⟩, trivial⟩ ⟨⟨rfl, rfl, rfl⟩, trivial⟩ (by decide))
    ·have g13 : ¬ ((k0 : Int) < 100) := of_decide_eq_false h13
     have hm0 : min names.length 100 - k0 = 0 := by omega
     refine sem_exit (seqK_e (lupK_e (blkK_t rfl ?_)))
     have e22 : tells37_L0 names ((min names.length 100) - 0) 0 ok_26 = ok0 := by
      rewrite [← hI0, hm0]
      rewrite [tells37_L0]
      try dsimp only
      all_goals rfl
     exact cutW_n ok0 ⟨e22, by first | assumption | omega | (simp; omega) | simp_all | grind⟩ (Trans.ren [] (by decide +kernel) (by decide +kernel) rfl ⟨⟨rfl, rfl⟩, ⟨rfl, rfl⟩, ⟨rfl, rfl⟩, ⟨rfl, rfl⟩, ⟨rfl, rfl⟩, ⟨rfl, rfl⟩, trivial⟩ ⟨⟨rfl, rfl, rfl⟩, trivial⟩ (by decide))
   ·have g11 : ¬ ((k0 : Int) < names.length) := of_decide_eq_false h11
    refine step_g0 rfl h11 rfl (step_g0 rfl h11 rfl (step_pickF rfl h11 rfl rfl (step_nil (seqK_n (sem_condF rfl ?_)))))
    have hm0 : min names.length 100 - k0 = 0 := by omega
    refine sem_exit (seqK_e (lupK_e (blkK_t rfl ?_)))
    have e23 : tells37_L0 names ((min names.length 100) - 0) 0 ok_26 = ok0 := by
     rewrite [← hI0, hm0]
     rewrite [tells37_L0]
     try dsimp only
     all_goals rfl
    exact cutW_n ok0 ⟨e23, by first | assumption | omega | (simp; omega) | simp_all | grind⟩ (Trans.ren [] (by decide +kernel) (by decide +kernel) rfl ⟨⟨rfl, rfl⟩, ⟨rfl, rfl⟩, ⟨rfl, rfl⟩, ⟨rfl, rfl⟩, ⟨rfl, rfl⟩, ⟨rfl, rfl⟩, trivial⟩ ⟨⟨rfl, rfl, rfl⟩, trivial⟩ (by decide))
  ·rintro ok_0 ⟨(hJ8 : tells37_L0 names ((min names.length 100) - 0) 0 ok_26 = ok_0), hE0⟩
   show seqK _ _ _ .normal (⟨[(0, .pv (.slc l.length l_f (l.flatMap encGLock))), (2, I now), (3, .pv (.slc names.length names_f (encS names))), (5, .ptr 0 0), (9, B (small37)), (10, B ok_0)], [(0, .box [.pv (.str x_.Name), I x_.Foe, I x_.Until])], 1, [], 197, 0⟩ : St)
   refine seqK_n (sem_seq (sem_seq (sem_region rfl (step_r rfl rfl trivial (step_r rfl rfl trivial (step_r rfl rfl trivial ?_))))))
   refine step_gs rfl (fun h26 => ?_) (fun h26 => ?_)
   ·have g26 : ¬ (ok_0 = true) := boo_f (not_t h26)
    refine step_g0 rfl h26 rfl (step_g0 rfl h26 rfl (step_g0 rfl h26 rfl (step_pickT rfl h26 rfl rfl (step_nil (seqK_n (sem_condT rfl (sem_seq (sem_region rfl (step_r rfl rfl trivial (step_r rfl rfl trivial (step_nil ?_)))))))))))
    refine seqK_n (sem_ret (seqK_r ?_))
    have e28 : tells37 l x_ now names = (small37) := by
     unfold tells37
     try dsimp only
     rewrite [hJ2]
     try dsimp only
     rewrite [hJ8]
     try dsimp only
     rewrite [if_neg g26]
     all_goals rfl
    rw [e28]
    exact answersR rfl ⟨trivial, trivial⟩ (rfl) rfl
   ·have g26 : ok_0 = true := (not_f h26)
    have hok : ok_0 = true := by simpa using h26
    obtain ⟨f1, f2⟩ := hE0 hok
    have f3 := few37_l f1
    refine step_g1 rfl h26 (step_r rfl rfl trivial (step_g1 rfl h26 (step_r rfl rfl trivial (step_g1 rfl h26 (step_bin rfl rfl rfl rfl rfl trivial (step_pickF rfl h26 rfl rfl (step_nil (seqK_n ?_))))))))
    refine sem_cond rfl (fun h30 => ?_) (fun h30 => ?_)
    ·have g30 : (names.length : Int) > 60 := of_decide_eq_true h30
     refine sem_seq (sem_region rfl (step_r rfl rfl trivial (step_r rfl rfl trivial (step_nil (seqK_n (sem_ret (seqK_r ?_)))))))
     have e32 : tells37 l x_ now names = (small37) := by
      unfold tells37
      try dsimp only
      rewrite [hJ2]
      try dsimp only
      rewrite [hJ8]
      try dsimp only
      rewrite [if_pos g26, if_pos g30]
      all_goals rfl
     rw [e32]
     exact answersR rfl ⟨trivial, trivial⟩ (rfl) rfl
    ·have g30 : ¬ ((names.length : Int) > 60) := of_decide_eq_false h30
     refine sem_skip (seqK_n (sem_seq (sem_region rfl (step_r rfl rfl ⟨by decide, rfl⟩ (step_r rfl rfl trivial ?_)))))
     refine step_appendN (m := l.length) (new := l.flatMap encGLock) (cs' := l.flatMap encGLock) (n' := l.length) rfl rfl (rfl) rfl rfl rfl rfl rfl rfl (flat_len (s := 3) (enc := encGLock) (fun _ => rfl) l) (by first | decide | (unfold maxGrow; omega) | (unfold maxGrow; simp; omega) | (unfold maxGrow; simp only [List.length_append, List.length_take, List.length_drop, List.length_cons, List.length_nil, IntKind.wrap_i64] at *; omega)) rfl rfl rfl rfl ?_
     refine step_r rfl rfl trivial (step_nil (seqK_n (sem_seq (sem_region rfl (step_r rfl rfl trivial (step_r rfl rfl (by decide) (step_r rfl rfl trivial (step_r rfl rfl (by decide) (step_r rfl rfl trivial (step_r rfl rfl (by decide) (step_r rfl rfl trivial ?_)))))))))))
     refine step_callJ (Hin := [.row _ _ _]) (out' := .tup [.ref 2 _ _ _, _]) (H' := [(2, .row _ _ _), (1, _), (0, _)]) (nx' := 3) [1] rfl rfl rfl rfl rfl rfl rfl rfl rfl (by (repeat' apply And.intro) <;> first | trivial | rfl | exact flat_len (s := 3) (enc := encGLock) (fun _ => rfl) _ | exact flat_len (fun _ => rfl) _ | exact encI_len _ | exact encS_len _ | exact Nat.le_of_ble_eq_true rfl | assumption) (addL_ok l false x_.Name x_.Foe x_.Until (by first | omega | (simp; done) | (simp only [IntKind.wrap_i64]; omega) | (simp only [List.length_nil, List.length_cons] at *; omega) | (simp only [IntKind.wrap_i64] at *; omega) | (simp; omega))) rfl (by decide) rfl rfl ⟨encGLock_solid, trivial⟩ rfl rfl rfl rfl ?_
     have p33 := addL_len l x_.Name x_.Foe x_.Until (by first | omega | (simp; done) | (simp only [IntKind.wrap_i64]; omega) | (simp only [List.length_nil, List.length_cons] at *; omega) | (simp only [IntKind.wrap_i64] at *; omega) | (simp; omega))
     refine step_r rfl rfl trivial (step_r rfl rfl trivial (step_r rfl rfl trivial (step_r rfl rfl trivial (step_r rfl rfl trivial (step_nil (seqK_n (sem_seq (sem_region rfl (step_r rfl rfl trivial (step_r rfl rfl (by decide) (step_r rfl rfl trivial ?_)))))))))))
     refine step_r rfl rfl (by decide) (step_r rfl rfl trivial (step_r rfl rfl (by decide) (step_r rfl rfl trivial ?_)))
     refine step_callN (out' := .tup [.ref 3 _ _ _, _]) (H' := [(3, .row _ _ _), (2, _), (1, _), (0, _)]) (nx' := 4) rfl rfl rfl rfl rfl rfl rfl (by (repeat' apply And.intro) <;> first | trivial | rfl | exact flat_len (fun _ => rfl) _ | exact encI_len _ | exact encS_len _ | exact Nat.le_of_ble_eq_true rfl | assumption) (addLR_ok l false x_.Name x_.Foe x_.Until (by first | omega | (simp; done) | (simp only [IntKind.wrap_i64]; omega) | (simp only [List.length_nil, List.length_cons] at *; omega) | (simp only [IntKind.wrap_i64] at *; omega) | (simp; omega)) (by first | assumption | exact few37_n (by assumption) | exact hN) (by first | assumption | omega | exact few37_x (by assumption) | (simp; omega))) rfl rfl rfl rfl ?_
     have p35 := addLR_len l x_.Name x_.Foe x_.Until (by first | omega | (simp only [IntKind.wrap_i64]; omega) | (simp only [IntKind.wrap_i64] at *; omega) | (simp; omega))
     refine step_r rfl rfl trivial (step_r rfl rfl trivial (step_r rfl rfl trivial (step_r rfl rfl trivial (step_r rfl rfl trivial (step_nil (seqK_n (sem_seq (sem_region rfl (step_r rfl rfl trivial (step_r rfl rfl (by decide) (step_r rfl rfl trivial ?_)))))))))))
     refine step_r rfl rfl (by decide) (step_r rfl rfl trivial (step_r rfl rfl trivial ?_))
     refine step_callJ (Hin := [.row _ _ _]) (out' := .tup [_, _]) (H' := [(3, _), (2, _), (1, _), (0, _)]) (nx' := 4) [1] rfl rfl rfl rfl rfl rfl rfl rfl rfl (by (repeat' apply And.intro) <;> first | trivial | rfl | exact flat_len (s := 3) (enc := encGLock) (fun _ => rfl) _ | exact flat_len (fun _ => rfl) _ | exact encI_len _ | exact encS_len _ | exact Nat.le_of_ble_eq_true rfl | assumption) (untilL_ok l false x_.Name x_.Foe now) rfl (by decide) rfl rfl trivial rfl rfl rfl rfl ?_
     refine step_r rfl rfl trivial (step_r rfl rfl trivial (step_r rfl rfl trivial (step_r rfl rfl trivial (step_r rfl rfl trivial (step_nil (seqK_n (sem_seq (sem_region rfl (step_r rfl rfl trivial (step_r rfl rfl (by decide) (step_r rfl rfl trivial ?_)))))))))))
     refine step_r rfl rfl (by decide) (step_r rfl rfl trivial (step_r rfl rfl trivial (step_call rfl rfl rfl rfl (untilLR_ok l l_f x_.Name x_.Foe now) rfl rfl rfl (step_r rfl rfl trivial (step_r rfl rfl trivial (step_r rfl rfl trivial (step_r rfl rfl trivial (step_r rfl rfl trivial (step_nil (seqK_n (sem_seq ?_)))))))))))
     refine sem_region rfl (step_r rfl rfl trivial (step_r rfl rfl trivial ?_))
     refine step_callJ (Hin := [.row _ _ _]) (out' := .ref 4 _ _ _) (H' := [(4, .row _ _ _), (3, _), (2, _), (1, _), (0, _)]) (nx' := 5) [1] rfl rfl rfl rfl rfl rfl rfl rfl rfl (by (repeat' apply And.intro) <;> first | trivial | rfl | exact flat_len (s := 3) (enc := encGLock) (fun _ => rfl) _ | exact flat_len (fun _ => rfl) _ | exact encI_len _ | exact encS_len _ | exact Nat.le_of_ble_eq_true rfl | assumption) (cleanL_ok l false now (by first | omega | (simp; done) | (simp only [IntKind.wrap_i64]; omega) | (simp only [List.length_nil, List.length_cons] at *; omega) | (simp only [IntKind.wrap_i64] at *; omega) | (simp; omega))) rfl (by decide) rfl rfl ⟨encGLock_solid, trivial⟩ rfl rfl rfl rfl ?_
     have p42 := cleanL_len l now
     refine step_r rfl rfl trivial (step_nil (seqK_n (sem_seq ?_)))
     refine sem_cutW (fun same_108 : Bool => (⟨[(0, .pv (.slc l.length l_f (l.flatMap encGLock))), (2, I now), (3, .pv (.slc names.length names_f (encS names))), (5, .ptr 0 0), (9, B (small37)), (12, .ref 1 3 0 l.length), (13, .ref 2 3 0 (addL l x_.Name x_.Foe x_.Until).1.length), (21, .ref 3 3 0 (cleanL l now).length), (22, B same_108)], [(0, .box [.pv (.str x_.Name), I x_.Foe, I x_.Until]), (1, .row 24 3 (l.flatMap encGLock)), (2, .row 24 3 ((addL l x_.Name x_.Foe x_.Until).1.flatMap encGLock)), (3, .row 24 3 ((cleanL l now).flatMap encGLock))], 4, [], 197, 0⟩ : St)) (fun w_ => tells37_J108 l x_ now = w_) ?_ ?_
     ·refine sem_region rfl (step_r rfl rfl trivial (step_r rfl rfl trivial ?_))
      refine step_callJ (Hin := [.row _ _ _, .row _ _ _]) (H' := [(4, _), (3, _), (2, _), (1, _), (0, _)]) (nx' := 5) [2, 3] rfl rfl rfl rfl rfl rfl rfl rfl rfl (by (repeat' apply And.intro) <;> first | trivial | rfl | exact flat_len (s := 3) (enc := encGLock) (fun _ => rfl) _ | exact flat_len (fun _ => rfl) _ | exact encI_len _ | exact encS_len _ | exact Nat.le_of_ble_eq_true rfl | assumption) (sameLR_ok ((addL l x_.Name x_.Foe x_.Until).1) false ((addLR l x_.Name x_.Foe x_.Until).1) false) rfl (by decide) rfl rfl trivial rfl rfl rfl rfl ?_
      refine step_r rfl rfl trivial ?_
      refine step_gs rfl (fun h45 => ?_) (fun h45 => ?_)
      ·have g45 : sameLR ((addL l x_.Name x_.Foe x_.Until).1) ((addLR l x_.Name x_.Foe x_.Until).1) = true := h45
       refine step_g1 rfl h45 (step_r rfl rfl trivial (step_g1 rfl h45 (step_r rfl rfl trivial (step_g1 rfl h45 (step_bin rfl rfl rfl rfl rfl trivial (step_pickT rfl h45 rfl rfl (step_r rfl rfl trivial ?_)))))))
       refine step_gs rfl (fun h47 => ?_) (fun h47 => ?_)
       ·have g47 : ((addL l x_.Name x_.Foe x_.Until).2 : Int) = ((addLR l x_.Name x_.Foe x_.Until).2) := beq_t h47
        refine step_g1 rfl h47 (step_r rfl rfl trivial (step_g1 rfl h47 (step_r rfl rfl trivial (step_g1 rfl h47 (step_bin rfl rfl rfl rfl rfl trivial (step_pickT rfl h47 rfl rfl (step_r rfl rfl trivial ?_)))))))
        refine step_gs rfl (fun h49 => ?_) (fun h49 => ?_)
        ·have g49 : ((untilL l x_.Name x_.Foe now).1 : Int) = ((untilLR l x_.Name x_.Foe now).1) := beq_t h49
         refine step_g1 rfl h49 (step_r rfl rfl trivial (step_g1 rfl h49 (step_r rfl rfl trivial (step_g1 rfl h49 (step_bin rfl rfl rfl rfl rfl trivial (step_pickT rfl h49 rfl rfl (step_r rfl rfl trivial ?_)))))))
         refine step_gs rfl (fun h51 => ?_) (fun h51 => ?_)
         ·have g51 : ((untilL l x_.Name x_.Foe now).2) = ((untilLR l x_.Name x_.Foe now).2) := beq_t h51
          refine step_g1 rfl h51 (step_r rfl rfl trivial (step_g1 rfl h51 (step_r rfl rfl trivial (step_g1 rfl h51 (step_r rfl rfl trivial (step_g1 rfl h51 ?_))))))
          refine step_callN (out' := .ref 5 _ _ _) (H' := [(5, .row _ _ _), (4, _), (3, _), (2, _), (1, _), (0, _)]) (nx' := 6) rfl rfl rfl rfl rfl rfl rfl (by (repeat' apply And.intro) <;> first | trivial | rfl | exact flat_len (fun _ => rfl) _ | exact encI_len _ | exact encS_len _ | exact Nat.le_of_ble_eq_true rfl | assumption) (cleanLR_ok l false now (by first | omega | (simp; done) | (simp only [IntKind.wrap_i64]; omega) | (simp only [List.length_nil, List.length_cons] at *; omega) | (simp only [IntKind.wrap_i64] at *; omega) | (simp; omega))) rfl rfl rfl rfl ?_
          refine step_g1 rfl h51 ?_
          refine step_callJ (Hin := [.row _ _ _, .row _ _ _]) (H' := [(5, _), (4, _), (3, _), (2, _), (1, _), (0, _)]) (nx' := 6) [4, 5] rfl rfl rfl rfl rfl rfl rfl rfl rfl (by (repeat' apply And.intro) <;> first | trivial | rfl | exact flat_len (s := 3) (enc := encGLock) (fun _ => rfl) _ | exact flat_len (fun _ => rfl) _ | exact encI_len _ | exact encS_len _ | exact Nat.le_of_ble_eq_true rfl | assumption) (sameLR_ok (cleanL l now) false (cleanLR l now) false) rfl (by decide) rfl rfl trivial rfl rfl rfl rfl ?_
          refine step_pickT rfl h51 rfl rfl (step_r rfl rfl trivial (step_nil ?_))
          have e53 : tells37_J108 l x_ now = (sameLR (cleanL l now) (cleanLR l now)) := by
           unfold tells37_J108
           try dsimp only
           rewrite [if_pos g45, if_pos g47, if_pos g49, if_pos g51]
           all_goals rfl
          exact cutW_n (sameLR (cleanL l now) (cleanLR l now)) e53 (Trans.ren [(3, 4), (4, 3)] (by decide +kernel) (by decide +kernel) rfl ⟨⟨rfl, rfl⟩, ⟨rfl, rfl⟩, ⟨rfl, rfl⟩, ⟨rfl, rfl⟩, ⟨rfl, rfl⟩, ⟨rfl, rfl⟩, ⟨rfl, rfl⟩, ⟨rfl, rfl⟩, ⟨rfl, rfl⟩, trivial⟩ ⟨⟨rfl, rfl, rfl⟩, ⟨rfl, rfl, rfl⟩, ⟨rfl, rfl, rfl⟩, ⟨rfl, rfl, rfl⟩, trivial⟩ (by decide))
         ·have g51 : ¬ (((untilL l x_.Name x_.Foe now).2) = ((untilLR l x_.Name x_.Foe now).2)) := beq_f h51
          refine step_g0 rfl h51 rfl (step_g0 rfl h51 rfl (step_g0 rfl h51 rfl (step_g0 rfl h51 rfl (step_g0 rfl h51 rfl (step_pickF rfl h51 rfl rfl (step_r rfl rfl trivial (step_nil ?_)))))))
          have e54 : tells37_J108 l x_ now = false := by
           unfold tells37_J108
           try dsimp only
           rewrite [if_pos g45, if_pos g47, if_pos g49, if_neg g51]
           all_goals rfl
          exact cutW_n false e54 (Trans.ren [(3, 4), (4, 3)] (by decide +kernel) (by decide +kernel) rfl ⟨⟨rfl, rfl⟩, ⟨rfl, rfl⟩, ⟨rfl, rfl⟩, ⟨rfl, rfl⟩, ⟨rfl, rfl⟩, ⟨rfl, rfl⟩, ⟨rfl, rfl⟩, ⟨rfl, rfl⟩, ⟨rfl, rfl⟩, trivial⟩ ⟨⟨rfl, rfl, rfl⟩, ⟨rfl, rfl, rfl⟩, ⟨rfl, rfl, rfl⟩, ⟨rfl, rfl, rfl⟩, trivial⟩ (by decide))
        ·have g49 : ¬ (((untilL l x_.Name x_.Foe now).1 : Int) = ((untilLR l x_.Name x_.Foe now).1)) := beq_f h49
         refine step_g0 rfl h49 rfl (step_g0 rfl h49 rfl (step_g0 rfl h49 rfl (step_pickF rfl h49 rfl rfl (step_r rfl rfl trivial (step_gf rfl rfl (step_gf rfl rfl (step_gf rfl rfl (step_gf rfl rfl (step_gf rfl rfl (step_r rfl rfl trivial (step_r rfl rfl trivial ?_)))))))))))
         refine step_nil ?_
         have e55 : tells37_J108 l x_ now = false := by
          unfold tells37_J108
          try dsimp only
          rewrite [if_pos g45, if_pos g47, if_neg g49]
          all_goals rfl
         exact cutW_n false e55 (Trans.ren [(3, 4), (4, 3)] (by decide +kernel) (by decide +kernel) rfl ⟨⟨rfl, rfl⟩, ⟨rfl, rfl⟩, ⟨rfl, rfl⟩, ⟨rfl, rfl⟩, ⟨rfl, rfl⟩, ⟨rfl, rfl⟩, ⟨rfl, rfl⟩, ⟨rfl, rfl⟩, ⟨rfl, rfl⟩, trivial⟩ ⟨⟨rfl, rfl, rfl⟩, ⟨rfl, rfl, rfl⟩, ⟨rfl, rfl, rfl⟩, ⟨rfl, rfl, rfl⟩, trivial⟩ (by decide))
       ·have g47 : ¬ (((addL l x_.Name x_.Foe x_.Until).2 : Int) = ((addLR l x_.Name x_.Foe x_.Until).2)) := beq_f h47
        refine step_g0 rfl h47 rfl (step_g0 rfl h47 rfl (step_g0 rfl h47 rfl (step_pickF rfl h47 rfl rfl (step_r rfl rfl trivial (step_gf rfl rfl (step_gf rfl rfl (step_gf rfl rfl (step_r rfl rfl trivial (step_r rfl rfl trivial (step_gf rfl rfl (step_gf rfl rfl ?_)))))))))))
        refine step_gf rfl rfl (step_gf rfl rfl (step_gf rfl rfl (step_r rfl rfl trivial (step_r rfl rfl trivial (step_nil ?_)))))
        have e56 : tells37_J108 l x_ now = false := by
         unfold tells37_J108
         try dsimp only
         rewrite [if_pos g45, if_neg g47]
         all_goals rfl
        exact cutW_n false e56 (Trans.ren [(3, 4), (4, 3)] (by decide +kernel) (by decide +kernel) rfl ⟨⟨rfl, rfl⟩, ⟨rfl, rfl⟩, ⟨rfl, rfl⟩, ⟨rfl, rfl⟩, ⟨rfl, rfl⟩, ⟨rfl, rfl⟩, ⟨rfl, rfl⟩, ⟨rfl, rfl⟩, ⟨rfl, rfl⟩, trivial⟩ ⟨⟨rfl, rfl, rfl⟩, ⟨rfl, rfl, rfl⟩, ⟨rfl, rfl, rfl⟩, ⟨rfl, rfl, rfl⟩, trivial⟩ (by decide))
      ·have g45 : ¬ (sameLR ((addL l x_.Name x_.Foe x_.Until).1) ((addLR l x_.Name x_.Foe x_.Until).1) = true) := boo_f h45
       refine step_g0 rfl h45 rfl (step_g0 rfl h45 rfl (step_g0 rfl h45 rfl (step_pickF rfl h45 rfl rfl (step_r rfl rfl trivial (step_gf rfl rfl (step_gf rfl rfl (step_gf rfl rfl (step_r rfl rfl trivial (step_r rfl rfl trivial (step_gf rfl rfl (step_gf rfl rfl ?_)))))))))))
       refine step_gf rfl rfl (step_r rfl rfl trivial (step_r rfl rfl trivial (step_gf rfl rfl (step_gf rfl rfl (step_gf rfl rfl (step_gf rfl rfl (step_gf rfl rfl (step_r rfl rfl trivial (step_r rfl rfl trivial (step_nil ?_))))))))))
       have e57 : tells37_J108 l x_ now = false := by
        unfold tells37_J108
        try dsimp only
        rewrite [if_neg g45]
        all_goals rfl
       exact cutW_n false e57 (Trans.ren [(3, 4), (4, 3)] (by decide +kernel) (by decide +kernel) rfl ⟨⟨rfl, rfl⟩, ⟨rfl, rfl⟩, ⟨rfl, rfl⟩, ⟨rfl, rfl⟩, ⟨rfl, rfl⟩, ⟨rfl, rfl⟩, ⟨rfl, rfl⟩, ⟨rfl, rfl⟩, ⟨rfl, rfl⟩, trivial⟩ ⟨⟨rfl, rfl, rfl⟩, ⟨rfl, rfl, rfl⟩, ⟨rfl, rfl, rfl⟩, ⟨rfl, rfl, rfl⟩, trivial⟩ (by decide))
     ·rintro same_108 (hJ43 : tells37_J108 l x_ now = same_108)
      show seqK _ _ _ .normal (⟨[(0, .pv (.slc l.length l_f (l.flatMap encGLock))), (2, I now), (3, .pv (.slc names.length names_f (encS names))), (5, .ptr 0 0), (9, B (small37)), (12, .ref 1 3 0 l.length), (13, .ref 2 3 0 (addL l x_.Name x_.Foe x_.Until).1.length), (21, .ref 3 3 0 (cleanL l now).length), (22, B same_108)], [(0, .box [.pv (.str x_.Name), I x_.Foe, I x_.Until]), (1, .row 24 3 (l.flatMap encGLock)), (2, .row 24 3 ((addL l x_.Name x_.Foe x_.Until).1.flatMap encGLock)), (3, .row 24 3 ((cleanL l now).flatMap encGLock))], 4, [], 197, 0⟩ : St)
      refine seqK_n (sem_seq (sem_seq (sem_region rfl (step_r rfl rfl trivial (step_nil (seqK_n ?_))))))
      refine sem_cutW (fun w_ : Unit => match w_ with | () => (⟨[(0, .pv (.slc l.length l_f (l.flatMap encGLock))), (2, I now), (3, .pv (.slc names.length names_f (encS names))), (5, .ptr 0 0), (9, B (small37)), (12, .ref 1 3 0 l.length), (13, .ref 2 3 0 (addL l x_.Name x_.Foe x_.Until).1.length), (22, B same_108)], [(0, .box [.pv (.str x_.Name), I x_.Foe, I x_.Until]), (1, .row 24 3 (l.flatMap encGLock)), (2, .row 24 3 ((addL l x_.Name x_.Foe x_.Until).1.flatMap encGLock))], 3, [], 197, 0⟩ : St)) (fun w_ => tells37_L1 (((cleanL l now).length) - 0) 0 (cleanL l now) = w_) ?_ ?_
      ·refine sem_block ?_
       refine sem_loopT (fun w_ : Nat × (List GLock) => match w_ with | (k1, c1) => (⟨[(0, .pv (.slc l.length l_f (l.flatMap encGLock))), (2, I now), (3, .pv (.slc names.length names_f (encS names))), (5, .ptr 0 0), (9, B (small37)), (12, .ref 1 3 0 l.length), (13, .ref 2 3 0 (addL l x_.Name x_.Foe x_.Until).1.length), (21, .ref 3 3 0 c1.length), (22, B same_108), (23, I k1)], [(0, .box [.pv (.str x_.Name), I x_.Foe, I x_.Until]), (1, .row 24 3 (l.flatMap encGLock)), (2, .row 24 3 ((addL l x_.Name x_.Foe x_.Until).1.flatMap encGLock)), (3, .row 24 3 (c1.flatMap encGLock))], 4, [], 197, 0⟩ : St)) (fun w_ : Nat × (List GLock) => match w_ with | (k1, c1) => tells37_L1 (((cleanL l now).length) - k1) k1 c1 = tells37_L1 (((cleanL l now).length) - 0) 0 (cleanL l now) ∧ k1 ≤ (cleanL l now).length ∧ c1.length = (cleanL l now).length) (fun w_ : Nat × (List GLock) => match w_ with | (k1, c1) => (cleanL l now).length - k1) (0, (cleanL l now)) (⟨rfl, (by first | omega | (simp; omega)), rfl⟩) ?_ (fun w_ hh_ => ?_)
       ·exact (Trans.ren [] (by decide +kernel) (by decide +kernel) rfl ⟨⟨rfl, rfl⟩, ⟨rfl, rfl⟩, ⟨rfl, rfl⟩, ⟨rfl, rfl⟩, ⟨rfl, rfl⟩, ⟨rfl, rfl⟩, ⟨rfl, rfl⟩, ⟨rfl, rfl⟩, ⟨rfl, rfl⟩, ⟨rfl, rfl⟩, trivial⟩ ⟨⟨rfl, rfl, rfl⟩, ⟨rfl, rfl, rfl⟩, ⟨rfl, rfl, rfl⟩, ⟨rfl, rfl, rfl⟩, trivial⟩ (by decide))
       obtain ⟨k1, c1⟩ := w_
       obtain ⟨hI1, hb1, hv1⟩ := hh_
       show Walks Tryd.prog _ _ (⟨[(0, .pv (.slc l.length l_f (l.flatMap encGLock))), (2, I now), (3, .pv (.slc names.length names_f (encS names))), (5, .ptr 0 0), (9, B (small37)), (12, .ref 1 3 0 l.length), (13, .ref 2 3 0 (addL l x_.Name x_.Foe x_.Until).1.length), (21, .ref 3 3 0 c1.length), (22, B same_108), (23, I k1)], [(0, .box [.pv (.str x_.Name), I x_.Foe, I x_.Until]), (1, .row 24 3 (l.flatMap encGLock)), (2, .row 24 3 ((addL l x_.Name x_.Foe x_.Until).1.flatMap encGLock)), (3, .row 24 3 (c1.flatMap encGLock))], 4, [], 197, 0⟩ : St)
       refine sem_seq (sem_seq (sem_region rfl (step_r rfl rfl trivial (step_r rfl rfl trivial (step_r rfl rfl trivial (step_bin rfl rfl rfl rfl rfl trivial (step_nil (seqK_n ?_))))))))
       refine sem_cond rfl (fun h60 => ?_) (fun h60 => ?_)
       ·have g60 : (k1 : Int) < c1.length := of_decide_eq_true h60
        have hm1 : (cleanL l now).length - k1 = ((cleanL l now).length - (k1 + 1)) + 1 := by omega
        refine sem_skip (seqK_n (sem_seq (sem_block (sem_region rfl (step_r rfl rfl trivial (step_r rfl rfl trivial ?_))))))
        have jk61 : k1 < c1.length := by first | assumption | omega | (simp only [List.length_set, List.length_append]; omega) | (simp only [IntKind.wrap_i64] at *; omega) | (simp; omega) | simp_all
        refine step_idxR (k := k1) rfl rfl rfl rfl jk61 rfl (step_r rfl rfl (by decide) ?_)
        refine step_storeR rfl rfl rfl rfl (by first | decide | (have := flat_lt (s := 3) (enc := encGLock) (fun _ => rfl) jk61; show k1 * 3 + 1 < _; omega)) (flat_set (enc := encGLock) (s := 3) (y := { (c1.getD k1 default) with Foe := (-7) }) (fun _ => rfl) (get_getD jk61) (by decide) rfl) (.inl rfl) rfl ?_
        refine step_nil (blkK_n (seqK_n (sem_region rfl (step_r rfl rfl trivial (step_bin rfl rfl rfl rfl rfl trivial (step_r rfl rfl trivial (step_nil ?_)))))))
        have e63 : tells37_L1 (((cleanL l now).length) - k1) k1 c1 = tells37_L1 (((cleanL l now).length) - (k1 + 1)) (k1 + 1) (c1.set k1 { (c1.getD k1 default) with Foe := (-7) }) := by
         rfl
        exact lup_againT (k1 + 1, (c1.set k1 { (c1.getD k1 default) with Foe := (-7) })) ⟨e63.symm.trans hI1, (by omega), by first | omega | assumption | (simp only [List.length_append, List.length_cons, List.length_nil, List.length_set]; omega) | (simp; omega) | grind⟩ (by show (cleanL l now).length - (k1 + 1) < (cleanL l now).length - k1; omega) (Trans.ren [] (by decide +kernel) (by decide +kernel) rfl ⟨⟨rfl, rfl⟩, ⟨rfl, rfl⟩, ⟨rfl, rfl⟩, ⟨rfl, rfl⟩, ⟨rfl, rfl⟩, ⟨rfl, rfl⟩, ⟨rfl, rfl⟩, ⟨congrArg (fun n => some (AV.ref 3 3 0 n)) (by first | rfl | simp only [List.length_set] | simp | omega | (simp; omega)), rfl⟩, ⟨rfl, rfl⟩, ⟨congrArg (fun n => some (I n)) (wrapI (k := k1) (by first | omega | (simp; omega))), rfl⟩, trivial⟩ ⟨⟨rfl, rfl, rfl⟩, ⟨rfl, rfl, rfl⟩, ⟨rfl, rfl, rfl⟩, ⟨rfl, rfl, rfl⟩, trivial⟩ (by decide))
       ·have g60 : ¬ ((k1 : Int) < c1.length) := of_decide_eq_false h60
        have hm1 : (cleanL l now).length - k1 = 0 := by omega
        refine sem_exit (seqK_e (lupK_e (blkK_t rfl ?_)))
        have e64 : tells37_L1 (((cleanL l now).length) - 0) 0 (cleanL l now) = () := by
         rfl
        exact cutW_n () e64 (Trans.ren [] (by decide +kernel) (by decide +kernel) rfl ⟨⟨rfl, rfl⟩, ⟨rfl, rfl⟩, ⟨rfl, rfl⟩, ⟨rfl, rfl⟩, ⟨rfl, rfl⟩, ⟨rfl, rfl⟩, ⟨rfl, rfl⟩, ⟨rfl, rfl⟩, trivial⟩ ⟨⟨rfl, rfl, rfl⟩, ⟨rfl, rfl, rfl⟩, ⟨rfl, rfl, rfl⟩, trivial⟩ (by decide))
      ·rintro ⟨⟩ (hJ58 : tells37_L1 (((cleanL l now).length) - 0) 0 (cleanL l now) = ())
       show seqK _ _ _ .normal (⟨[(0, .pv (.slc l.length l_f (l.flatMap encGLock))), (2, I now), (3, .pv (.slc names.length names_f (encS names))), (5, .ptr 0 0), (9, B (small37)), (12, .ref 1 3 0 l.length), (13, .ref 2 3 0 (addL l x_.Name x_.Foe x_.Until).1.length), (22, B same_108)], [(0, .box [.pv (.str x_.Name), I x_.Foe, I x_.Until]), (1, .row 24 3 (l.flatMap encGLock)), (2, .row 24 3 ((addL l x_.Name x_.Foe x_.Until).1.flatMap encGLock))], 3, [], 197, 0⟩ : St)
       refine seqK_n (sem_seq (sem_seq (sem_region rfl (step_r rfl rfl trivial (step_nil (seqK_n ?_))))))
       refine sem_cutW (fun w_ : Unit => match w_ with | () => (⟨[(0, .pv (.slc l.length l_f (l.flatMap encGLock))), (2, I now), (3, .pv (.slc names.length names_f (encS names))), (5, .ptr 0 0), (9, B (small37)), (12, .ref 1 3 0 l.length), (22, B same_108)], [(0, .box [.pv (.str x_.Name), I x_.Foe, I x_.Until]), (1, .row 24 3 (l.flatMap encGLock))], 2, [], 197, 0⟩ : St)) (fun w_ => tells37_L2 (((addL l x_.Name x_.Foe x_.Until).1.length) - 0) 0 ((addL l x_.Name x_.Foe x_.Until).1) = w_) ?_ ?_
       ·refine sem_block ?_
        refine sem_loopT (fun w_ : Nat × (List GLock) => match w_ with | (k2, a2) => (⟨[(0, .pv (.slc l.length l_f (l.flatMap encGLock))), (2, I now), (3, .pv (.slc names.length names_f (encS names))), (5, .ptr 0 0), (9, B (small37)), (12, .ref 1 3 0 l.length), (13, .ref 2 3 0 a2.length), (22, B same_108), (24, I k2)], [(0, .box [.pv (.str x_.Name), I x_.Foe, I x_.Until]), (1, .row 24 3 (l.flatMap encGLock)), (2, .row 24 3 (a2.flatMap encGLock))], 3, [], 197, 0⟩ : St)) (fun w_ : Nat × (List GLock) => match w_ with | (k2, a2) => tells37_L2 (((addL l x_.Name x_.Foe x_.Until).1.length) - k2) k2 a2 = tells37_L2 (((addL l x_.Name x_.Foe x_.Until).1.length) - 0) 0 ((addL l x_.Name x_.Foe x_.Until).1) ∧ k2 ≤ (addL l x_.Name x_.Foe x_.Until).1.length ∧ a2.length = (addL l x_.Name x_.Foe x_.Until).1.length) (fun w_ : Nat × (List GLock) => match w_ with | (k2, a2) => (addL l x_.Name x_.Foe x_.Until).1.length - k2) (0, (addL l x_.Name x_.Foe x_.Until).1) (⟨rfl, (by first | omega | (simp; omega)), rfl⟩) ?_ (fun w_ hh_ => ?_)
        ·exact (Trans.ren [] (by decide +kernel) (by decide +kernel) rfl ⟨⟨rfl, rfl⟩, ⟨rfl, rfl⟩, ⟨rfl, rfl⟩, ⟨rfl, rfl⟩, ⟨rfl, rfl⟩, ⟨rfl, rfl⟩, ⟨rfl, rfl⟩, ⟨rfl, rfl⟩, ⟨rfl, rfl⟩, trivial⟩ ⟨⟨rfl, rfl, rfl⟩, ⟨rfl, rfl, rfl⟩, ⟨rfl, rfl, rfl⟩, trivial⟩ (by decide))
        obtain ⟨k2, a2⟩ := w_
        obtain ⟨hI2, hb2, hv2⟩ := hh_
        show Walks Tryd.prog _ _ (⟨[(0, .pv (.slc l.length l_f (l.flatMap encGLock))), (2, I now), (3, .pv (.slc names.length names_f (encS names))), (5, .ptr 0 0), (9, B (small37)), (12, .ref 1 3 0 l.length), (13, .ref 2 3 0 a2.length), (22, B same_108), (24, I k2)], [(0, .box [.pv (.str x_.Name), I x_.Foe, I x_.Until]), (1, .row 24 3 (l.flatMap encGLock)), (2, .row 24 3 (a2.flatMap encGLock))], 3, [], 197, 0⟩ : St)
        refine sem_seq (sem_seq (sem_region rfl (step_r rfl rfl trivial (step_r rfl rfl trivial (step_r rfl rfl trivial (step_bin rfl rfl rfl rfl rfl trivial (step_nil (seqK_n ?_))))))))
        refine sem_cond rfl (fun h67 => ?_) (fun h67 => ?_)
        ·have g67 : (k2 : Int) < a2.length := of_decide_eq_true h67
         have hm2 : (addL l x_.Name x_.Foe x_.Until).1.length - k2 = ((addL l x_.Name x_.Foe x_.Until).1.length - (k2 + 1)) + 1 := by omega
         refine sem_skip (seqK_n (sem_seq (sem_block (sem_region rfl (step_r rfl rfl trivial (step_r rfl rfl trivial ?_))))))
         have jk68 : k2 < a2.length := by first | assumption | omega | (simp only [List.length_set, List.length_append]; omega) | (simp only [IntKind.wrap_i64] at *; omega) | (simp; omega) | simp_all
         refine step_idxR (k := k2) rfl rfl rfl rfl jk68 rfl (step_r rfl rfl (by decide) ?_)
         refine step_storeR rfl rfl rfl rfl (by first | decide | (have := flat_lt (s := 3) (enc := encGLock) (fun _ => rfl) jk68; show k2 * 3 + 1 < _; omega)) (flat_set (enc := encGLock) (s := 3) (y := { (a2.getD k2 default) with Foe := (-7) }) (fun _ => rfl) (get_getD jk68) (by decide) rfl) (.inl rfl) rfl ?_
         refine step_nil (blkK_n (seqK_n (sem_region rfl (step_r rfl rfl trivial (step_bin rfl rfl rfl rfl rfl trivial (step_r rfl rfl trivial (step_nil ?_)))))))
         have e70 : tells37_L2 (((addL l x_.Name x_.Foe x_.Until).1.length) - k2) k2 a2 = tells37_L2 (((addL l x_.Name x_.Foe x_.Until).1.length) - (k2 + 1)) (k2 + 1) (a2.set k2 { (a2.getD k2 default) with Foe := (-7) }) := by
          rfl
         exact lup_againT (k2 + 1, (a2.set k2 { (a2.getD k2 default) with Foe := (-7) })) ⟨e70.symm.trans hI2, (by omega), by first | omega | assumption | (simp only [List.length_append, List.length_cons, List.length_nil, List.length_set]; omega) | (simp; omega) | grind⟩ (by show (addL l x_.Name x_.Foe x_.Until).1.length - (k2 + 1) < (addL l x_.Name x_.Foe x_.Until).1.length - k2; omega) (Trans.ren [] (by decide +kernel) (by decide +kernel) rfl ⟨⟨rfl, rfl⟩, ⟨rfl, rfl⟩, ⟨rfl, rfl⟩, ⟨rfl, rfl⟩, ⟨rfl, rfl⟩, ⟨rfl, rfl⟩, ⟨congrArg (fun n => some (AV.ref 2 3 0 n)) (by first | rfl | simp only [List.length_set] | simp | omega | (simp; omega)), rfl⟩, ⟨rfl, rfl⟩, ⟨congrArg (fun n => some (I n)) (wrapI (k := k2) (by first | omega | (simp; omega))), rfl⟩, trivial⟩ ⟨⟨rfl, rfl, rfl⟩, ⟨rfl, rfl, rfl⟩, ⟨rfl, rfl, rfl⟩, trivial⟩ (by decide))
        ·have g67 : ¬ ((k2 : Int) < a2.length) := of_decide_eq_false h67
         have hm2 : (addL l x_.Name x_.Foe x_.Until).1.length - k2 = 0 := by omega
         refine sem_exit (seqK_e (lupK_e (blkK_t rfl ?_)))
         have e71 : tells37_L2 (((addL l x_.Name x_.Foe x_.Until).1.length) - 0) 0 ((addL l x_.Name x_.Foe x_.Until).1) = () := by
          rfl
         exact cutW_n () e71 (Trans.ren [] (by decide +kernel) (by decide +kernel) rfl ⟨⟨rfl, rfl⟩, ⟨rfl, rfl⟩, ⟨rfl, rfl⟩, ⟨rfl, rfl⟩, ⟨rfl, rfl⟩, ⟨rfl, rfl⟩, ⟨rfl, rfl⟩, trivial⟩ ⟨⟨rfl, rfl, rfl⟩, ⟨rfl, rfl, rfl⟩, trivial⟩ (by decide))
       ·rintro ⟨⟩ (hJ65 : tells37_L2 (((addL l x_.Name x_.Foe x_.Until).1.length) - 0) 0 ((addL l x_.Name x_.Foe x_.Until).1) = ())
        show seqK _ _ _ .normal (⟨[(0, .pv (.slc l.length l_f (l.flatMap encGLock))), (2, I now), (3, .pv (.slc names.length names_f (encS names))), (5, .ptr 0 0), (9, B (small37)), (12, .ref 1 3 0 l.length), (22, B same_108)], [(0, .box [.pv (.str x_.Name), I x_.Foe, I x_.Until]), (1, .row 24 3 (l.flatMap encGLock))], 2, [], 197, 0⟩ : St)
        refine seqK_n (sem_seq ?_)
        refine sem_drawn rfl (by decide +kernel) rfl ?_
        refine step_r rfl rfl trivial (step_r rfl rfl trivial ?_)
        refine step_gs rfl (fun h73 => ?_) (fun h73 => ?_)
        ·have g73 : small37 = true := h73
         refine step_g1 rfl h73 (step_r rfl rfl trivial (step_pickT rfl h73 rfl rfl (step_r rfl rfl trivial ?_)))
         refine step_gs rfl (fun h75 => ?_) (fun h75 => ?_)
         ·have g75 : same_108 = true := h75
          refine step_g1 rfl h75 (step_r rfl rfl trivial (step_g1 rfl h75 ?_))
          refine step_callJ (Hin := [.row _ _ _]) (H' := [(0, _), (1, _)]) (nx' := 2) [1] rfl rfl rfl rfl rfl rfl rfl rfl rfl (by (repeat' apply And.intro) <;> first | trivial | rfl | exact flat_len (s := 3) (enc := encGLock) (fun _ => rfl) _ | exact flat_len (fun _ => rfl) _ | exact encI_len _ | exact encS_len _ | exact Nat.le_of_ble_eq_true rfl | assumption) (rightL_ok l false) rfl (by decide) rfl rfl trivial rfl rfl rfl rfl ?_
          refine step_g1 rfl h75 (step_r rfl rfl trivial (step_g1 rfl h75 (step_call rfl rfl rfl rfl (rightR_ok l l_f (by first | assumption | exact few37_n (by assumption) | exact hN)) rfl rfl rfl (step_g1 rfl h75 (step_bin rfl rfl rfl rfl rfl trivial (step_pickT rfl h75 rfl rfl (step_r rfl rfl trivial ?_)))))))
          refine step_gs rfl (fun h77 => ?_) (fun h77 => ?_)
          ·have g77 : (rightL l) = (rightR l) := beq_t h77
           refine step_g1 rfl h77 (step_r rfl rfl trivial (step_g1 rfl h77 (step_r rfl rfl (by decide) (step_g1 rfl h77 (step_r rfl rfl trivial (step_g1 rfl h77 (step_r rfl rfl trivial (step_g1 rfl h77 ?_))))))))
           refine step_callJ (Hin := [.row _ _ _]) (out' := .ref 2 _ _ _) (H' := [(2, .row _ _ _), (0, _), (1, _)]) (nx' := 3) [1] rfl rfl rfl rfl rfl rfl rfl rfl rfl (by (repeat' apply And.intro) <;> first | trivial | rfl | exact flat_len (s := 3) (enc := encGLock) (fun _ => rfl) _ | exact flat_len (fun _ => rfl) _ | exact encI_len _ | exact encS_len _ | exact Nat.le_of_ble_eq_true rfl | assumption) (ofL_ok l false x_.Name now (by first | omega | (simp; done) | (simp only [IntKind.wrap_i64]; omega) | (simp only [List.length_nil, List.length_cons] at *; omega) | (simp only [IntKind.wrap_i64] at *; omega) | (simp; omega))) rfl (by decide) rfl rfl ⟨encI_solid, trivial⟩ rfl rfl rfl rfl ?_
           refine step_g1 rfl h77 (step_r rfl rfl trivial (step_g1 rfl h77 (step_r rfl rfl (by decide) (step_g1 rfl h77 (step_r rfl rfl trivial (step_g1 rfl h77 (step_r rfl rfl trivial (step_g1 rfl h77 ?_))))))))
           refine step_callN (out' := .ref 3 _ _ _) (H' := [(3, .row _ _ _), (2, _), (0, _), (1, _)]) (nx' := 4) rfl rfl rfl rfl rfl rfl rfl (by (repeat' apply And.intro) <;> first | trivial | rfl | exact flat_len (fun _ => rfl) _ | exact encI_len _ | exact encS_len _ | exact Nat.le_of_ble_eq_true rfl | assumption) (ofLR_ok l false x_.Name now (by first | omega | (simp; done) | (simp only [IntKind.wrap_i64]; omega) | (simp only [List.length_nil, List.length_cons] at *; omega) | (simp only [IntKind.wrap_i64] at *; omega) | (simp; omega))) rfl rfl rfl rfl ?_
           refine step_g1 rfl h77 ?_
           refine step_callJ (Hin := [.row _ _ _, .row _ _ _]) (H' := [(3, _), (2, _), (0, _), (1, _)]) (nx' := 4) [2, 3] rfl rfl rfl rfl rfl rfl rfl rfl rfl (by (repeat' apply And.intro) <;> first | trivial | rfl | exact flat_len (fun _ => rfl) _ | exact encI_len _ | exact encS_len _ | exact Nat.le_of_ble_eq_true rfl | assumption) (sameIR_ok (ofL l x_.Name now) false (ofLR l x_.Name now) false) rfl (by decide) rfl rfl trivial rfl rfl rfl rfl ?_
           refine step_pickT rfl h77 rfl rfl (step_r rfl rfl trivial ?_)
           refine step_gs rfl (fun h80 => ?_) (fun h80 => ?_)
           ·have g80 : sameIR (ofL l x_.Name now) (ofLR l x_.Name now) = true := h80
            refine step_g1 rfl h80 (step_r rfl rfl trivial (step_g1 rfl h80 (step_r rfl rfl trivial (step_g1 rfl h80 (step_r rfl rfl (by decide) (step_g1 rfl h80 (step_r rfl rfl trivial (step_g1 rfl h80 (step_r rfl rfl trivial (step_g1 rfl h80 ?_))))))))))
            refine step_callJ (Hin := [.row _ _ _]) (out' := .ref 4 _ _ _) (H' := [(4, .row _ _ _), (3, _), (2, _), (0, _), (1, _)]) (nx' := 5) [1] rfl rfl rfl rfl rfl rfl rfl rfl rfl (by (repeat' apply And.intro) <;> first | trivial | rfl | exact flat_len (s := 3) (enc := encGLock) (fun _ => rfl) _ | exact flat_len (fun _ => rfl) _ | exact encI_len _ | exact encS_len _ | exact Nat.le_of_ble_eq_true rfl | assumption) (freeL_ok l false names false x_.Foe now (by first | omega | (simp; done) | (simp only [IntKind.wrap_i64]; omega) | (simp only [List.length_nil, List.length_cons] at *; omega) | (simp only [IntKind.wrap_i64] at *; omega) | (simp; omega))) rfl (by decide) rfl rfl ⟨encS_solid, trivial⟩ rfl rfl rfl rfl ?_
            refine step_g1 rfl h80 (step_r rfl rfl trivial (step_g1 rfl h80 (step_r rfl rfl trivial (step_g1 rfl h80 (step_r rfl rfl (by decide) (step_g1 rfl h80 (step_r rfl rfl trivial (step_g1 rfl h80 (step_r rfl rfl trivial (step_g1 rfl h80 ?_))))))))))
            refine step_callN (out' := .ref 5 _ _ _) (H' := [(5, .row _ _ _), (4, _), (3, _), (2, _), (0, _), (1, _)]) (nx' := 6) rfl rfl rfl rfl rfl rfl rfl (by (repeat' apply And.intro) <;> first | trivial | rfl | exact flat_len (fun _ => rfl) _ | exact encI_len _ | exact encS_len _ | exact Nat.le_of_ble_eq_true rfl | assumption) (freeLR_ok l false names false x_.Foe now (by first | omega | (simp; done) | (simp only [IntKind.wrap_i64]; omega) | (simp only [List.length_nil, List.length_cons] at *; omega) | (simp only [IntKind.wrap_i64] at *; omega) | (simp; omega))) rfl rfl rfl rfl ?_
            refine step_g1 rfl h80 ?_
            refine step_callJ (Hin := [.row _ _ _, .row _ _ _]) (H' := [(5, _), (4, _), (3, _), (2, _), (0, _), (1, _)]) (nx' := 6) [4, 5] rfl rfl rfl rfl rfl rfl rfl rfl rfl (by (repeat' apply And.intro) <;> first | trivial | rfl | exact flat_len (fun _ => rfl) _ | exact encI_len _ | exact encS_len _ | exact Nat.le_of_ble_eq_true rfl | assumption) (sameTR_ok (freeL l names x_.Foe now) false (freeLR l names x_.Foe now) false) rfl (by decide) rfl rfl trivial rfl rfl rfl rfl ?_
            refine step_pickT rfl h80 rfl rfl (step_r rfl rfl trivial ?_)
            refine step_gs rfl (fun h82 => ?_) (fun h82 => ?_)
            ·have g82 : sameTR (freeL l names x_.Foe now) (freeLR l names x_.Foe now) = true := h82
             refine step_g1 rfl h82 (step_r rfl rfl trivial (step_g1 rfl h82 (step_r rfl rfl trivial (step_g1 rfl h82 ?_))))
             refine step_callJ (Hin := [.row _ _ _]) (H' := [(5, _), (4, _), (3, _), (2, _), (0, _), (1, _)]) (nx' := 6) [1] rfl rfl rfl rfl rfl rfl rfl rfl rfl (by (repeat' apply And.intro) <;> first | trivial | rfl | exact flat_len (s := 3) (enc := encGLock) (fun _ => rfl) _ | exact flat_len (fun _ => rfl) _ | exact encI_len _ | exact encS_len _ | exact Nat.le_of_ble_eq_true rfl | assumption) (sameLR_ok l false l false) rfl (by decide) rfl rfl trivial rfl rfl rfl rfl ?_
             refine step_pickT rfl h82 rfl rfl (step_r rfl rfl trivial (step_nil (seqK_n (sem_ret ?_))))
             have e84 : tells37 l x_ now names = (sameLR l l) := by
              unfold tells37
              try dsimp only
              rewrite [hJ2]
              try dsimp only
              rewrite [hJ8]
              try dsimp only
              rewrite [if_pos g26, if_neg g30, hJ43]
              try dsimp only
              rewrite [if_pos g73, if_pos g75, if_pos g77, if_pos g80, if_pos g82]
              all_goals rfl
             rw [e84]
             exact answersR rfl ⟨trivial, trivial⟩ (rfl) rfl
            ·have g82 : ¬ (sameTR (freeL l names x_.Foe now) (freeLR l names x_.Foe now) = true) := boo_f h82
             refine step_g0 rfl h82 rfl (step_g0 rfl h82 rfl (step_g0 rfl h82 rfl (step_pickF rfl h82 rfl rfl (step_r rfl rfl trivial (step_nil (seqK_n (sem_ret ?_)))))))
             have e85 : tells37 l x_ now names = false := by
              unfold tells37
              try dsimp only
              rewrite [hJ2]
              try dsimp only
              rewrite [hJ8]
              try dsimp only
              rewrite [if_pos g26, if_neg g30, hJ43]
              try dsimp only
              rewrite [if_pos g73, if_pos g75, if_pos g77, if_pos g80, if_neg g82]
              all_goals rfl
             rw [e85]
             exact answersR rfl ⟨trivial, trivial⟩ (rfl) rfl
           ·have g80 : ¬ (sameIR (ofL l x_.Name now) (ofLR l x_.Name now) = true) := boo_f h80
            refine step_g0 rfl h80 rfl (step_g0 rfl h80 rfl (step_g0 rfl h80 rfl (step_g0 rfl h80 rfl (step_g0 rfl h80 rfl (step_g0 rfl h80 rfl (step_g0 rfl h80 rfl (step_g0 rfl h80 rfl (step_g0 rfl h80 rfl (step_g0 rfl h80 rfl (step_g0 rfl h80 rfl (step_g0 rfl h80 rfl ?_)))))))))))
            refine step_g0 rfl h80 rfl (step_pickF rfl h80 rfl rfl (step_r rfl rfl trivial (step_gf rfl rfl (step_gf rfl rfl (step_gf rfl rfl (step_r rfl rfl trivial (step_r rfl rfl trivial (step_nil (seqK_n (sem_ret ?_))))))))))
            have e86 : tells37 l x_ now names = false := by
             unfold tells37
             try dsimp only
             rewrite [hJ2]
             try dsimp only
             rewrite [hJ8]
             try dsimp only
             rewrite [if_pos g26, if_neg g30, hJ43]
             try dsimp only
             rewrite [if_pos g73, if_pos g75, if_pos g77, if_neg g80]
             all_goals rfl
            rw [e86]
            exact answersR rfl ⟨trivial, trivial⟩ (rfl) rfl
          ·have g77 : ¬ ((rightL l) = (rightR l)) := beq_f h77
           refine step_g0 rfl h77 rfl (step_g0 rfl h77 rfl (step_g0 rfl h77 rfl (step_g0 rfl h77 rfl (step_g0 rfl h77 rfl (step_g0 rfl h77 rfl (step_g0 rfl h77 rfl (step_g0 rfl h77 rfl (step_g0 rfl h77 rfl (step_g0 rfl h77 rfl (step_g0 rfl h77 rfl (step_pickF rfl h77 rfl rfl ?_)))))))))))
           refine step_r rfl rfl trivial (step_gf rfl rfl (step_gf rfl rfl (step_gf rfl rfl (step_gf rfl rfl (step_gf rfl rfl (step_gf rfl rfl (step_gf rfl rfl (step_gf rfl rfl (step_gf rfl rfl (step_gf rfl rfl (step_gf rfl rfl ?_)))))))))))
           refine step_gf rfl rfl (step_gf rfl rfl (step_r rfl rfl trivial (step_r rfl rfl trivial (step_gf rfl rfl (step_gf rfl rfl (step_gf rfl rfl (step_r rfl rfl trivial (step_r rfl rfl trivial (step_nil (seqK_n (sem_ret ?_)))))))))))
           have e87 : tells37 l x_ now names = false := by
            unfold tells37
            try dsimp only
            rewrite [hJ2]
            try dsimp only
            rewrite [hJ8]
            try dsimp only
            rewrite [if_pos g26, if_neg g30, hJ43]
            try dsimp only
            rewrite [if_pos g73, if_pos g75, if_neg g77]
            all_goals rfl
           rw [e87]
           exact answersR rfl ⟨trivial, trivial⟩ (rfl) rfl
         ·have g75 : ¬ (same_108 = true) := boo_f h75
          refine step_g0 rfl h75 rfl (step_g0 rfl h75 rfl (step_g0 rfl h75 rfl (step_g0 rfl h75 rfl (step_g0 rfl h75 rfl (step_pickF rfl h75 rfl rfl (step_r rfl rfl trivial (step_gf rfl rfl (step_gf rfl rfl (step_gf rfl rfl (step_gf rfl rfl (step_gf rfl rfl ?_)))))))))))
          refine step_gf rfl rfl (step_gf rfl rfl (step_gf rfl rfl (step_gf rfl rfl (step_gf rfl rfl (step_gf rfl rfl (step_r rfl rfl trivial (step_r rfl rfl trivial (step_gf rfl rfl (step_gf rfl rfl (step_gf rfl rfl (step_gf rfl rfl ?_)))))))))))
          refine step_gf rfl rfl (step_gf rfl rfl (step_gf rfl rfl (step_gf rfl rfl (step_gf rfl rfl (step_gf rfl rfl (step_gf rfl rfl (step_gf rfl rfl (step_gf rfl rfl (step_r rfl rfl trivial (step_r rfl rfl trivial (step_gf rfl rfl ?_)))))))))))
          refine step_gf rfl rfl (step_gf rfl rfl (step_r rfl rfl trivial (step_r rfl rfl trivial (step_nil (seqK_n (sem_ret ?_))))))
          have e88 : tells37 l x_ now names = false := by
           unfold tells37
           try dsimp only
           rewrite [hJ2]
           try dsimp only
           rewrite [hJ8]
           try dsimp only
           rewrite [if_pos g26, if_neg g30, hJ43]
           try dsimp only
           rewrite [if_pos g73, if_neg g75]
           all_goals rfl
          rw [e88]
          exact answersR rfl ⟨trivial, trivial⟩ (rfl) rfl
        ·have g73 : ¬ (small37 = true) := boo_f h73
         refine step_g0 rfl h73 rfl (step_pickF rfl h73 rfl rfl (step_r rfl rfl trivial (step_gf rfl rfl (step_gf rfl rfl (step_gf rfl rfl (step_gf rfl rfl (step_gf rfl rfl (step_r rfl rfl trivial (step_r rfl rfl trivial (step_gf rfl rfl (step_gf rfl rfl ?_)))))))))))
         refine step_gf rfl rfl (step_gf rfl rfl (step_gf rfl rfl (step_gf rfl rfl (step_gf rfl rfl (step_gf rfl rfl (step_gf rfl rfl (step_gf rfl rfl (step_gf rfl rfl (step_r rfl rfl trivial (step_r rfl rfl trivial (step_gf rfl rfl ?_)))))))))))
         refine step_gf rfl rfl (step_gf rfl rfl (step_gf rfl rfl (step_gf rfl rfl (step_gf rfl rfl (step_gf rfl rfl (step_gf rfl rfl (step_gf rfl rfl (step_gf rfl rfl (step_gf rfl rfl (step_gf rfl rfl (step_gf rfl rfl ?_)))))))))))
         refine step_r rfl rfl trivial (step_r rfl rfl trivial (step_gf rfl rfl (step_gf rfl rfl (step_gf rfl rfl (step_r rfl rfl trivial (step_r rfl rfl trivial (step_nil (seqK_n (sem_ret ?_)))))))))
         have e89 : tells37 l x_ now names = false := by
          unfold tells37
          try dsimp only
          rewrite [hJ2]
          try dsimp only
          rewrite [hJ8]
          try dsimp only
          rewrite [if_pos g26, if_neg g30, hJ43]
          try dsimp only
          rewrite [if_neg g73]
          all_goals rfl
         rw [e89]
         exact answersR rfl ⟨trivial, trivial⟩ (rfl) rfl
end Go.Proofs.YtnboadipofkcjaaDoor

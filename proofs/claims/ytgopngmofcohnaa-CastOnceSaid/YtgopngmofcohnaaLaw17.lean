import Derived.Test.YtgopngmofcohnaaCast
namespace Go.Proofs.Ytgopngmofcohnaa
open Go Go.RowKit Go.Proofs.YtgopngmofcohnaaVm
attribute [local irreducible] opsWp AnswersE OpsS
set_option maxHeartbeats 400000
set_option maxRecDepth 100000
set_option linter.all false
theorem small17_ok  : Ok Try.prog 35 [] [] (B true) [] [] := by
 refine ok_of_sem Try.func35 rfl ?_
 show Walks Try.prog _ _ ⟨[], [], 0, [], 100, 0⟩
 refine sem_seq ?_
 refine sem_region rfl ?_
 refine step_r rfl rfl trivial ?_
 refine step_nil ?_
 refine seqK_n ?_
 refine sem_seq ?_
 refine sem_region rfl ?_
 refine step_r (v := (.agg [_, _, _, _, _, _, _, _])) rfl rfl trivial ?_
 refine step_n (o := .box [_, _, _, _, _, _, _, _]) (nx' := 1) rfl rfl rfl trivial ?_
 refine step_store (H' := [(0, .box [_, _, _, _, _, _, _, _])]) rfl rfl rfl rfl rfl rfl (Nat.le_of_ble_eq_true rfl) (.inl rfl) rfl ?_
 refine step_nil ?_
 refine seqK_n ?_
 refine sem_seq ?_
 refine sem_region rfl ?_
 refine step_r (v := (.agg [_, _, _, _, _, _, _, _, _])) rfl rfl trivial ?_
 refine step_r (v := (.agg [_, _, _, _, _, _, _, _])) rfl rfl (Nat.le_of_ble_eq_true rfl) ?_
 refine step_callJ (Hin := []) (out' := .tup [(.agg [_, _, _, _, _, _, _, _, _]), _]) (H' := [(0, .box [_, _, _, _, _, _, _, _])]) (nx' := 1) [] rfl rfl rfl rfl rfl rfl rfl rfl rfl (by (repeat' apply And.intro) <;> first | trivial | rfl | exact flat_len (fun _ => rfl) _ | exact encI_len _ | exact encB_len _ | exact encY_len _ | assumption) (begin_ok (⟨(⟨0, 0, 0, 0⟩ : GCast), (⟨0, 0, 0, 0⟩ : GCast), 0⟩ : GCasting) (⟨4, 5, 0, 0, 0, 0, false, []⟩ : GAbility) 9 10) rfl (by decide) rfl rfl trivial rfl rfl rfl rfl ?_
 refine step_r rfl rfl trivial ?_
 refine step_r rfl rfl trivial ?_
 refine step_r rfl rfl trivial ?_
 refine step_n (o := .box [_, _, _, _, _, _, _, _, _]) (nx' := 2) rfl rfl rfl trivial ?_
 refine step_store (H' := [(1, .box [_, _, _, _, _, _, _, _, _]), (0, .box [_, _, _, _, _, _, _, _])]) rfl rfl rfl rfl rfl rfl (Nat.le_of_ble_eq_true rfl) (.inl rfl) rfl ?_
 refine step_r rfl rfl trivial ?_
 refine step_nil ?_
 refine seqK_n ?_
 refine sem_seq ?_
 refine sem_region rfl ?_
 refine step_r (v := (.agg [_, _, _, _, _, _, _, _, _])) rfl rfl (Nat.le_of_ble_eq_true rfl) ?_
 refine step_r (v := (.agg [_, _, _, _, _, _, _, _])) rfl rfl (Nat.le_of_ble_eq_true rfl) ?_
 refine step_callJ (Hin := []) (out' := .tup [(.agg [_, _, _, _, _, _, _, _, _]), _]) (H' := [(1, .box [_, _, _, _, _, _, _, _, _]), (0, .box [_, _, _, _, _, _, _, _])]) (nx' := 2) [] rfl rfl rfl rfl rfl rfl rfl rfl rfl (by (repeat' apply And.intro) <;> first | trivial | rfl | exact flat_len (fun _ => rfl) _ | exact encI_len _ | exact encB_len _ | exact encY_len _ | assumption) (begin_ok ((beginC (⟨(⟨0, 0, 0, 0⟩ : GCast), (⟨0, 0, 0, 0⟩ : GCast), 0⟩ : GCasting) (⟨4, 5, 0, 0, 0, 0, false, []⟩ : GAbility) 9 10).1) (⟨4, 5, 0, 0, 0, 0, false, []⟩ : GAbility) 9 12) rfl (by decide) rfl rfl trivial rfl rfl rfl rfl ?_
 refine step_r rfl rfl trivial ?_
 refine step_r rfl rfl trivial ?_
 refine step_r rfl rfl trivial ?_
 refine step_n (o := .box [_, _, _, _, _, _, _, _, _]) (nx' := 3) rfl rfl rfl trivial ?_
 refine step_store (H' := [(2, .box [_, _, _, _, _, _, _, _, _]), (1, .box [_, _, _, _, _, _, _, _, _]), (0, .box [_, _, _, _, _, _, _, _])]) rfl rfl rfl rfl rfl rfl (Nat.le_of_ble_eq_true rfl) (.inl rfl) rfl ?_
 refine step_r rfl rfl trivial ?_
 refine step_nil ?_
 refine seqK_n ?_
 refine sem_seq ?_
 refine sem_region rfl ?_
 refine step_r (v := (.agg [_, _, _, _, _, _, _, _, _])) rfl rfl (Nat.le_of_ble_eq_true rfl) ?_
 refine step_r (v := (.agg [_, _, _, _, _, _, _, _])) rfl rfl (Nat.le_of_ble_eq_true rfl) ?_
 refine step_callJ (Hin := []) (out' := .tup [(.agg [_, _, _, _, _, _, _, _, _]), _]) (H' := [(2, .box [_, _, _, _, _, _, _, _, _]), (1, .box [_, _, _, _, _, _, _, _, _]), (0, .box [_, _, _, _, _, _, _, _])]) (nx' := 3) [] rfl rfl rfl rfl rfl rfl rfl rfl rfl (by (repeat' apply And.intro) <;> first | trivial | rfl | exact flat_len (fun _ => rfl) _ | exact encI_len _ | exact encB_len _ | exact encY_len _ | assumption) (begin_ok ((beginC (⟨(⟨0, 0, 0, 0⟩ : GCast), (⟨0, 0, 0, 0⟩ : GCast), 0⟩ : GCasting) (⟨4, 5, 0, 0, 0, 0, false, []⟩ : GAbility) 9 10).1) (⟨4, 5, 0, 0, 0, 0, false, []⟩ : GAbility) 8 13) rfl (by decide) rfl rfl trivial rfl rfl rfl rfl ?_
 refine step_r rfl rfl trivial ?_
 refine step_r rfl rfl trivial ?_
 refine step_r rfl rfl trivial ?_
 refine step_n (o := .box [_, _, _, _, _, _, _, _, _]) (nx' := 4) rfl rfl rfl trivial ?_
 refine step_store (H' := [(3, .box [_, _, _, _, _, _, _, _, _]), (2, .box [_, _, _, _, _, _, _, _, _]), (1, .box [_, _, _, _, _, _, _, _, _]), (0, .box [_, _, _, _, _, _, _, _])]) rfl rfl rfl rfl rfl rfl (Nat.le_of_ble_eq_true rfl) (.inl rfl) rfl ?_
 refine step_r rfl rfl trivial ?_
 refine step_nil ?_
 refine seqK_n ?_
 refine sem_seq ?_
 refine sem_region rfl ?_
 refine step_r (v := (.agg [_, _, _, _, _, _, _, _, _])) rfl rfl (Nat.le_of_ble_eq_true rfl) ?_
 refine step_callJ (Hin := []) (out' := .tup [(.agg [_, _, _, _, _, _, _, _, _]), .ref 4 _ _ _]) (H' := [(4, .row _ _ _), (3, .box [_, _, _, _, _, _, _, _, _]), (2, .box [_, _, _, _, _, _, _, _, _]), (1, .box [_, _, _, _, _, _, _, _, _]), (0, .box [_, _, _, _, _, _, _, _])]) (nx' := 5) [] rfl rfl rfl rfl rfl rfl rfl rfl rfl (by (repeat' apply And.intro) <;> first | trivial | rfl | exact flat_len (fun _ => rfl) _ | exact encI_len _ | exact encB_len _ | exact encY_len _ | assumption) (step_ok ((beginC ((beginC (⟨(⟨0, 0, 0, 0⟩ : GCast), (⟨0, 0, 0, 0⟩ : GCast), 0⟩ : GCasting) (⟨4, 5, 0, 0, 0, 0, false, []⟩ : GAbility) 9 10).1) (⟨4, 5, 0, 0, 0, 0, false, []⟩ : GAbility) 8 13).1) 20) rfl (by decide) rfl rfl ⟨encGCast_solid, trivial⟩ rfl rfl rfl rfl ?_
 refine step_r rfl rfl trivial ?_
 refine step_r rfl rfl trivial ?_
 refine step_r rfl rfl trivial ?_
 refine step_n (o := .box [_, _, _, _, _, _, _, _, _]) (nx' := 6) rfl rfl rfl trivial ?_
 refine step_store (H' := [(5, .box [_, _, _, _, _, _, _, _, _]), (4, .row _ _ _), (3, .box [_, _, _, _, _, _, _, _, _]), (2, .box [_, _, _, _, _, _, _, _, _]), (1, .box [_, _, _, _, _, _, _, _, _]), (0, .box [_, _, _, _, _, _, _, _])]) rfl rfl rfl rfl rfl rfl (Nat.le_of_ble_eq_true rfl) (.inl rfl) rfl ?_
 refine step_r rfl rfl trivial ?_
 refine step_nil ?_
 refine seqK_n ?_
 refine sem_seq ?_
 refine sem_region rfl ?_
 refine step_r (v := (.agg [_, _, _, _, _, _, _, _, _])) rfl rfl (Nat.le_of_ble_eq_true rfl) ?_
 refine step_call rfl rfl rfl rfl (stop_ok ((beginC ((beginC (⟨(⟨0, 0, 0, 0⟩ : GCast), (⟨0, 0, 0, 0⟩ : GCast), 0⟩ : GCasting) (⟨4, 5, 0, 0, 0, 0, false, []⟩ : GAbility) 9 10).1) (⟨4, 5, 0, 0, 0, 0, false, []⟩ : GAbility) 8 13).1)) rfl rfl rfl ?_
 refine step_r rfl rfl trivial ?_
 refine step_r rfl rfl trivial ?_
 refine step_r rfl rfl trivial ?_
 refine step_n (o := .box [_, _, _, _, _, _, _, _, _]) (nx' := 7) rfl rfl rfl trivial ?_
 refine step_store (H' := [(6, .box [_, _, _, _, _, _, _, _, _]), (5, .box [_, _, _, _, _, _, _, _, _]), (4, .row _ _ _), (3, .box [_, _, _, _, _, _, _, _, _]), (2, .box [_, _, _, _, _, _, _, _, _]), (1, .box [_, _, _, _, _, _, _, _, _]), (0, .box [_, _, _, _, _, _, _, _])]) rfl rfl rfl rfl rfl rfl (Nat.le_of_ble_eq_true rfl) (.inl rfl) rfl ?_
 refine step_r rfl rfl trivial ?_
 refine step_nil ?_
 refine seqK_n ?_
 refine sem_seq ?_
 refine sem_region rfl ?_
 refine step_r rfl rfl trivial ?_
 refine step_bin rfl rfl rfl rfl rfl trivial ?_
 refine step_r rfl rfl trivial ?_
 refine step_gs rfl (fun h6 => ?_) (fun h6 => ?_)
 ·have g6 := h6
  try simp at g6
  refine step_g1 rfl h6 ?_
  refine step_r rfl rfl (by decide) ?_
  refine step_g1 rfl h6 ?_
  refine step_r (v := (.agg [_, _, _, _])) rfl rfl (Nat.le_of_ble_eq_true rfl) ?_
  refine step_g1 rfl h6 ?_
  refine step_r (v := (.agg [_, _, _, _])) rfl rfl trivial ?_
  refine step_g1 rfl h6 ?_
  refine step_eqlA rfl rfl rfl (by kernel_rfl) rfl rfl rfl rfl rfl ?_
  refine step_pickT rfl h6 rfl rfl ?_
  refine step_r rfl rfl trivial ?_
  refine step_gs rfl (fun h8 => ?_) (fun h8 => ?_)
  ·have g8 := h8
   try simp at g8
   refine step_g1 rfl h8 ?_
   refine step_r rfl rfl (by decide) ?_
   refine step_g1 rfl h8 ?_
   refine step_r rfl rfl trivial ?_
   refine step_g1 rfl h8 ?_
   refine step_bin rfl rfl rfl rfl rfl trivial ?_
   refine step_pickT rfl h8 rfl rfl ?_
   refine step_r rfl rfl trivial ?_
   refine step_gs rfl (fun h10 => ?_) (fun h10 => ?_)
   ·have g10 := h10
    try simp at g10
    refine step_g1 rfl h10 ?_
    refine step_r rfl rfl trivial ?_
    refine step_g1 rfl h10 ?_
    refine step_bin rfl rfl rfl rfl rfl trivial ?_
    refine step_pickT rfl h10 rfl rfl ?_
    refine step_r rfl rfl trivial ?_
    refine step_gs rfl (fun h12 => ?_) (fun h12 => ?_)
    ·have g12 := h12
     try simp at g12
     refine step_g1 rfl h12 ?_
     refine step_r rfl rfl trivial ?_
     refine step_g1 rfl h12 ?_
     refine step_bin rfl rfl rfl rfl rfl trivial ?_
     refine step_pickT rfl h12 rfl rfl ?_
     refine step_r rfl rfl trivial ?_
     refine step_gs rfl (fun h14 => ?_) (fun h14 => ?_)
     ·have g14 := h14
      try simp at g14
      refine step_g1 rfl h14 ?_
      refine step_r rfl rfl (by decide) ?_
      refine step_g1 rfl h14 ?_
      refine step_r (v := (.agg [_, _, _, _])) rfl rfl (Nat.le_of_ble_eq_true rfl) ?_
      refine step_g1 rfl h14 ?_
      refine step_r (v := (.agg [_, _, _, _])) rfl rfl trivial ?_
      refine step_g1 rfl h14 ?_
      refine step_eqlA rfl rfl rfl (by kernel_rfl) rfl rfl rfl rfl rfl ?_
      refine step_pickT rfl h14 rfl rfl ?_
      refine step_r rfl rfl trivial ?_
      refine step_gs rfl (fun h16 => ?_) (fun h16 => ?_)
      ·have g16 := h16
       try simp at g16
       refine step_g1 rfl h16 ?_
       refine step_r rfl rfl trivial ?_
       refine step_g1 rfl h16 ?_
       refine step_r rfl rfl trivial ?_
       refine step_g1 rfl h16 ?_
       refine step_bin rfl rfl rfl rfl rfl trivial ?_
       refine step_pickT rfl h16 rfl rfl ?_
       refine step_r rfl rfl trivial ?_
       refine step_gs rfl (fun h18 => ?_) (fun h18 => ?_)
       ·have g18 := h18
        try simp at g18
        refine step_g1 rfl h18 ?_
        refine step_r (v := (.agg [_, _, _, _, _, _, _, _, _])) rfl rfl (Nat.le_of_ble_eq_true rfl) ?_
        refine step_g1 rfl h18 ?_
        refine step_r (v := (.agg [_, _, _, _, _, _, _, _, _])) rfl rfl trivial ?_
        refine step_g1 rfl h18 ?_
        refine step_eqlA rfl rfl rfl (by kernel_rfl) rfl rfl rfl rfl rfl ?_
        refine step_pickT rfl h18 rfl rfl ?_
        refine step_r rfl rfl trivial ?_
        refine step_gs rfl (fun h20 => ?_) (fun h20 => ?_)
        ·have g20 := h20
         try simp at g20
         refine step_g1 rfl h20 ?_
         refine step_r rfl rfl trivial ?_
         refine step_g1 rfl h20 ?_
         refine step_bin rfl rfl rfl rfl rfl trivial ?_
         refine step_pickT rfl h20 rfl rfl ?_
         refine step_r rfl rfl trivial ?_
         refine step_gs rfl (fun h22 => ?_) (fun h22 => ?_)
         ·have g22 := h22
          try simp at g22
          refine step_g1 rfl h22 ?_
          refine step_r (v := (.agg [_, _, _, _, _, _, _, _, _])) rfl rfl (Nat.le_of_ble_eq_true rfl) ?_
          refine step_g1 rfl h22 ?_
          refine step_r (v := (.agg [_, _, _, _, _, _, _, _, _])) rfl rfl trivial ?_
          refine step_g1 rfl h22 ?_
          refine step_eqlA rfl rfl rfl (by kernel_rfl) rfl rfl rfl rfl rfl ?_
          refine step_pickT rfl h22 rfl rfl ?_
          refine step_r rfl rfl trivial ?_
          refine step_gs rfl (fun h24 => ?_) (fun h24 => ?_)
          ·have g24 := h24
           try simp at g24
           refine step_g1 rfl h24 ?_
           refine step_r (v := (.agg [_, _, _, _, _, _, _, _, _])) rfl rfl (Nat.le_of_ble_eq_true rfl) ?_
           refine step_g1 rfl h24 ?_
           refine step_call rfl rfl rfl rfl (done_ok ((beginC ((beginC (⟨(⟨0, 0, 0, 0⟩ : GCast), (⟨0, 0, 0, 0⟩ : GCast), 0⟩ : GCasting) (⟨4, 5, 0, 0, 0, 0, false, []⟩ : GAbility) 9 10).1) (⟨4, 5, 0, 0, 0, 0, false, []⟩ : GAbility) 8 13).1)) rfl rfl rfl ?_
           refine step_g1 rfl h24 ?_
           refine step_bin rfl rfl rfl rfl rfl trivial ?_
           refine step_pickT rfl h24 rfl rfl ?_
           refine step_r rfl rfl trivial ?_
           refine step_gs rfl (fun h26 => ?_) (fun h26 => ?_)
           ·have g26 := h26
            try simp at g26
            refine step_g1 rfl h26 ?_
            refine step_r (v := (.agg [_, _, _, _, _, _, _, _, _])) rfl rfl (Nat.le_of_ble_eq_true rfl) ?_
            refine step_g1 rfl h26 ?_
            refine step_call rfl rfl rfl rfl (free_ok ((stepC ((beginC ((beginC (⟨(⟨0, 0, 0, 0⟩ : GCast), (⟨0, 0, 0, 0⟩ : GCast), 0⟩ : GCasting) (⟨4, 5, 0, 0, 0, 0, false, []⟩ : GAbility) 9 10).1) (⟨4, 5, 0, 0, 0, 0, false, []⟩ : GAbility) 8 13).1) 20).1) 18) rfl rfl rfl ?_
            refine step_pickT rfl h26 rfl rfl ?_
            refine step_r rfl rfl trivial ?_
            refine step_gs rfl (fun h28 => ?_) (fun h28 => ?_)
            ·have g28 := h28
             try simp at g28
             refine step_g1 rfl h28 ?_
             refine step_r (v := (.agg [_, _, _, _, _, _, _, _, _])) rfl rfl (Nat.le_of_ble_eq_true rfl) ?_
             refine step_g1 rfl h28 ?_
             refine step_call rfl rfl rfl rfl (rightC_ok ((beginC ((beginC (⟨(⟨0, 0, 0, 0⟩ : GCast), (⟨0, 0, 0, 0⟩ : GCast), 0⟩ : GCasting) (⟨4, 5, 0, 0, 0, 0, false, []⟩ : GAbility) 9 10).1) (⟨4, 5, 0, 0, 0, 0, false, []⟩ : GAbility) 8 13).1)) rfl rfl rfl ?_
             refine step_pickT rfl h28 rfl rfl ?_
             refine step_r rfl rfl trivial ?_
             refine step_nil ?_
             refine seqK_n ?_
             refine sem_ret ?_
             exact answersR rfl ⟨trivial, trivial⟩ (congrArg B (by decide +kernel)) rfl
            ·exact absurd h28 (by decide +kernel)
           ·exact absurd h26 (by decide +kernel)
          ·exact absurd h24 (by decide +kernel)
         ·exact absurd h22 (by decide +kernel)
        ·exact absurd h20 (by decide +kernel)
       ·exact absurd h18 (by decide +kernel)
      ·exact absurd h16 (by decide +kernel)
     ·exact absurd h14 (by decide +kernel)
    ·exact absurd h12 (by decide +kernel)
   ·exact absurd h10 (by decide +kernel)
  ·exact absurd h8 (by decide +kernel)
 ·exact absurd h6 (by decide +kernel)

def dep (s : GCasting) : Nat := if s.Now.Ability = 0 then 0 else if s.Next.Ability = 0 then 1 else 2
theorem dep_le (s : GCasting) : dep s ≤ 2 := by unfold dep; split <;> (try split) <;> omega
theorem dep_now {s : GCasting} (h : ¬ s.Now.Ability = 0) : dep (nowC s s.Next) < dep s := by
  unfold dep nowC
  rw [if_neg h]
  by_cases h2 : s.Next.Ability = 0
  · simp [h2]
  · simp [h2]
theorem stepF_stop {n : Nat} {s : GCasting} {t : Int} (h : s.Now.Ability = 0 ∨ s.Now.Until > t) : stepF n s t = (s, []) := by
  cases n with
  | zero => rfl
  | succ n => exact if_pos h
theorem stepF_go {n : Nat} {s : GCasting} {t : Int} (h : ¬ (s.Now.Ability = 0 ∨ s.Now.Until > t)) : stepF (n + 1) s t = ((stepF n (nowC s s.Next) t).1, s.Now :: (stepF n (nowC s s.Next) t).2) := if_neg h
theorem dep_step {t : Int} : ∀ {n : Nat} {s : GCasting}, dep (stepF n s t).1 ≤ dep s
  | 0, s => Nat.le_refl _
  | n + 1, s => by
    by_cases h : s.Now.Ability = 0 ∨ s.Now.Until > t
    · rw [stepF_stop h]; exact Nat.le_refl _
    · rw [stepF_go h]
      have := dep_now (s := s) (fun e => h (.inl e))
      have := dep_step (t := t) (n := n) (s := nowC s s.Next)
      simp only
      omega
theorem stepF_more {t : Int} : ∀ {n m : Nat} {s : GCasting}, dep s < n → dep s < m → stepF n s t = stepF m s t
  | 0, _, _, h, _ => by omega
  | _, 0, _, _, h => by omega
  | n + 1, m + 1, s, h1, h2 => by
    by_cases h : s.Now.Ability = 0 ∨ s.Now.Until > t
    · rw [stepF_stop h, stepF_stop h]
    · have := dep_now (s := s) (fun e => h (.inl e))
      rw [stepF_go h, stepF_go h, stepF_more (n := n) (m := m) (by omega) (by omega)]
theorem stepF_then {a b : Int} (hab : a ≤ b) : ∀ {n : Nat} {s : GCasting}, dep s < n → stepF n s b = ((stepF n (stepF n s a).1 b).1, (stepF n s a).2 ++ (stepF n (stepF n s a).1 b).2)
  | 0, _, h => by omega
  | n + 1, s, hd => by
    by_cases h : s.Now.Ability = 0 ∨ s.Now.Until > a
    · rw [stepF_stop (t := a) h]; rfl
    · have h2 : ¬ (s.Now.Ability = 0 ∨ s.Now.Until > b) := by omega
      have h3 := dep_now (s := s) (fun e => h (.inl e))
      have h4 := dep_step (t := a) (n := n) (s := nowC s s.Next)
      have ih := stepF_then hab (n := n) (s := nowC s s.Next) (by omega)
      rw [stepF_go h2, stepF_go (t := a) h]
      simp only
      rw [stepF_more (n := n + 1) (m := n) (s := (stepF n (nowC s s.Next) a).1) (by omega) (by omega), ih]
      rfl
theorem step_len {t : Int} : ∀ {n : Nat} {s : GCasting}, (stepF n s t).2.length ≤ dep s
  | 0, s => by simp [stepF]
  | n + 1, s => by
    by_cases h : s.Now.Ability = 0 ∨ s.Now.Until > t
    · rw [stepF_stop h]; simp
    · rw [stepF_go h]
      have := dep_now (s := s) (fun e => h (.inl e))
      have := step_len (t := t) (n := n) (s := nowC s s.Next)
      simp only [List.length_cons]
      omega
theorem right_now {s : GCasting} (h : rightC s) : rightC (nowC s s.Next) := ⟨h.2.1, .inl rfl, fun e => absurd rfl e⟩
theorem right_step {t : Int} : ∀ {n : Nat} {s : GCasting}, rightC s → rightC (stepF n s t).1
  | 0, s, h => h
  | n + 1, s, hr => by
    by_cases h : s.Now.Ability = 0 ∨ s.Now.Until > t
    · rw [stepF_stop h]; exact hr
    · rw [stepF_go h]; exact right_step (right_now hr)
theorem right_c0 {s : GCasting} (h : rightC s) (h0 : s.Now.Ability = 0) : s.Now = c0 := by
  rcases h.1 with h1 | h1
  · exact h1
  · omega
theorem step_ends {s : GCasting} {t : Int} (hr : rightC s) (h1 : s.Now.Until ≤ t) (h2 : doneC s ≤ t) : (stepC s t).1.Now = c0 := by
  unfold stepC
  by_cases h : s.Now.Ability = 0
  · rw [stepF_stop (.inl h)]; exact right_c0 hr h
  · rw [stepF_go (by omega)]
    have hr1 := right_now hr
    by_cases h3 : s.Next.Ability = 0
    · rw [stepF_stop (.inl h3)]
      exact right_c0 hr1 h3
    · have h4 : s.Next.Until ≤ t := by unfold doneC at h2; rw [if_pos h3] at h2; exact h2
      rw [stepF_go (s := nowC s s.Next) (by show ¬ (s.Next.Ability = 0 ∨ s.Next.Until > t); omega), stepF_stop (s := nowC (nowC s s.Next) (nowC s s.Next).Next) (.inl rfl)]
      rfl
theorem step_then {s : GCasting} {a b : Int} (hab : a ≤ b) : (stepC s b).1 = (stepC (stepC s a).1 b).1 ∧ (stepC s b).2 = (stepC s a).2 ++ (stepC (stepC s a).1 b).2 := by
  have h : stepC s b = ((stepC (stepC s a).1 b).1, (stepC s a).2 ++ (stepC (stepC s a).1 b).2) := stepF_then hab (n := 3) (Nat.lt_succ_of_le (dep_le s))
  rw [h]; exact ⟨rfl, rfl⟩
theorem stepC_len {s : GCasting} {t : Int} : (stepC s t).2.length ≤ 2 := Nat.le_trans step_len (dep_le s)


theorem castWaits_ok (s : GCasting) (at_ : Int) (later : Int) : Ok Try.prog 9 [aGCasting s, I at_, I later] [] (B true) [] [] := by
 refine ok_of_sem Try.func9 rfl ?_
 show Walks Try.prog _ _ ⟨[(0, aGCasting s), (1, I at_), (2, I later)], [], 0, [], 89, 0⟩
 refine sem_seq ?_
 refine sem_region rfl ?_
 refine step_n (o := .box [_, _, _, _, _, _, _, _, _]) (nx' := 1) rfl rfl rfl trivial ?_
 refine step_r rfl rfl trivial ?_
 refine step_nil ?_
 refine seqK_n ?_
 refine sem_seq ?_
 refine sem_region rfl ?_
 refine step_call rfl rfl rfl rfl (small17_ok ) rfl rfl rfl ?_
 refine step_r rfl rfl trivial ?_
 refine step_nil ?_
 refine seqK_n ?_
 refine sem_seq ?_
 refine sem_seq ?_
 refine sem_region rfl ?_
 refine step_r (v := (.agg [_, _, _, _, _, _, _, _, _])) rfl rfl (Nat.le_of_ble_eq_true rfl) ?_
 refine step_call rfl rfl rfl rfl (rightC_ok s) rfl rfl rfl ?_
 refine step_r rfl rfl trivial ?_
 refine step_r rfl rfl trivial ?_
 refine step_gs rfl (fun h2 => ?_) (fun h2 => ?_)
 ·have g2 := h2
  try simp at g2
  refine step_g0 rfl h2 rfl ?_
  refine step_g0 rfl h2 rfl ?_
  refine step_g0 rfl h2 rfl ?_
  refine step_pickT rfl h2 rfl rfl ?_
  refine step_nil ?_
  refine seqK_n ?_
  refine sem_condT rfl ?_
  refine sem_seq ?_
  refine sem_region rfl ?_
  refine step_r rfl rfl trivial ?_
  refine step_r rfl rfl trivial ?_
  refine step_nil ?_
  refine seqK_n ?_
  refine sem_ret ?_
  refine seqK_r ?_
  exact answersR rfl ⟨trivial, trivial⟩ (rfl) rfl
 ·have g2 := h2
  try simp at g2
  have hr : rightC s := by simpa using h2
  refine step_g1 rfl h2 ?_
  refine step_r rfl rfl trivial ?_
  refine step_g1 rfl h2 ?_
  refine step_r rfl rfl trivial ?_
  refine step_g1 rfl h2 ?_
  refine step_bin rfl rfl rfl rfl rfl trivial ?_
  refine step_pickF rfl h2 rfl rfl ?_
  refine step_nil ?_
  refine seqK_n ?_
  refine sem_cond rfl (fun h6 => ?_) (fun h6 => ?_)
  ·have g6 := h6
   try simp at g6
   skip
   refine sem_seq ?_
   refine sem_region rfl ?_
   refine step_r rfl rfl trivial ?_
   refine step_r rfl rfl trivial ?_
   refine step_nil ?_
   refine seqK_n ?_
   refine sem_ret ?_
   refine seqK_r ?_
   exact answersR rfl ⟨trivial, trivial⟩ (rfl) rfl
  ·have g6 := h6
   try simp at g6
   have hal : at_ ≤ later := by have h := h6; simp at h; omega
   obtain ⟨e1, e2⟩ := step_then (s := s) hal
   have l1 := stepC_len (s := s) (t := at_)
   have l2 := stepC_len (s := (stepC s at_).1) (t := later)
   have l3 := stepC_len (s := s) (t := later)
   have l4 := stepC_len (s := s) (t := max (doneC s) s.Now.Until)
   have e3 := step_ends (t := max (doneC s) s.Now.Until) hr (Int.le_max_right _ _) (Int.le_max_left _ _)
   refine sem_skip ?_
   refine seqK_n ?_
   refine sem_seq ?_
   refine sem_region rfl ?_
   refine step_r (v := (.agg [_, _, _, _, _, _, _, _, _])) rfl rfl (Nat.le_of_ble_eq_true rfl) ?_
   refine step_r rfl rfl trivial ?_
   refine step_callJ (Hin := []) (out' := .tup [(.agg [_, _, _, _, _, _, _, _, _]), .ref 1 _ _ _]) (H' := [(1, .row _ _ _), (0, .box [_, _, _, _, _, _, _, _, _])]) (nx' := 2) [] rfl rfl rfl rfl rfl rfl rfl rfl rfl (by (repeat' apply And.intro) <;> first | trivial | rfl | exact flat_len (fun _ => rfl) _ | exact encI_len _ | exact encB_len _ | exact encY_len _ | assumption) (step_ok s at_) rfl (by decide) rfl rfl ⟨encGCast_solid, trivial⟩ rfl rfl rfl rfl ?_
   refine step_r rfl rfl trivial ?_
   refine step_r rfl rfl trivial ?_
   refine step_r rfl rfl trivial ?_
   refine step_n (o := .box [_, _, _, _, _, _, _, _, _]) (nx' := 3) rfl rfl rfl trivial ?_
   refine step_store (H' := [(2, .box [_, _, _, _, _, _, _, _, _]), (1, .row _ _ _), (0, .box [_, _, _, _, _, _, _, _, _])]) rfl rfl rfl rfl rfl rfl (Nat.le_of_ble_eq_true rfl) (.inl rfl) rfl ?_
   refine step_r rfl rfl trivial ?_
   refine step_nil ?_
   refine seqK_n ?_
   refine sem_seq ?_
   refine sem_region rfl ?_
   refine step_r (v := (.agg [_, _, _, _, _, _, _, _, _])) rfl rfl (Nat.le_of_ble_eq_true rfl) ?_
   refine step_r rfl rfl trivial ?_
   refine step_callJ (Hin := []) (out' := .tup [(.agg [_, _, _, _, _, _, _, _, _]), .ref 3 _ _ _]) (H' := [(3, .row _ _ _), (2, .box [_, _, _, _, _, _, _, _, _]), (1, .row _ _ _), (0, .box [_, _, _, _, _, _, _, _, _])]) (nx' := 4) [] rfl rfl rfl rfl rfl rfl rfl rfl rfl (by (repeat' apply And.intro) <;> first | trivial | rfl | exact flat_len (fun _ => rfl) _ | exact encI_len _ | exact encB_len _ | exact encY_len _ | assumption) (step_ok ((stepC s at_).1) later) rfl (by decide) rfl rfl ⟨encGCast_solid, trivial⟩ rfl rfl rfl rfl ?_
   refine step_r rfl rfl trivial ?_
   refine step_r rfl rfl trivial ?_
   refine step_r rfl rfl trivial ?_
   refine step_n (o := .box [_, _, _, _, _, _, _, _, _]) (nx' := 5) rfl rfl rfl trivial ?_
   refine step_store (H' := [(4, .box [_, _, _, _, _, _, _, _, _]), (3, .row _ _ _), (2, .box [_, _, _, _, _, _, _, _, _]), (1, .row _ _ _), (0, .box [_, _, _, _, _, _, _, _, _])]) rfl rfl rfl rfl rfl rfl (Nat.le_of_ble_eq_true rfl) (.inl rfl) rfl ?_
   refine step_r rfl rfl trivial ?_
   refine step_nil ?_
   refine seqK_n ?_
   refine sem_seq ?_
   refine sem_region rfl ?_
   refine step_r (v := (.agg [_, _, _, _, _, _, _, _, _])) rfl rfl (Nat.le_of_ble_eq_true rfl) ?_
   refine step_r rfl rfl trivial ?_
   refine step_callJ (Hin := []) (out' := .tup [(.agg [_, _, _, _, _, _, _, _, _]), .ref 5 _ _ _]) (H' := [(5, .row _ _ _), (4, .box [_, _, _, _, _, _, _, _, _]), (3, .row _ _ _), (2, .box [_, _, _, _, _, _, _, _, _]), (1, .row _ _ _), (0, .box [_, _, _, _, _, _, _, _, _])]) (nx' := 6) [] rfl rfl rfl rfl rfl rfl rfl rfl rfl (by (repeat' apply And.intro) <;> first | trivial | rfl | exact flat_len (fun _ => rfl) _ | exact encI_len _ | exact encB_len _ | exact encY_len _ | assumption) (step_ok s later) rfl (by decide) rfl rfl ⟨encGCast_solid, trivial⟩ rfl rfl rfl rfl ?_
   refine step_r rfl rfl trivial ?_
   refine step_r rfl rfl trivial ?_
   refine step_r rfl rfl trivial ?_
   refine step_n (o := .box [_, _, _, _, _, _, _, _, _]) (nx' := 7) rfl rfl rfl trivial ?_
   refine step_store (H' := [(6, .box [_, _, _, _, _, _, _, _, _]), (5, .row _ _ _), (4, .box [_, _, _, _, _, _, _, _, _]), (3, .row _ _ _), (2, .box [_, _, _, _, _, _, _, _, _]), (1, .row _ _ _), (0, .box [_, _, _, _, _, _, _, _, _])]) rfl rfl rfl rfl rfl rfl (Nat.le_of_ble_eq_true rfl) (.inl rfl) rfl ?_
   refine step_r rfl rfl trivial ?_
   refine step_nil ?_
   refine seqK_n ?_
   refine sem_seq ?_
   refine sem_drawnE [(12, 10)] rfl (by decide +kernel) (by decide +kernel) rfl ?_
   refine step_r (v := (.agg [_, _, _, _, _, _, _, _, _])) rfl rfl (Nat.le_of_ble_eq_true rfl) ?_
   refine step_r (v := (.agg [_, _, _, _, _, _, _, _, _])) rfl rfl (Nat.le_of_ble_eq_true rfl) ?_
   refine step_call rfl rfl rfl rfl (done_ok s) rfl rfl rfl ?_
   refine step_r rfl rfl (by decide) ?_
   refine step_r rfl rfl (by decide) ?_
   refine step_r rfl rfl trivial ?_
   refine step_max rfl rfl rfl ?_
   refine step_callJ (Hin := []) (out' := .tup [(.agg [_, _, _, _, _, _, _, _, _]), .ref 7 _ _ _]) (H' := [(7, .row _ _ _), (6, .box [_, _, _, _, _, _, _, _, _]), (5, .row _ _ _), (4, .box [_, _, _, _, _, _, _, _, _]), (3, .row _ _ _), (2, .box [_, _, _, _, _, _, _, _, _]), (1, .row _ _ _), (0, .box [_, _, _, _, _, _, _, _, _])]) (nx' := 8) [] rfl rfl rfl rfl rfl rfl rfl rfl rfl (by (repeat' apply And.intro) <;> first | trivial | rfl | exact flat_len (fun _ => rfl) _ | exact encI_len _ | exact encB_len _ | exact encY_len _ | assumption) (step_ok s (max (doneC s) s.Now.Until)) rfl (by decide) rfl rfl ⟨encGCast_solid, trivial⟩ rfl rfl rfl rfl ?_
   refine step_r rfl rfl trivial ?_
   refine step_r rfl rfl trivial ?_
   refine step_r rfl rfl trivial ?_
   refine step_n (o := .box [_, _, _, _, _, _, _, _, _]) (nx' := 9) rfl rfl rfl trivial ?_
   refine step_store (H' := [(8, .box [_, _, _, _, _, _, _, _, _]), (7, .row _ _ _), (6, .box [_, _, _, _, _, _, _, _, _]), (5, .row _ _ _), (4, .box [_, _, _, _, _, _, _, _, _]), (3, .row _ _ _), (2, .box [_, _, _, _, _, _, _, _, _]), (1, .row _ _ _), (0, .box [_, _, _, _, _, _, _, _, _])]) rfl rfl rfl rfl rfl rfl (Nat.le_of_ble_eq_true rfl) (.inr (by decide +kernel)) rfl ?_
   refine step_r rfl rfl trivial ?_
   refine step_nil ?_
   refine seqK_n ?_
   refine sem_seq ?_
   refine sem_region rfl ?_
   refine step_r rfl rfl trivial ?_
   refine step_r rfl rfl trivial ?_
   refine step_gt rfl ?_
   refine step_r (v := (.agg [_, _, _, _, _, _, _, _, _])) rfl rfl (Nat.le_of_ble_eq_true rfl) ?_
   refine step_gt rfl ?_
   refine step_r (v := (.agg [_, _, _, _, _, _, _, _, _])) rfl rfl (Nat.le_of_ble_eq_true rfl) ?_
   refine step_gt rfl ?_
   refine step_eqlA rfl rfl rfl (by kernel_rfl) rfl rfl rfl rfl rfl ?_
   refine step_r rfl rfl trivial ?_
   refine step_r rfl rfl trivial ?_
   refine step_gs rfl (fun h8 => ?_) (fun h8 => ?_)
   ·have g8 := h8
    try simp at g8
    refine step_g1 rfl h8 ?_
    refine step_r rfl rfl ⟨by decide, rfl⟩ ?_
    refine step_g1 rfl h8 ?_
    refine step_r rfl rfl trivial ?_
    refine step_g1 rfl h8 ?_
    refine step_appendN (m := ((stepC s at_).2).length) (new := ((stepC s at_).2).flatMap encGCast) (cs' := (stepC s at_).2.flatMap encGCast) (n' := ((stepC s at_).2).length) rfl rfl (contentsR rfl (flat_len (s := 4) (enc := encGCast) (fun _ => rfl) ((stepC s at_).2))) rfl rfl rfl rfl rfl rfl (flat_len (s := 4) (enc := encGCast) (fun _ => rfl) ((stepC s at_).2)) (by first | decide | (unfold maxGrow; omega) | (unfold maxGrow; simp; omega)) rfl rfl rfl rfl ?_
    refine step_g1 rfl h8 ?_
    refine step_r rfl rfl trivial ?_
    refine step_g1 rfl h8 ?_
    refine step_appendC (m := ((stepC ((stepC s at_).1) later).2).length) (new := ((stepC ((stepC s at_).1) later).2).flatMap encGCast) (cs' := ((stepC s at_).2 ++ (stepC ((stepC s at_).1) later).2).flatMap encGCast) (n' := ((stepC s at_).2 ++ (stepC ((stepC s at_).1) later).2).length) (H' := [(9, .row _ _ _), (8, .box [_, _, _, _, _, _, _, _, _]), (7, .row _ _ _), (6, .box [_, _, _, _, _, _, _, _, _]), (5, .row _ _ _), (4, .box [_, _, _, _, _, _, _, _, _]), (3, .row _ _ _), (2, .box [_, _, _, _, _, _, _, _, _]), (1, .row _ _ _), (0, .box [_, _, _, _, _, _, _, _, _])]) rfl rfl rfl (contentsR rfl (flat_len (s := 4) (enc := encGCast) (fun _ => rfl) ((stepC ((stepC s at_).1) later).2))) rfl rfl rfl rfl rfl rfl (flat_len (s := 4) (enc := encGCast) (fun _ => rfl) ((stepC s at_).2)) (flat_len (s := 4) (enc := encGCast) (fun _ => rfl) ((stepC ((stepC s at_).1) later).2)) (by first | decide | (unfold maxGrow; omega) | (unfold maxGrow; simp; omega)) (len_append ((stepC s at_).2) ((stepC ((stepC s at_).1) later).2)) (flat_append encGCast _ _) (.inl rfl) rfl rfl (.keep rfl (.keep rfl (.keep rfl (.keep rfl (.keep rfl (.keep rfl (.keep rfl (.keep rfl (.keep rfl (.keep rfl .nil)))))))))) (.keep rfl (.lose (v' := .undef) rfl (.keep rfl (.keep rfl (.keep rfl (.keep rfl (.keep rfl (.keep rfl (.keep rfl (.keep rfl (.keep rfl (.keep rfl (.keep rfl (.keep rfl (.keep rfl (.keep rfl (.keep rfl (.keep rfl (.keep rfl (.keep rfl (.keep rfl (.keep rfl (.keep rfl (.keep rfl (.keep rfl (.keep rfl (.keep rfl (.keep rfl (.keep rfl (.keep rfl (.keep rfl (.keep rfl (.keep rfl (.keep rfl (.keep rfl (.keep rfl (.keep rfl (.keep rfl (.keep rfl (.keep rfl (.keep rfl (.keep rfl (.keep rfl (.keep rfl (.keep rfl (.keep rfl (.keep rfl (.keep rfl (.keep rfl (.keep rfl (.keep rfl (.keep rfl (.keep rfl (.keep rfl (.keep rfl (.keep rfl (.keep rfl (.keep rfl (.keep rfl (.keep rfl (.keep rfl (.keep rfl (.keep rfl .nil))))))))))))))))))))))))))))))))))))))))))))))))))))))))))))))) ?_
    refine step_g1 rfl h8 ?_
    refine step_r rfl rfl trivial ?_
    refine step_g1 rfl h8 ?_
    refine step_callJ (Hin := [.row _ _ _, .row _ _ _]) (H' := [(9, .row _ _ _), (8, .box [_, _, _, _, _, _, _, _, _]), (7, .row _ _ _), (6, .box [_, _, _, _, _, _, _, _, _]), (5, .row _ _ _), (4, .box [_, _, _, _, _, _, _, _, _]), (3, .row _ _ _), (2, .box [_, _, _, _, _, _, _, _, _]), (1, .row _ _ _), (0, .box [_, _, _, _, _, _, _, _, _])]) (nx' := 10) [9, 5] rfl rfl rfl rfl rfl rfl rfl rfl rfl (by (repeat' apply And.intro) <;> first | trivial | rfl | exact flat_len (s := 4) (enc := encGCast) (fun _ => rfl) _ | exact flat_len (fun _ => rfl) _ | exact encI_len _ | exact encB_len _ | exact encY_len _ | assumption) (same17_ok ((stepC s at_).2 ++ (stepC ((stepC s at_).1) later).2) false ((stepC s later).2) false) rfl (by decide) rfl rfl trivial rfl rfl rfl rfl ?_
    refine step_pickT rfl h8 rfl rfl ?_
    refine step_r rfl rfl trivial ?_
    refine step_gs rfl (fun h10 => ?_) (fun h10 => ?_)
    ·have g10 := h10
     try simp at g10
     refine step_g1 rfl h10 ?_
     refine step_r rfl rfl (by decide) ?_
     refine step_g1 rfl h10 ?_
     refine step_r (v := (.agg [_, _, _, _])) rfl rfl (Nat.le_of_ble_eq_true rfl) ?_
     refine step_g1 rfl h10 ?_
     refine step_r (v := (.agg [_, _, _, _])) rfl rfl trivial ?_
     refine step_g1 rfl h10 ?_
     refine step_eqlA rfl rfl rfl (by kernel_rfl) rfl rfl rfl rfl rfl ?_
     refine step_pickT rfl h10 rfl rfl ?_
     refine step_r rfl rfl trivial ?_
     refine step_gs rfl (fun h12 => ?_) (fun h12 => ?_)
     ·have g12 := h12
      try simp at g12
      refine step_g1 rfl h12 ?_
      refine step_r rfl rfl trivial ?_
      refine step_g1 rfl h12 ?_
      refine step_r rfl rfl trivial ?_
      refine step_g1 rfl h12 ?_
      refine step_bin rfl rfl rfl rfl rfl trivial ?_
      refine step_pickT rfl h12 rfl rfl ?_
      refine step_r rfl rfl trivial ?_
      refine step_gs rfl (fun h14 => ?_) (fun h14 => ?_)
      ·have g14 := h14
       try simp at g14
       refine step_g1 rfl h14 ?_
       refine step_r (v := (.agg [_, _, _, _, _, _, _, _, _])) rfl rfl (Nat.le_of_ble_eq_true rfl) ?_
       refine step_g1 rfl h14 ?_
       refine step_call rfl rfl rfl rfl (rightC_ok ((stepC s at_).1)) rfl rfl rfl ?_
       refine step_pickT rfl h14 rfl rfl ?_
       refine step_r rfl rfl trivial ?_
       refine step_gs rfl (fun h16 => ?_) (fun h16 => ?_)
       ·have g16 := h16
        try simp at g16
        refine step_g1 rfl h16 ?_
        refine step_r (v := (.agg [_, _, _, _, _, _, _, _, _])) rfl rfl (Nat.le_of_ble_eq_true rfl) ?_
        refine step_g1 rfl h16 ?_
        refine step_call rfl rfl rfl rfl (rightC_ok ((stepC s later).1)) rfl rfl rfl ?_
        refine step_pickT rfl h16 rfl rfl ?_
        refine step_r rfl rfl trivial ?_
        refine step_nil ?_
        refine seqK_n ?_
        refine sem_ret ?_
        exact answersR rfl ⟨trivial, trivial⟩ (congrArg B (decide_eq_true (right_step hr))) rfl
       ·have h := h16
        simp at h
        exact absurd (right_step hr) h
      ·have h := h14
       simp at h; omega
     ·have h := h12
      rw [e3] at h
      simp at h
    ·have h := h10
     rw [e2] at h
     simp at h
   ·have h := h8
    rw [e1] at h
    simp at h
end Go.Proofs.Ytgopngmofcohnaa

import Derived.Test.YtgopngmofcohnaaBody
namespace Go.Proofs.Ytgopngmofcohnaa
open Go Go.RowKit Go.Proofs.YtgopngmofcohnaaVm
attribute [local irreducible] opsWp AnswersE OpsS
set_option maxHeartbeats 400000
set_option maxRecDepth 100000
set_option linter.all false
def U0 : GUnit := ⟨1, 1, 0, 10, 20, 3, 5, ⟨0, 0⟩, 4⟩
theorem hurt_law {u : GUnit} {n : Int} (hr : Right u) : (hurtM u n).2 = clampM n 0 u.Health ∧ (hurtM u n).1 = { u with Health := u.Health - clampM n 0 u.Health, Casting := if u.Health - clampM n 0 u.Health < 1 then 0 else u.Casting } ∧ 0 ≤ clampM n 0 u.Health ∧ clampM n 0 u.Health ≤ u.Health := by
  have h := hr
  unfold Right at h
  have hc : 0 ≤ clampM n 0 u.Health ∧ clampM n 0 u.Health ≤ u.Health := by unfold clampM; omega
  have e : IntKind.i64.wrap (u.Health - clampM n 0 u.Health) = u.Health - clampM n 0 u.Health := by rw [IntKind.wrap_i64]; omega
  unfold hurtM
  rw [if_pos hr]
  simp only [e]
  exact ⟨trivial, trivial, hc⟩
theorem parts_law {u : GUnit} {n m : Int} (hr : Right u) (hn : 0 ≤ n) (hm : 0 ≤ m) (w1 : InR n) (w2 : InR m) : (¬ (hurtM u n).1.Health < 1 → healM (hurtM u n).1 (hurtM u n).2 = (u, (hurtM u n).2)) ∧ ((hurtM u n).1.Health < 1 → (healM (hurtM u n).1 (hurtM u n).2).1 = (hurtM u n).1) ∧
    (hurtM (hurtM u n).1 m).1 = (hurtM u (addM n m)).1 ∧ IntKind.i64.wrap ((hurtM u n).2 + (hurtM (hurtM u n).1 m).2) = (hurtM u (addM n m)).2 := by
  obtain ⟨a1, a2, a3, a4⟩ := hurt_law (n := n) hr
  obtain ⟨d1, d2, d3, d4⟩ := hurt_law (n := addM n m) hr
  have hra : Right (hurtM u n).1 := by
    have h := hr
    rw [a2]; unfold Right at h ⊢; simp only; split <;> omega
  obtain ⟨c1, c2, c3, c4⟩ := hurt_law (n := m) hra
  have h := hr
  unfold Right at h
  have hadd : addM n m = min (n + m) 9223372036854775807 := by rw [addM_eq w1 w2]; omega
  refine ⟨fun hd => ?_, fun hd => ?_, ?_, ?_⟩
  · have hd' : ¬ u.Health - clampM n 0 u.Health < 1 := by rw [a2] at hd; exact hd
    have ea : (hurtM u n).1 = { u with Health := u.Health - clampM n 0 u.Health } := by rw [a2]; simp only [if_neg hd']
    have e1 : IntKind.i64.wrap (u.MaxHealth - (u.Health - clampM n 0 u.Health)) = u.MaxHealth - (u.Health - clampM n 0 u.Health) := by rw [IntKind.wrap_i64]; omega
    have e2 : clampM (clampM n 0 u.Health) 0 (u.MaxHealth - (u.Health - clampM n 0 u.Health)) = clampM n 0 u.Health := by
      generalize clampM n 0 u.Health = q at *
      unfold clampM; omega
    have e3 : IntKind.i64.wrap (u.Health - clampM n 0 u.Health + clampM n 0 u.Health) = u.Health := by rw [IntKind.wrap_i64]; omega
    unfold healM
    rw [if_pos ⟨hra, hd⟩, ea, a1]
    simp only [e1, e2, e3]
  · unfold healM
    rw [if_neg (fun hh => hh.2 hd)]
  · rw [c2, d2, a2]
    have e : u.Health - clampM n 0 u.Health - clampM m 0 (u.Health - clampM n 0 u.Health) = u.Health - clampM (addM n m) 0 u.Health := by
      rw [hadd]; unfold clampM; omega
    simp only [e]
    congr 1
    split
    · rfl
    · rename_i h2
      rw [if_neg]
      have : clampM n 0 u.Health ≤ clampM (addM n m) 0 u.Health := by rw [hadd]; unfold clampM; omega
      omega
  · rw [c1, a1, d1, a2, hadd]
    simp only
    rw [IntKind.wrap_i64]
    unfold clampM; omega


theorem small13_ok  : Ok Try.prog 21 [] [] (B true) [] [] := by
 refine ok_of_sem Try.func21 rfl ?_
 show Walks Try.prog _ _ ⟨[], [], 0, [], 93, 0⟩
 refine sem_seq ?_
 refine sem_region rfl ?_
 refine step_r rfl rfl trivial ?_
 refine step_nil ?_
 refine seqK_n ?_
 refine sem_seq ?_
 refine sem_region rfl ?_
 refine step_r (v := (.agg [_, _, _, _, _, _, _, _, _, _])) rfl rfl trivial ?_
 refine step_n (o := .box [_, _, _, _, _, _, _, _, _, _]) (nx' := 1) rfl rfl rfl trivial ?_
 refine step_store (H' := [(0, .box [_, _, _, _, _, _, _, _, _, _])]) rfl rfl rfl rfl rfl rfl (Nat.le_of_ble_eq_true rfl) (.inl rfl) rfl ?_
 refine step_nil ?_
 refine seqK_n ?_
 refine sem_seq ?_
 refine sem_region rfl ?_
 refine step_r (v := (.agg [_, _, _, _, _, _, _, _, _, _])) rfl rfl (Nat.le_of_ble_eq_true rfl) ?_
 refine step_call rfl rfl rfl rfl (hurt_ok U0 15) rfl rfl rfl ?_
 refine step_r rfl rfl trivial ?_
 refine step_r rfl rfl trivial ?_
 refine step_r rfl rfl trivial ?_
 refine step_n (o := .box [_, _, _, _, _, _, _, _, _, _]) (nx' := 2) rfl rfl rfl trivial ?_
 refine step_store (H' := [(1, .box [_, _, _, _, _, _, _, _, _, _]), (0, .box [_, _, _, _, _, _, _, _, _, _])]) rfl rfl rfl rfl rfl rfl (Nat.le_of_ble_eq_true rfl) (.inl rfl) rfl ?_
 refine step_r rfl rfl trivial ?_
 refine step_nil ?_
 refine seqK_n ?_
 refine sem_seq ?_
 refine sem_region rfl ?_
 refine step_r (v := (.agg [_, _, _, _, _, _, _, _, _, _])) rfl rfl (Nat.le_of_ble_eq_true rfl) ?_
 refine step_call rfl rfl rfl rfl (heal_ok U0 15) rfl rfl rfl ?_
 refine step_r rfl rfl trivial ?_
 refine step_r rfl rfl trivial ?_
 refine step_r rfl rfl trivial ?_
 refine step_n (o := .box [_, _, _, _, _, _, _, _, _, _]) (nx' := 3) rfl rfl rfl trivial ?_
 refine step_store (H' := [(2, .box [_, _, _, _, _, _, _, _, _, _]), (1, .box [_, _, _, _, _, _, _, _, _, _]), (0, .box [_, _, _, _, _, _, _, _, _, _])]) rfl rfl rfl rfl rfl rfl (Nat.le_of_ble_eq_true rfl) (.inl rfl) rfl ?_
 refine step_r rfl rfl trivial ?_
 refine step_nil ?_
 refine seqK_n ?_
 refine sem_seq ?_
 refine sem_region rfl ?_
 refine step_r (v := (.agg [_, _, _, _, _, _, _, _, _, _])) rfl rfl (Nat.le_of_ble_eq_true rfl) ?_
 refine step_call rfl rfl rfl rfl (spend_ok U0 4) rfl rfl rfl ?_
 refine step_r rfl rfl trivial ?_
 refine step_r rfl rfl trivial ?_
 refine step_r rfl rfl trivial ?_
 refine step_n (o := .box [_, _, _, _, _, _, _, _, _, _]) (nx' := 4) rfl rfl rfl trivial ?_
 refine step_store (H' := [(3, .box [_, _, _, _, _, _, _, _, _, _]), (2, .box [_, _, _, _, _, _, _, _, _, _]), (1, .box [_, _, _, _, _, _, _, _, _, _]), (0, .box [_, _, _, _, _, _, _, _, _, _])]) rfl rfl rfl rfl rfl rfl (Nat.le_of_ble_eq_true rfl) (.inl rfl) rfl ?_
 refine step_r rfl rfl trivial ?_
 refine step_nil ?_
 refine seqK_n ?_
 refine sem_seq ?_
 refine sem_region rfl ?_
 refine step_r (v := (.agg [_, _, _, _, _, _, _, _, _, _])) rfl rfl (Nat.le_of_ble_eq_true rfl) ?_
 refine step_call rfl rfl rfl rfl (raise_ok (hurtM U0 15).1) rfl rfl rfl ?_
 refine step_r rfl rfl trivial ?_
 refine step_r rfl rfl trivial ?_
 refine step_r rfl rfl trivial ?_
 refine step_n (o := .box [_, _, _, _, _, _, _, _, _, _]) (nx' := 5) rfl rfl rfl trivial ?_
 refine step_store (H' := [(4, .box [_, _, _, _, _, _, _, _, _, _]), (3, .box [_, _, _, _, _, _, _, _, _, _]), (2, .box [_, _, _, _, _, _, _, _, _, _]), (1, .box [_, _, _, _, _, _, _, _, _, _]), (0, .box [_, _, _, _, _, _, _, _, _, _])]) rfl rfl rfl rfl rfl rfl (Nat.le_of_ble_eq_true rfl) (.inl rfl) rfl ?_
 refine step_r rfl rfl trivial ?_
 refine step_nil ?_
 refine seqK_n ?_
 refine sem_seq ?_
 refine sem_drawn rfl (by decide +kernel) rfl ?_
 refine step_r (v := (.agg [_, _, _, _, _, _, _, _, _, _])) rfl rfl (Nat.le_of_ble_eq_true rfl) ?_
 refine step_call rfl rfl rfl rfl (right_ok U0) rfl rfl rfl ?_
 refine step_r rfl rfl trivial ?_
 refine step_gs rfl (fun h6 => ?_) (fun h6 => ?_)
 ·have g6 := h6
  try simp at g6
  refine step_g1 rfl h6 ?_
  refine step_r rfl rfl (by decide) ?_
  refine step_g1 rfl h6 ?_
  refine step_r rfl rfl trivial ?_
  refine step_g1 rfl h6 ?_
  refine step_bin rfl rfl rfl rfl rfl trivial ?_
  refine step_pickT rfl h6 rfl rfl ?_
  refine step_r rfl rfl trivial ?_
  refine step_gs rfl (fun h8 => ?_) (fun h8 => ?_)
  ·have g8 := h8
   try simp at g8
   refine step_g1 rfl h8 ?_
   refine step_r rfl rfl trivial ?_
   refine step_g1 rfl h8 ?_
   refine step_bin rfl rfl rfl rfl rfl trivial ?_
   refine step_pickT rfl h8 rfl rfl ?_
   refine step_r rfl rfl trivial ?_
   refine step_gs rfl (fun h10 => ?_) (fun h10 => ?_)
   ·have g10 := h10
    try simp at g10
    refine step_g1 rfl h10 ?_
    refine step_r rfl rfl (by decide) ?_
    refine step_g1 rfl h10 ?_
    refine step_r rfl rfl trivial ?_
    refine step_g1 rfl h10 ?_
    refine step_bin rfl rfl rfl rfl rfl trivial ?_
    refine step_pickT rfl h10 rfl rfl ?_
    refine step_r rfl rfl trivial ?_
    refine step_gs rfl (fun h12 => ?_) (fun h12 => ?_)
    ·have g12 := h12
     try simp at g12
     refine step_g1 rfl h12 ?_
     refine step_r (v := (.agg [_, _, _, _, _, _, _, _, _, _])) rfl rfl (Nat.le_of_ble_eq_true rfl) ?_
     refine step_g1 rfl h12 ?_
     refine step_call rfl rfl rfl rfl (dead_ok (hurtM U0 15).1) rfl rfl rfl ?_
     refine step_pickT rfl h12 rfl rfl ?_
     refine step_r rfl rfl trivial ?_
     refine step_gs rfl (fun h14 => ?_) (fun h14 => ?_)
     ·have g14 := h14
      try simp at g14
      refine step_g1 rfl h14 ?_
      refine step_r rfl rfl (by decide) ?_
      refine step_g1 rfl h14 ?_
      refine step_r rfl rfl trivial ?_
      refine step_g1 rfl h14 ?_
      refine step_bin rfl rfl rfl rfl rfl trivial ?_
      refine step_pickT rfl h14 rfl rfl ?_
      refine step_r rfl rfl trivial ?_
      refine step_gs rfl (fun h16 => ?_) (fun h16 => ?_)
      ·have g16 := h16
       try simp at g16
       refine step_g1 rfl h16 ?_
       refine step_r rfl rfl trivial ?_
       refine step_g1 rfl h16 ?_
       refine step_bin rfl rfl rfl rfl rfl trivial ?_
       refine step_pickT rfl h16 rfl rfl ?_
       refine step_r rfl rfl trivial ?_
       refine step_gs rfl (fun h18 => ?_) (fun h18 => ?_)
       ·have g18 := h18
        try simp at g18
        refine step_g1 rfl h18 ?_
        refine step_r (v := (.agg [_, _, _, _, _, _, _, _, _, _])) rfl rfl (Nat.le_of_ble_eq_true rfl) ?_
        refine step_g1 rfl h18 ?_
        refine step_r (v := (.agg [_, _, _, _, _, _, _, _, _, _])) rfl rfl (Nat.le_of_ble_eq_true rfl) ?_
        refine step_g1 rfl h18 ?_
        refine step_eqlA rfl rfl rfl (by kernel_rfl) rfl rfl rfl rfl rfl ?_
        refine step_pickT rfl h18 rfl rfl ?_
        refine step_r rfl rfl trivial ?_
        refine step_gs rfl (fun h20 => ?_) (fun h20 => ?_)
        ·have g20 := h20
         try simp at g20
         refine step_g1 rfl h20 ?_
         refine step_r rfl rfl trivial ?_
         refine step_g1 rfl h20 ?_
         refine step_r rfl rfl trivial ?_
         refine step_pickT rfl h20 rfl rfl ?_
         refine step_r rfl rfl trivial ?_
         refine step_gs rfl (fun h22 => ?_) (fun h22 => ?_)
         ·have g22 := h22
          try simp at g22
          refine step_g1 rfl h22 ?_
          refine step_r rfl rfl (by decide) ?_
          refine step_g1 rfl h22 ?_
          refine step_r rfl rfl trivial ?_
          refine step_g1 rfl h22 ?_
          refine step_bin rfl rfl rfl rfl rfl trivial ?_
          refine step_pickT rfl h22 rfl rfl ?_
          refine step_r rfl rfl trivial ?_
          refine step_gs rfl (fun h24 => ?_) (fun h24 => ?_)
          ·have g24 := h24
           try simp at g24
           refine step_g1 rfl h24 ?_
           refine step_r rfl rfl trivial ?_
           refine step_pickT rfl h24 rfl rfl ?_
           refine step_r rfl rfl trivial ?_
           refine step_gs rfl (fun h25 => ?_) (fun h25 => ?_)
           ·have g25 := h25
            try simp at g25
            refine step_g1 rfl h25 ?_
            refine step_r (v := (.agg [_, _, _, _, _, _, _, _, _, _])) rfl rfl (Nat.le_of_ble_eq_true rfl) ?_
            refine step_g1 rfl h25 ?_
            refine step_call rfl rfl rfl rfl (below_ok U0 50) rfl rfl rfl ?_
            refine step_pickT rfl h25 rfl rfl ?_
            refine step_r rfl rfl trivial ?_
            refine step_gs rfl (fun h27 => ?_) (fun h27 => ?_)
            ·have g27 := h27
             try simp at g27
             refine step_g1 rfl h27 ?_
             refine step_r (v := (.agg [_, _, _, _, _, _, _, _, _, _])) rfl rfl (Nat.le_of_ble_eq_true rfl) ?_
             refine step_g1 rfl h27 ?_
             refine step_call rfl rfl rfl rfl (below_ok U0 49) rfl rfl rfl ?_
             refine step_g1 rfl h27 ?_
             refine step_r rfl rfl trivial ?_
             refine step_pickT rfl h27 rfl rfl ?_
             refine step_r rfl rfl trivial ?_
             refine step_gs rfl (fun h29 => ?_) (fun h29 => ?_)
             ·have g29 := h29
              try simp at g29
              refine step_g1 rfl h29 ?_
              refine step_r (v := (.agg [_, _, _, _, _, _, _, _, _, _])) rfl rfl (Nat.le_of_ble_eq_true rfl) ?_
              refine step_g1 rfl h29 ?_
              refine step_call rfl rfl rfl rfl (fields_ok U0) rfl rfl rfl ?_
              refine step_g1 rfl h29 ?_
              refine step_call rfl rfl rfl rfl (from_ok 1 ⟨U0.Kind, U0.Group, U0.Health, U0.MaxHealth, U0.Power, U0.MaxPower, U0.At.X, U0.At.Y, U0.Casting⟩) rfl rfl rfl ?_
              refine step_g1 rfl h29 ?_
              refine step_r (v := (.agg [_, _, _, _, _, _, _, _, _, _])) rfl rfl (Nat.le_of_ble_eq_true rfl) ?_
              refine step_g1 rfl h29 ?_
              refine step_eqlA rfl rfl rfl (by kernel_rfl) rfl rfl rfl rfl rfl ?_
              refine step_pickT rfl h29 rfl rfl ?_
              refine step_r rfl rfl trivial ?_
              refine step_nil ?_
              refine seqK_n ?_
              refine sem_ret ?_
              exact answersR rfl ⟨trivial, trivial⟩ (congrArg B (by decide +kernel)) rfl
             ·exact absurd h29 (by decide +kernel)
            ·exact absurd h27 (by decide +kernel)
           ·exact absurd h25 (by decide +kernel)
          ·exact absurd h24 (by decide +kernel)
         ·exact absurd h22 (by decide +kernel)
        ·exact absurd h20 (by decide +kernel)
       ·exact absurd h18 (by decide +kernel)
      ·exact absurd h16 (by decide +kernel)
     ·exact absurd h14 (by decide +kernel)
    ·exact absurd h12 (by decide +kernel)
   ·exact absurd h10 (by decide +kernel)
  ·exact absurd h8 (by decide +kernel)
 ·exact absurd h6 (by decide +kernel)

theorem bodyTells_ok (u : GUnit) (p : Int) (f : A9int) : Ok Try.prog 6 [aGUnit u, I p, aA9int f] [] (B true) [] [] := by
 refine ok_of_sem Try.func6 rfl ?_
 show Walks Try.prog _ _ ⟨[(0, aGUnit u), (1, I p), (2, aA9int f)], [], 0, [], 49, 0⟩
 refine sem_seq ?_
 refine sem_region rfl ?_
 refine step_n (o := .box [_, _, _, _, _, _, _, _, _, _]) (nx' := 1) rfl rfl rfl trivial ?_
 refine step_n (o := .box [_, _, _, _, _, _, _, _, _]) (nx' := 2) rfl rfl rfl trivial ?_
 refine step_r rfl rfl trivial ?_
 refine step_nil ?_
 refine seqK_n ?_
 refine sem_seq ?_
 refine sem_region rfl ?_
 refine step_call rfl rfl rfl rfl (small13_ok) rfl rfl rfl ?_
 refine step_r rfl rfl trivial ?_
 refine step_nil ?_
 refine seqK_n ?_
 refine sem_seq ?_
 refine sem_drawn rfl (by decide +kernel) rfl ?_
 refine step_r rfl rfl trivial ?_
 refine step_r rfl rfl trivial ?_
 refine step_gt rfl ?_
 refine step_r (v := (.agg [_, _, _, _, _, _, _, _, _, _])) rfl rfl (Nat.le_of_ble_eq_true rfl) ?_
 refine step_gt rfl ?_
 refine step_call rfl rfl rfl rfl (right_ok u) rfl rfl rfl ?_
 refine step_gt rfl ?_
 refine step_r (v := (.agg [_, _, _, _, _, _, _, _, _, _])) rfl rfl (Nat.le_of_ble_eq_true rfl) ?_
 refine step_gt rfl ?_
 refine step_call rfl rfl rfl rfl (rightR_ok u) rfl rfl rfl ?_
 refine step_gt rfl ?_
 refine step_bin rfl rfl rfl rfl rfl trivial ?_
 refine step_r rfl rfl trivial ?_
 refine step_r rfl rfl trivial ?_
 refine step_gs rfl (fun h2 => ?_) (fun h2 => ?_)
 ·have g2 := h2
  try simp at g2
  refine step_g1 rfl h2 ?_
  refine step_r (v := (.agg [_, _, _, _, _, _, _, _, _, _])) rfl rfl (Nat.le_of_ble_eq_true rfl) ?_
  refine step_g1 rfl h2 ?_
  refine step_call rfl rfl rfl rfl (dead_ok u) rfl rfl rfl ?_
  refine step_g1 rfl h2 ?_
  refine step_r (v := (.agg [_, _, _, _, _, _, _, _, _, _])) rfl rfl (Nat.le_of_ble_eq_true rfl) ?_
  refine step_g1 rfl h2 ?_
  refine step_call rfl rfl rfl rfl (deadR_ok u) rfl rfl rfl ?_
  refine step_g1 rfl h2 ?_
  refine step_bin rfl rfl rfl rfl rfl trivial ?_
  refine step_pickT rfl h2 rfl rfl ?_
  refine step_r rfl rfl trivial ?_
  refine step_gs rfl (fun h4 => ?_) (fun h4 => ?_)
  ·have g4 := h4
   try simp at g4
   refine step_g1 rfl h4 ?_
   refine step_r (v := (.agg [_, _, _, _, _, _, _, _, _, _])) rfl rfl (Nat.le_of_ble_eq_true rfl) ?_
   refine step_g1 rfl h4 ?_
   refine step_r rfl rfl trivial ?_
   refine step_g1 rfl h4 ?_
   refine step_call rfl rfl rfl rfl (below_ok u p) rfl rfl rfl ?_
   refine step_g1 rfl h4 ?_
   refine step_r (v := (.agg [_, _, _, _, _, _, _, _, _, _])) rfl rfl (Nat.le_of_ble_eq_true rfl) ?_
   refine step_g1 rfl h4 ?_
   refine step_r rfl rfl trivial ?_
   refine step_g1 rfl h4 ?_
   refine step_call rfl rfl rfl rfl (belowR_ok u p) rfl rfl rfl ?_
   refine step_g1 rfl h4 ?_
   refine step_bin rfl rfl rfl rfl rfl trivial ?_
   refine step_pickT rfl h4 rfl rfl ?_
   refine step_r rfl rfl trivial ?_
   refine step_gs rfl (fun h7 => ?_) (fun h7 => ?_)
   ·have g7 := h7
    try simp at g7
    refine step_g1 rfl h7 ?_
    refine step_r (v := (.agg [_, _, _, _, _, _, _, _, _, _])) rfl rfl (Nat.le_of_ble_eq_true rfl) ?_
    refine step_g1 rfl h7 ?_
    refine step_call rfl rfl rfl rfl (fields_ok u) rfl rfl rfl ?_
    refine step_g1 rfl h7 ?_
    refine step_r (v := (.agg [_, _, _, _, _, _, _, _, _, _])) rfl rfl (Nat.le_of_ble_eq_true rfl) ?_
    refine step_g1 rfl h7 ?_
    refine step_call rfl rfl rfl rfl (fieldsR_ok u) rfl rfl rfl ?_
    refine step_g1 rfl h7 ?_
    refine step_eqlA rfl rfl rfl (by kernel_rfl) rfl rfl rfl rfl rfl ?_
    refine step_pickT rfl h7 rfl rfl ?_
    refine step_r rfl rfl trivial ?_
    refine step_gs rfl (fun h9 => ?_) (fun h9 => ?_)
    ·have g9 := h9
     try simp at g9
     refine step_g1 rfl h9 ?_
     refine step_r rfl rfl trivial ?_
     refine step_g1 rfl h9 ?_
     refine step_r (v := (.agg [_, _, _, _, _, _, _, _, _])) rfl rfl (Nat.le_of_ble_eq_true rfl) ?_
     refine step_g1 rfl h9 ?_
     refine step_call rfl rfl rfl rfl (from_ok p f) rfl rfl rfl ?_
     refine step_g1 rfl h9 ?_
     refine step_r rfl rfl trivial ?_
     refine step_g1 rfl h9 ?_
     refine step_r (v := (.agg [_, _, _, _, _, _, _, _, _])) rfl rfl (Nat.le_of_ble_eq_true rfl) ?_
     refine step_g1 rfl h9 ?_
     refine step_call rfl rfl rfl rfl (fromR_ok p f) rfl rfl rfl ?_
     refine step_g1 rfl h9 ?_
     refine step_eqlA rfl rfl rfl (by kernel_rfl) rfl rfl rfl rfl rfl ?_
     refine step_pickT rfl h9 rfl rfl ?_
     refine step_r rfl rfl trivial ?_
     refine step_nil ?_
     refine seqK_n ?_
     refine sem_ret ?_
     exact answersR rfl ⟨trivial, trivial⟩ (congrArg B (by simp)) rfl
    ·simp [part_same] at h9
   ·simp [part_same] at h7
  ·simp [part_same] at h4
 ·simp [part_same] at h2

theorem bodyParts_ok (u : GUnit) (n : Int) (m : Int) (w1 : InR n) (w2 : InR m) : Ok Try.prog 7 [aGUnit u, I n, I m] [] (B true) [] [] := by
 refine ok_of_sem Try.func7 rfl ?_
 show Walks Try.prog _ _ ⟨[(0, aGUnit u), (1, I n), (2, I m)], [], 0, [], 90, 0⟩
 refine sem_seq ?_
 refine sem_region rfl ?_
 refine step_n (o := .box [_, _, _, _, _, _, _, _, _, _]) (nx' := 1) rfl rfl rfl trivial ?_
 refine step_r rfl rfl trivial ?_
 refine step_nil ?_
 refine seqK_n ?_
 refine sem_seq ?_
 refine sem_region rfl ?_
 refine step_call rfl rfl rfl rfl (small13_ok) rfl rfl rfl ?_
 refine step_r rfl rfl trivial ?_
 refine step_nil ?_
 refine seqK_n ?_
 refine sem_seq ?_
 refine sem_seq ?_
 refine sem_region rfl ?_
 refine step_r (v := (.agg [_, _, _, _, _, _, _, _, _, _])) rfl rfl (Nat.le_of_ble_eq_true rfl) ?_
 refine step_call rfl rfl rfl rfl (right_ok u) rfl rfl rfl ?_
 refine step_r rfl rfl trivial ?_
 refine step_r rfl rfl trivial ?_
 refine step_gs rfl (fun h2 => ?_) (fun h2 => ?_)
 ·have g2 := h2
  try simp at g2
  refine step_g0 rfl h2 rfl ?_
  refine step_g0 rfl h2 rfl ?_
  refine step_pickT rfl h2 rfl rfl ?_
  refine step_r rfl rfl trivial ?_
  refine step_gf rfl rfl ?_
  refine step_gf rfl rfl ?_
  refine step_r rfl rfl trivial ?_
  refine step_nil ?_
  refine seqK_n ?_
  refine sem_condT rfl ?_
  refine sem_seq ?_
  refine sem_region rfl ?_
  refine step_r rfl rfl trivial ?_
  refine step_r rfl rfl trivial ?_
  refine step_nil ?_
  refine seqK_n ?_
  refine sem_ret ?_
  refine seqK_r ?_
  exact answersR rfl ⟨trivial, trivial⟩ rfl rfl
 ·have g2 := h2
  try simp at g2
  have gr := g2
  refine step_g1 rfl h2 ?_
  refine step_r rfl rfl trivial ?_
  refine step_g1 rfl h2 ?_
  refine step_bin rfl rfl rfl rfl rfl trivial ?_
  refine step_pickF rfl h2 rfl rfl ?_
  refine step_r rfl rfl trivial ?_
  refine step_gs rfl (fun h5 => ?_) (fun h5 => ?_)
  ·have g5 := h5
   try simp at g5
   refine step_g0 rfl h5 rfl ?_
   refine step_g0 rfl h5 rfl ?_
   refine step_pickT rfl h5 rfl rfl ?_
   refine step_nil ?_
   refine seqK_n ?_
   refine sem_condT rfl ?_
   refine sem_seq ?_
   refine sem_region rfl ?_
   refine step_r rfl rfl trivial ?_
   refine step_r rfl rfl trivial ?_
   refine step_nil ?_
   refine seqK_n ?_
   refine sem_ret ?_
   refine seqK_r ?_
   exact answersR rfl ⟨trivial, trivial⟩ rfl rfl
  ·have g5 := h5
   try simp at g5
   have gn := g5
   refine step_g1 rfl h5 ?_
   refine step_r rfl rfl trivial ?_
   refine step_g1 rfl h5 ?_
   refine step_bin rfl rfl rfl rfl rfl trivial ?_
   refine step_pickF rfl h5 rfl rfl ?_
   refine step_nil ?_
   refine seqK_n ?_
   refine sem_cond rfl (fun h8 => ?_) (fun h8 => ?_)
   ·have g8 := h8
    try simp at g8
    refine sem_seq ?_
    refine sem_region rfl ?_
    refine step_r rfl rfl trivial ?_
    refine step_r rfl rfl trivial ?_
    refine step_nil ?_
    refine seqK_n ?_
    refine sem_ret ?_
    refine seqK_r ?_
    exact answersR rfl ⟨trivial, trivial⟩ rfl rfl
   ·have g8 := h8
    try simp at g8
    have gm := g8
    obtain ⟨l1, l2, l3, l4⟩ := parts_law gr gn gm w1 w2
    refine sem_skip ?_
    refine seqK_n ?_
    refine sem_seq ?_
    refine sem_region rfl ?_
    refine step_r (v := (.agg [_, _, _, _, _, _, _, _, _, _])) rfl rfl (Nat.le_of_ble_eq_true rfl) ?_
    refine step_r rfl rfl trivial ?_
    refine step_call rfl rfl rfl rfl (hurt_ok u n) rfl rfl rfl ?_
    refine step_r rfl rfl trivial ?_
    refine step_r rfl rfl trivial ?_
    refine step_r rfl rfl trivial ?_
    refine step_n (o := .box [_, _, _, _, _, _, _, _, _, _]) (nx' := 2) rfl rfl rfl trivial ?_
    refine step_store (H' := [(1, .box [_, _, _, _, _, _, _, _, _, _]), (0, .box [_, _, _, _, _, _, _, _, _, _])]) rfl rfl rfl rfl rfl rfl (Nat.le_of_ble_eq_true rfl) (.inl rfl) rfl ?_
    refine step_r rfl rfl trivial ?_
    refine step_nil ?_
    refine seqK_n ?_
    refine sem_seq ?_
    refine sem_region rfl ?_
    refine step_r (v := (.agg [_, _, _, _, _, _, _, _, _, _])) rfl rfl (Nat.le_of_ble_eq_true rfl) ?_
    refine step_r rfl rfl trivial ?_
    refine step_call rfl rfl rfl rfl (heal_ok (hurtM u n).1 (hurtM u n).2) rfl rfl rfl ?_
    refine step_r rfl rfl trivial ?_
    refine step_r rfl rfl trivial ?_
    refine step_r rfl rfl trivial ?_
    refine step_n (o := .box [_, _, _, _, _, _, _, _, _, _]) (nx' := 3) rfl rfl rfl trivial ?_
    refine step_store (H' := [(2, .box [_, _, _, _, _, _, _, _, _, _]), (1, .box [_, _, _, _, _, _, _, _, _, _]), (0, .box [_, _, _, _, _, _, _, _, _, _])]) rfl rfl rfl rfl rfl rfl (Nat.le_of_ble_eq_true rfl) (.inl rfl) rfl ?_
    refine step_r rfl rfl trivial ?_
    refine step_nil ?_
    refine seqK_n ?_
    refine sem_seq ?_
    refine sem_region rfl ?_
    refine step_r (v := (.agg [_, _, _, _, _, _, _, _, _, _])) rfl rfl (Nat.le_of_ble_eq_true rfl) ?_
    refine step_r rfl rfl trivial ?_
    refine step_call rfl rfl rfl rfl (hurt_ok (hurtM u n).1 m) rfl rfl rfl ?_
    refine step_r rfl rfl trivial ?_
    refine step_r rfl rfl trivial ?_
    refine step_r rfl rfl trivial ?_
    refine step_n (o := .box [_, _, _, _, _, _, _, _, _, _]) (nx' := 4) rfl rfl rfl trivial ?_
    refine step_store (H' := [(3, .box [_, _, _, _, _, _, _, _, _, _]), (2, .box [_, _, _, _, _, _, _, _, _, _]), (1, .box [_, _, _, _, _, _, _, _, _, _]), (0, .box [_, _, _, _, _, _, _, _, _, _])]) rfl rfl rfl rfl rfl rfl (Nat.le_of_ble_eq_true rfl) (.inl rfl) rfl ?_
    refine step_r rfl rfl trivial ?_
    refine step_nil ?_
    refine seqK_n ?_
    refine sem_seq ?_
    refine sem_drawnE [(9, 7)] rfl (by decide +kernel) (by decide +kernel) rfl ?_
    refine step_r (v := (.agg [_, _, _, _, _, _, _, _, _, _])) rfl rfl (Nat.le_of_ble_eq_true rfl) ?_
    refine step_r rfl rfl trivial ?_
    refine step_r rfl rfl trivial ?_
    refine step_call rfl rfl rfl rfl (add_ok n m) rfl rfl rfl ?_
    refine step_call rfl rfl rfl rfl (hurt_ok u (addM n m)) rfl rfl rfl ?_
    refine step_r rfl rfl trivial ?_
    refine step_r rfl rfl trivial ?_
    refine step_r rfl rfl trivial ?_
    refine step_n (o := .box [_, _, _, _, _, _, _, _, _, _]) (nx' := 5) rfl rfl rfl trivial ?_
    refine step_store (H' := [(4, .box [_, _, _, _, _, _, _, _, _, _]), (3, .box [_, _, _, _, _, _, _, _, _, _]), (2, .box [_, _, _, _, _, _, _, _, _, _]), (1, .box [_, _, _, _, _, _, _, _, _, _]), (0, .box [_, _, _, _, _, _, _, _, _, _])]) rfl rfl rfl rfl rfl rfl (Nat.le_of_ble_eq_true rfl) (.inr rfl) rfl ?_
    refine step_r rfl rfl trivial ?_
    refine step_nil ?_
    refine seqK_n ?_
    refine sem_seq ?_
    refine sem_seq ?_
    refine sem_region rfl ?_
    refine step_r (v := (.agg [_, _, _, _, _, _, _, _, _, _])) rfl rfl (Nat.le_of_ble_eq_true rfl) ?_
    refine step_call rfl rfl rfl rfl (dead_ok (hurtM u n).1) rfl rfl rfl ?_
    refine step_r rfl rfl trivial ?_
    refine step_r rfl rfl trivial ?_
    refine step_gs rfl (fun h14 => ?_) (fun h14 => ?_)
    ·have g14 := h14
     try simp at g14
     have e1 := l1 (by omega)
     refine step_g1 rfl h14 ?_
     refine step_r (v := (.agg [_, _, _, _, _, _, _, _, _, _])) rfl rfl (Nat.le_of_ble_eq_true rfl) ?_
     refine step_g1 rfl h14 ?_
     refine step_r (v := (.agg [_, _, _, _, _, _, _, _, _, _])) rfl rfl (Nat.le_of_ble_eq_true rfl) ?_
     refine step_g1 rfl h14 ?_
     refine step_neqA rfl rfl rfl (by kernel_rfl) rfl rfl rfl rfl rfl ?_
     refine step_g1 rfl h14 ?_
     refine step_r rfl rfl trivial ?_
     refine step_gs rfl (fun h16 => ?_) (fun h16 => ?_)
     ·have h := h16
      simp [e1] at h
     ·have g16 := h16
      try simp at g16
      refine step_g1 rfl h16 ?_
      refine step_r rfl rfl trivial ?_
      refine step_g1 rfl h16 ?_
      refine step_r rfl rfl trivial ?_
      refine step_g1 rfl h16 ?_
      refine step_bin rfl rfl rfl rfl rfl trivial ?_
      refine step_g1 rfl h14 ?_
      refine step_pickF rfl h16 rfl rfl ?_
      refine step_pickT rfl h14 rfl rfl ?_
      refine step_r rfl rfl trivial ?_
      refine step_gs rfl (fun h18 => ?_) (fun h18 => ?_)
      ·have h := h18
       simp [e1] at h
      ·have g18 := h18
       try simp at g18
       refine step_g1 rfl h18 ?_
       refine step_r (v := (.agg [_, _, _, _, _, _, _, _, _, _])) rfl rfl (Nat.le_of_ble_eq_true rfl) ?_
       refine step_g1 rfl h18 ?_
       refine step_call rfl rfl rfl rfl (dead_ok (hurtM u n).1) rfl rfl rfl ?_
       refine step_g1 rfl h18 ?_
       refine step_r rfl rfl trivial ?_
       refine step_gs rfl (fun h20 => ?_) (fun h20 => ?_)
       ·have g20 := h20
        try simp at g20
        have e2 := l2 (by omega)
        refine step_g1 rfl h20 ?_
        refine step_r (v := (.agg [_, _, _, _, _, _, _, _, _, _])) rfl rfl (Nat.le_of_ble_eq_true rfl) ?_
        refine step_g1 rfl h20 ?_
        refine step_r (v := (.agg [_, _, _, _, _, _, _, _, _, _])) rfl rfl (Nat.le_of_ble_eq_true rfl) ?_
        refine step_g1 rfl h20 ?_
        refine step_neqA rfl rfl rfl (by kernel_rfl) rfl rfl rfl rfl rfl ?_
        refine step_g1 rfl h18 ?_
        refine step_pickT rfl h20 rfl rfl ?_
        refine step_pickF rfl h18 rfl rfl ?_
        refine step_nil ?_
        refine seqK_n ?_
        refine sem_cond rfl (fun h22 => ?_) (fun h22 => ?_)
        ·have h := h22
         simp [e2] at h
        ·have g22 := h22
         try simp at g22
         refine sem_skip ?_
         refine seqK_n ?_
         refine sem_seq ?_
         refine sem_region rfl ?_
         refine step_r rfl rfl trivial ?_
         refine step_r rfl rfl trivial ?_
         refine step_gt rfl ?_
         refine step_r (v := (.agg [_, _, _, _, _, _, _, _, _, _])) rfl rfl (Nat.le_of_ble_eq_true rfl) ?_
         refine step_gt rfl ?_
         refine step_r (v := (.agg [_, _, _, _, _, _, _, _, _, _])) rfl rfl (Nat.le_of_ble_eq_true rfl) ?_
         refine step_gt rfl ?_
         refine step_eqlA rfl rfl rfl (by kernel_rfl) rfl rfl rfl rfl rfl ?_
         refine step_r rfl rfl trivial ?_
         refine step_r rfl rfl trivial ?_
         refine step_gs rfl (fun h24 => ?_) (fun h24 => ?_)
         ·have g24 := h24
          try simp at g24
          refine step_g1 rfl h24 ?_
          refine step_r rfl rfl trivial ?_
          refine step_g1 rfl h24 ?_
          refine step_r rfl rfl trivial ?_
          refine step_g1 rfl h24 ?_
          refine step_bin rfl rfl rfl rfl rfl trivial ?_
          refine step_g1 rfl h24 ?_
          refine step_r rfl rfl trivial ?_
          refine step_g1 rfl h24 ?_
          refine step_bin rfl rfl rfl rfl rfl trivial ?_
          refine step_pickT rfl h24 rfl rfl ?_
          refine step_r rfl rfl trivial ?_
          refine step_nil ?_
          refine seqK_n ?_
          refine sem_ret ?_
          exact answersR rfl ⟨trivial, trivial⟩ (congrArg B (by simp [l4])) rfl
         ·have h := h24
          simp [l3] at h
       ·have g20 := h20
        try simp at g20
        refine step_g0 rfl h20 rfl ?_
        refine step_g0 rfl h20 rfl ?_
        refine step_g0 rfl h20 rfl ?_
        refine step_g1 rfl h18 ?_
        refine step_pickF rfl h20 rfl rfl ?_
        refine step_pickF rfl h18 rfl rfl ?_
        refine step_nil ?_
        refine seqK_n ?_
        refine sem_condF rfl ?_
        refine sem_skip ?_
        refine seqK_n ?_
        refine sem_seq ?_
        refine sem_region rfl ?_
        refine step_r rfl rfl trivial ?_
        refine step_r rfl rfl trivial ?_
        refine step_gt rfl ?_
        refine step_r (v := (.agg [_, _, _, _, _, _, _, _, _, _])) rfl rfl (Nat.le_of_ble_eq_true rfl) ?_
        refine step_gt rfl ?_
        refine step_r (v := (.agg [_, _, _, _, _, _, _, _, _, _])) rfl rfl (Nat.le_of_ble_eq_true rfl) ?_
        refine step_gt rfl ?_
        refine step_eqlA rfl rfl rfl (by kernel_rfl) rfl rfl rfl rfl rfl ?_
        refine step_r rfl rfl trivial ?_
        refine step_r rfl rfl trivial ?_
        refine step_gs rfl (fun h27 => ?_) (fun h27 => ?_)
        ·have g27 := h27
         try simp at g27
         refine step_g1 rfl h27 ?_
         refine step_r rfl rfl trivial ?_
         refine step_g1 rfl h27 ?_
         refine step_r rfl rfl trivial ?_
         refine step_g1 rfl h27 ?_
         refine step_bin rfl rfl rfl rfl rfl trivial ?_
         refine step_g1 rfl h27 ?_
         refine step_r rfl rfl trivial ?_
         refine step_g1 rfl h27 ?_
         refine step_bin rfl rfl rfl rfl rfl trivial ?_
         refine step_pickT rfl h27 rfl rfl ?_
         refine step_r rfl rfl trivial ?_
         refine step_nil ?_
         refine seqK_n ?_
         refine sem_ret ?_
         exact answersR rfl ⟨trivial, trivial⟩ (congrArg B (by simp [l4])) rfl
        ·have h := h27
         simp [l3] at h
    ·have g14 := h14
     try simp at g14
     refine step_g0 rfl h14 rfl ?_
     refine step_g0 rfl h14 rfl ?_
     refine step_g0 rfl h14 rfl ?_
     refine step_g0 rfl h14 rfl ?_
     refine step_gf rfl rfl ?_
     refine step_gf rfl rfl ?_
     refine step_gf rfl rfl ?_
     refine step_g0 rfl h14 rfl ?_
     refine step_pickF rfl h14 rfl rfl ?_
     refine step_r rfl rfl trivial ?_
     refine step_gt rfl ?_
     refine step_r (v := (.agg [_, _, _, _, _, _, _, _, _, _])) rfl rfl (Nat.le_of_ble_eq_true rfl) ?_
     refine step_gt rfl ?_
     refine step_call rfl rfl rfl rfl (dead_ok (hurtM u n).1) rfl rfl rfl ?_
     refine step_gt rfl ?_
     refine step_r rfl rfl trivial ?_
     refine step_gs rfl (fun h30 => ?_) (fun h30 => ?_)
     ·have g30 := h30
      try simp at g30
      have e2 := l2 (by omega)
      refine step_g1 rfl h30 ?_
      refine step_r (v := (.agg [_, _, _, _, _, _, _, _, _, _])) rfl rfl (Nat.le_of_ble_eq_true rfl) ?_
      refine step_g1 rfl h30 ?_
      refine step_r (v := (.agg [_, _, _, _, _, _, _, _, _, _])) rfl rfl (Nat.le_of_ble_eq_true rfl) ?_
      refine step_g1 rfl h30 ?_
      refine step_neqA rfl rfl rfl (by kernel_rfl) rfl rfl rfl rfl rfl ?_
      refine step_gt rfl ?_
      refine step_pickT rfl h30 rfl rfl ?_
      refine step_r rfl rfl trivial ?_
      refine step_nil ?_
      refine seqK_n ?_
      refine sem_cond rfl (fun h32 => ?_) (fun h32 => ?_)
      ·have h := h32
       simp [e2] at h
      ·have g32 := h32
       try simp at g32
       refine sem_skip ?_
       refine seqK_n ?_
       refine sem_seq ?_
       refine sem_region rfl ?_
       refine step_r rfl rfl trivial ?_
       refine step_r rfl rfl trivial ?_
       refine step_gt rfl ?_
       refine step_r (v := (.agg [_, _, _, _, _, _, _, _, _, _])) rfl rfl (Nat.le_of_ble_eq_true rfl) ?_
       refine step_gt rfl ?_
       refine step_r (v := (.agg [_, _, _, _, _, _, _, _, _, _])) rfl rfl (Nat.le_of_ble_eq_true rfl) ?_
       refine step_gt rfl ?_
       refine step_eqlA rfl rfl rfl (by kernel_rfl) rfl rfl rfl rfl rfl ?_
       refine step_r rfl rfl trivial ?_
       refine step_r rfl rfl trivial ?_
       refine step_gs rfl (fun h34 => ?_) (fun h34 => ?_)
       ·have g34 := h34
        try simp at g34
        refine step_g1 rfl h34 ?_
        refine step_r rfl rfl trivial ?_
        refine step_g1 rfl h34 ?_
        refine step_r rfl rfl trivial ?_
        refine step_g1 rfl h34 ?_
        refine step_bin rfl rfl rfl rfl rfl trivial ?_
        refine step_g1 rfl h34 ?_
        refine step_r rfl rfl trivial ?_
        refine step_g1 rfl h34 ?_
        refine step_bin rfl rfl rfl rfl rfl trivial ?_
        refine step_pickT rfl h34 rfl rfl ?_
        refine step_r rfl rfl trivial ?_
        refine step_nil ?_
        refine seqK_n ?_
        refine sem_ret ?_
        exact answersR rfl ⟨trivial, trivial⟩ (congrArg B (by simp [l4])) rfl
       ·have h := h34
        simp [l3] at h
     ·have g30 := h30
      try simp at g30
      refine step_g0 rfl h30 rfl ?_
      refine step_g0 rfl h30 rfl ?_
      refine step_g0 rfl h30 rfl ?_
      refine step_gt rfl ?_
      refine step_pickF rfl h30 rfl rfl ?_
      refine step_r rfl rfl trivial ?_
      refine step_nil ?_
      refine seqK_n ?_
      refine sem_condF rfl ?_
      refine sem_skip ?_
      refine seqK_n ?_
      refine sem_seq ?_
      refine sem_region rfl ?_
      refine step_r rfl rfl trivial ?_
      refine step_r rfl rfl trivial ?_
      refine step_gt rfl ?_
      refine step_r (v := (.agg [_, _, _, _, _, _, _, _, _, _])) rfl rfl (Nat.le_of_ble_eq_true rfl) ?_
      refine step_gt rfl ?_
      refine step_r (v := (.agg [_, _, _, _, _, _, _, _, _, _])) rfl rfl (Nat.le_of_ble_eq_true rfl) ?_
      refine step_gt rfl ?_
      refine step_eqlA rfl rfl rfl (by kernel_rfl) rfl rfl rfl rfl rfl ?_
      refine step_r rfl rfl trivial ?_
      refine step_r rfl rfl trivial ?_
      refine step_gs rfl (fun h37 => ?_) (fun h37 => ?_)
      ·have g37 := h37
       try simp at g37
       refine step_g1 rfl h37 ?_
       refine step_r rfl rfl trivial ?_
       refine step_g1 rfl h37 ?_
       refine step_r rfl rfl trivial ?_
       refine step_g1 rfl h37 ?_
       refine step_bin rfl rfl rfl rfl rfl trivial ?_
       refine step_g1 rfl h37 ?_
       refine step_r rfl rfl trivial ?_
       refine step_g1 rfl h37 ?_
       refine step_bin rfl rfl rfl rfl rfl trivial ?_
       refine step_pickT rfl h37 rfl rfl ?_
       refine step_r rfl rfl trivial ?_
       refine step_nil ?_
       refine seqK_n ?_
       refine sem_ret ?_
       exact answersR rfl ⟨trivial, trivial⟩ (congrArg B (by simp [l4])) rfl
      ·have h := h37
       simp [l3] at h
end Go.Proofs.Ytgopngmofcohnaa

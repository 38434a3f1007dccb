import Derived.Test.YtcahldiaeamgaaaThreat
namespace Go.Proofs.Ytcahldiaeamgaaa
open Go Go.RowKit Go.Proofs.YtcahldiaeamgaaaVm
attribute [local irreducible] opsWp AnswersE OpsS
set_option maxHeartbeats 400000
set_option maxRecDepth 100000
set_option linter.all false
def findTR_L0 (unit : Int) : List GThreat → Nat → Sum Int Unit
  | [], k0 => .inr ()
  | x0 :: l_, k0 => if (x0.Unit : Int) = unit then .inl (k0 : Int) else findTR_L0 unit l_ (k0 + 1)
def findTR (l : List GThreat) (unit : Int) : Int :=
  (match findTR_L0 unit l 0 with
    | .inl r_ => r_
    | .inr () => (-1))
theorem findTR_ok (l : List GThreat) (l_f : Bool) (unit : Int) : Ok Try.prog 32 [.pv (.slc l.length l_f (l.flatMap encGThreat)), I unit] [] (I (findTR l unit)) [] [] := by
 refine Ok.len fun hlen => ?_
 have hl_l : l.length ≤ maxLen := hlen _ (by simp [lensL, lens, lensP])
 unfold maxLen at hl_l
 refine ok_of_sem Try.func32 rfl ?_
 show Walks Try.prog _ _ ⟨[(0, .pv (.slc l.length l_f (l.flatMap encGThreat))), (1, I unit)], [], 0, [], 20, 0⟩
 refine sem_seq ?_
 refine sem_region rfl ?_
 refine step_r rfl rfl trivial ?_
 refine step_nil ?_
 refine seqK_n ?_
 refine sem_seq ?_
 refine sem_seq ?_
 refine sem_region rfl ?_
 refine step_r rfl rfl trivial ?_
 refine step_nil ?_
 refine seqK_n ?_
 refine sem_cutW (fun w_ : Unit => match w_ with | () => (⟨[], [], 0, [], 20, 0⟩ : St)) (fun w_ => findTR_L0 unit l 0 = .inr w_) ?_ ?_
 ·refine sem_block ?_
  refine sem_loopT (fun k0 : Nat => (⟨[(0, .pv (.slc l.length l_f (l.flatMap encGThreat))), (1, I unit), (5, I k0)], [], 0, [], 20, 0⟩ : St)) (fun k0 : Nat => findTR_L0 unit (l.drop k0) k0 = findTR_L0 unit l 0 ∧ k0 ≤ l.length) (fun k0 : Nat => l.length - k0) 0 (⟨rfl, Nat.zero_le _⟩) ?_ (fun k0 hh_ => ?_)
  ·exact (Trans.ren [] (by decide +kernel) (by decide +kernel) rfl ⟨⟨rfl, rfl⟩, ⟨rfl, rfl⟩, ⟨rfl, rfl⟩, trivial⟩ trivial (by decide))
  obtain ⟨hI0, hb0⟩ := hh_
  show Walks Try.prog _ _ (⟨[(0, .pv (.slc l.length l_f (l.flatMap encGThreat))), (1, I unit), (5, I k0)], [], 0, [], 20, 0⟩ : St)
  refine sem_seq ?_
  refine sem_seq ?_
  refine sem_region rfl ?_
  refine step_r rfl rfl trivial ?_
  refine step_r rfl rfl trivial ?_
  refine step_r rfl rfl trivial ?_
  refine step_bin rfl rfl rfl rfl rfl trivial ?_
  refine step_nil ?_
  refine seqK_n ?_
  refine sem_cond rfl (fun h3 => ?_) (fun h3 => ?_)
  ·have g3 : (k0 : Int) < l.length := of_decide_eq_true h3
   have hk0 : k0 < l.length := by omega
   obtain ⟨x0, hx0⟩ : ∃ z_, l[k0]? = some z_ := ⟨_, List.getElem?_eq_getElem hk0⟩
   refine sem_skip ?_
   refine seqK_n ?_
   refine sem_seq ?_
   refine sem_block ?_
   refine sem_seq ?_
   refine sem_region rfl ?_
   refine step_r rfl rfl trivial ?_
   refine step_r rfl rfl trivial ?_
   refine step_idxS (k := k0) rfl rfl rfl rfl hk0 (flat_ne (s := 3) (enc := encGThreat) (fun _ => rfl) (by decide) hk0) rfl ?_
   refine step_r rfl rfl (by decide) ?_
   refine step_load_one rfl rfl rfl (flat_get (s := 3) (enc := encGThreat) (fun _ => rfl) hx0 (o := 0) rfl (by decide)) rfl ?_
   refine step_r rfl rfl trivial ?_
   refine step_bin rfl rfl rfl rfl rfl trivial ?_
   refine step_nil ?_
   refine seqK_n ?_
   refine sem_cond rfl (fun h5 => ?_) (fun h5 => ?_)
   ·have g5 : (x0.Unit : Int) = unit := beq_t h5
    refine sem_seq ?_
    refine sem_region rfl ?_
    refine step_r rfl rfl trivial ?_
    refine step_r rfl rfl trivial ?_
    refine step_nil ?_
    refine seqK_n ?_
    refine sem_ret ?_
    refine blkK_r ?_
    refine seqK_r ?_
    refine lupK_r ?_
    refine blkK_r ?_
    refine cutW_r ?_
    refine seqK_r ?_
    have e6 : findTR_L0 unit l 0 = .inl (k0 : Int) := by
     rewrite [← hI0, drop_cons hx0]
     rewrite [findTR_L0]
     try dsimp only
     rewrite [if_pos g5]
     all_goals rfl
    have e7 : findTR l unit = (k0 : Int) := by
     unfold findTR
     try dsimp only
     rewrite [e6]
     try dsimp only
     all_goals rfl
    rw [e7]
    exact answersR rfl ⟨trivial, trivial⟩ (rfl) rfl
   ·have g5 : ¬ ((x0.Unit : Int) = unit) := beq_f h5
    refine sem_skip ?_
    refine blkK_n ?_
    refine seqK_n ?_
    refine sem_region rfl ?_
    refine step_r rfl rfl trivial ?_
    refine step_bin rfl rfl rfl rfl rfl trivial ?_
    refine step_r rfl rfl trivial ?_
    refine step_nil ?_
    have e9 : findTR_L0 unit (l.drop k0) k0 = findTR_L0 unit (l.drop (k0 + 1)) (k0 + 1) := by
     rewrite [drop_cons hx0]
     rewrite [findTR_L0]
     try dsimp only
     rewrite [if_neg g5]
     all_goals rfl
    exact lup_againT (k0 + 1) ⟨e9.symm.trans hI0, hk0⟩ (by show l.length - (k0 + 1) < l.length - k0; omega) (Trans.ren [] (by decide +kernel) (by decide +kernel) rfl ⟨⟨rfl, rfl⟩, ⟨rfl, rfl⟩, ⟨congrArg (fun n => some (I n)) (wrapI (k := k0) (by first | omega | (simp; omega))), rfl⟩, trivial⟩ trivial (by decide))
  ·have g3 : ¬ ((k0 : Int) < l.length) := of_decide_eq_false h3
   have hk0 : k0 = l.length := by omega
   refine sem_exit ?_
   refine seqK_e ?_
   refine lupK_e ?_
   refine blkK_t rfl ?_
   have e10 : findTR_L0 unit l 0 = .inr () := by
    rewrite [← hI0, hk0, List.drop_length]
    rewrite [findTR_L0]
    try dsimp only
    all_goals rfl
   exact cutW_n () e10 (Trans.ren [] (by decide +kernel) (by decide +kernel) rfl trivial trivial (by decide))
 ·rintro ⟨⟩ (hJ1 : findTR_L0 unit l 0 = .inr ())
  show seqK _ _ _ .normal (⟨[], [], 0, [], 20, 0⟩ : St)
  refine seqK_n ?_
  refine sem_seq ?_
  refine sem_region rfl ?_
  refine step_r rfl rfl trivial ?_
  refine step_nil ?_
  refine seqK_n ?_
  refine sem_ret ?_
  have e11 : findTR l unit = (-1) := by
   unfold findTR
   try dsimp only
   rewrite [hJ1]
   try dsimp only
   all_goals rfl
  rw [e11]
  exact answersR rfl ⟨trivial, trivial⟩ (rfl) rfl

theorem findTR_go (unit : Int) : ∀ (l : List GThreat) (k : Nat), findTR_L0 unit l k = match l.findIdx? (fun x => matchT x unit) with | none => .inr () | some i => .inl ((i + k : Nat) : Int)
  | [], k => by simp [findTR_L0]
  | x :: l, k => by
    rw [findTR_L0, findTR_go unit l (k + 1), List.findIdx?_cons]
    by_cases h : x.Unit = unit
    · simp [h, matchT]
    · have h2 : matchT x unit = false := by simpa [matchT] using h
      rw [if_neg h, h2]
      cases l.findIdx? (fun x => matchT x unit) with
      | none => rfl
      | some i =>
        show Sum.inl (((i + (k + 1) : Nat)) : Int) = Sum.inl (((i + 1 + k : Nat)) : Int)
        congr 1; omega
theorem findTR_eq (l : List GThreat) (unit : Int) : findTR l unit = findT l unit := by
  unfold findTR findT fidx
  rw [findTR_go]
  cases l.findIdx? (fun x => matchT x unit) <;> simp
theorem findTR_lt (l : List GThreat) (unit : Int) : -1 ≤ findTR l unit ∧ findTR l unit < l.length := findTR_eq l unit ▸ findT_lt l unit

def rightTR_L0 (l : List GThreat) : List GThreat → Nat → Sum Bool Unit
  | [], k0 => .inr ()
  | x0 :: l_, k0 => if (x0.Unit : Int) < 1 then .inl false else if (x0.Much : Int) < 0 then .inl false else if (findTR l x0.Unit : Int) = k0 then rightTR_L0 l l_ (k0 + 1) else .inl false
def rightTR (l : List GThreat) : Bool :=
  (match rightTR_L0 l l 0 with
    | .inl r_ => r_
    | .inr () => (decide ((l.length : Int) ≤ 40)))
theorem rightTR_ok (l : List GThreat) (l_f : Bool) : Ok Try.prog 23 [.pv (.slc l.length l_f (l.flatMap encGThreat))] [] (B (rightTR l)) [] [] := by
 refine Ok.len fun hlen => ?_
 have hl_l : l.length ≤ maxLen := hlen _ (by simp [lensL, lens, lensP])
 unfold maxLen at hl_l
 refine ok_of_sem Try.func23 rfl ?_
 show Walks Try.prog _ _ ⟨[(0, .pv (.slc l.length l_f (l.flatMap encGThreat)))], [], 0, [], 38, 0⟩
 refine sem_seq ?_
 refine sem_region rfl ?_
 refine step_r rfl rfl trivial ?_
 refine step_nil ?_
 refine seqK_n ?_
 refine sem_seq ?_
 refine sem_seq ?_
 refine sem_region rfl ?_
 refine step_r rfl rfl trivial ?_
 refine step_nil ?_
 refine seqK_n ?_
 refine sem_cutW (fun w_ : Unit => match w_ with | () => (⟨[(0, .pv (.slc l.length l_f (l.flatMap encGThreat)))], [], 0, [], 38, 0⟩ : St)) (fun w_ => rightTR_L0 l l 0 = .inr w_) ?_ ?_
 ·refine sem_block ?_
  refine sem_loopT (fun k0 : Nat => (⟨[(0, .pv (.slc l.length l_f (l.flatMap encGThreat))), (3, I k0)], [], 0, [], 38, 0⟩ : St)) (fun k0 : Nat => rightTR_L0 l (l.drop k0) k0 = rightTR_L0 l l 0 ∧ k0 ≤ l.length) (fun k0 : Nat => l.length - k0) 0 (⟨rfl, Nat.zero_le _⟩) ?_ (fun k0 hh_ => ?_)
  ·exact (Trans.ren [] (by decide +kernel) (by decide +kernel) rfl ⟨⟨rfl, rfl⟩, ⟨rfl, rfl⟩, trivial⟩ trivial (by decide))
  obtain ⟨hI0, hb0⟩ := hh_
  show Walks Try.prog _ _ (⟨[(0, .pv (.slc l.length l_f (l.flatMap encGThreat))), (3, I k0)], [], 0, [], 38, 0⟩ : St)
  refine sem_seq ?_
  refine sem_seq ?_
  refine sem_region rfl ?_
  refine step_r rfl rfl trivial ?_
  refine step_r rfl rfl trivial ?_
  refine step_r rfl rfl trivial ?_
  refine step_bin rfl rfl rfl rfl rfl trivial ?_
  refine step_nil ?_
  refine seqK_n ?_
  refine sem_cond rfl (fun h3 => ?_) (fun h3 => ?_)
  ·have g3 : (k0 : Int) < l.length := of_decide_eq_true h3
   have hk0 : k0 < l.length := by omega
   obtain ⟨x0, hx0⟩ : ∃ z_, l[k0]? = some z_ := ⟨_, List.getElem?_eq_getElem hk0⟩
   refine sem_skip ?_
   refine seqK_n ?_
   refine sem_seq ?_
   refine sem_block ?_
   refine sem_seq ?_
   refine sem_region rfl ?_
   refine step_r rfl rfl trivial ?_
   refine step_r rfl rfl trivial ?_
   refine step_idxS (k := k0) rfl rfl rfl rfl hk0 (flat_ne (s := 3) (enc := encGThreat) (fun _ => rfl) (by decide) hk0) rfl ?_
   refine step_r rfl rfl (by decide) ?_
   refine step_load_one rfl rfl rfl (flat_get (s := 3) (enc := encGThreat) (fun _ => rfl) hx0 (o := 0) rfl (by decide)) rfl ?_
   refine step_bin rfl rfl rfl rfl rfl trivial ?_
   refine step_r rfl rfl trivial ?_
   refine step_gs rfl (fun h5 => ?_) (fun h5 => ?_)
   ·have g5 : (x0.Unit : Int) < 1 := of_decide_eq_true h5
    refine step_g0 rfl h5 rfl ?_
    refine step_g0 rfl h5 rfl ?_
    refine step_g0 rfl h5 rfl ?_
    refine step_g0 rfl h5 rfl ?_
    refine step_g0 rfl h5 rfl ?_
    refine step_g0 rfl h5 rfl ?_
    refine step_pickT rfl h5 rfl rfl ?_
    refine step_r rfl rfl trivial ?_
    refine step_gf rfl rfl ?_
    refine step_gf rfl rfl ?_
    refine step_gf rfl rfl ?_
    refine step_gf rfl rfl ?_
    refine step_gf rfl rfl ?_
    refine step_gf rfl rfl ?_
    refine step_gf rfl rfl ?_
    refine step_gf rfl rfl ?_
    refine step_gf rfl rfl ?_
    refine step_r rfl rfl trivial ?_
    refine step_nil ?_
    refine seqK_n ?_
    refine sem_condT rfl ?_
    refine sem_seq ?_
    refine sem_region rfl ?_
    refine step_r rfl rfl trivial ?_
    refine step_nil ?_
    refine seqK_n ?_
    refine sem_ret ?_
    refine blkK_r ?_
    refine seqK_r ?_
    refine lupK_r ?_
    refine blkK_r ?_
    refine cutW_r ?_
    refine seqK_r ?_
    have e6 : rightTR_L0 l l 0 = .inl false := by
     rewrite [← hI0, drop_cons hx0]
     rewrite [rightTR_L0]
     try dsimp only
     rewrite [if_pos g5]
     all_goals rfl
    have e7 : rightTR l = false := by
     unfold rightTR
     try dsimp only
     rewrite [e6]
     try dsimp only
     all_goals rfl
    rw [e7]
    exact answersR rfl ⟨trivial, trivial⟩ (rfl) rfl
   ·have g5 : ¬ ((x0.Unit : Int) < 1) := of_decide_eq_false h5
    refine step_g1 rfl h5 ?_
    refine step_r rfl rfl trivial ?_
    refine step_g1 rfl h5 ?_
    refine step_r rfl rfl trivial ?_
    refine step_g1 rfl h5 ?_
    refine step_idxS (k := k0) rfl rfl rfl rfl hk0 (flat_ne (s := 3) (enc := encGThreat) (fun _ => rfl) (by decide) hk0) rfl ?_
    refine step_g1 rfl h5 ?_
    refine step_r rfl rfl (by decide) ?_
    refine step_g1 rfl h5 ?_
    refine step_load_one rfl rfl rfl (flat_get (s := 3) (enc := encGThreat) (fun _ => rfl) hx0 (o := 1) rfl (by decide)) rfl ?_
    refine step_g1 rfl h5 ?_
    refine step_bin rfl rfl rfl rfl rfl trivial ?_
    refine step_pickF rfl h5 rfl rfl ?_
    refine step_r rfl rfl trivial ?_
    refine step_gs rfl (fun h9 => ?_) (fun h9 => ?_)
    ·have g9 : (x0.Much : Int) < 0 := of_decide_eq_true h9
     refine step_g0 rfl h9 rfl ?_
     refine step_g0 rfl h9 rfl ?_
     refine step_g0 rfl h9 rfl ?_
     refine step_g0 rfl h9 rfl ?_
     refine step_g0 rfl h9 rfl ?_
     refine step_g0 rfl h9 rfl ?_
     refine step_g0 rfl h9 rfl ?_
     refine step_g0 rfl h9 rfl ?_
     refine step_g0 rfl h9 rfl ?_
     refine step_pickT rfl h9 rfl rfl ?_
     refine step_nil ?_
     refine seqK_n ?_
     refine sem_condT rfl ?_
     refine sem_seq ?_
     refine sem_region rfl ?_
     refine step_r rfl rfl trivial ?_
     refine step_nil ?_
     refine seqK_n ?_
     refine sem_ret ?_
     refine blkK_r ?_
     refine seqK_r ?_
     refine lupK_r ?_
     refine blkK_r ?_
     refine cutW_r ?_
     refine seqK_r ?_
     have e10 : rightTR_L0 l l 0 = .inl false := by
      rewrite [← hI0, drop_cons hx0]
      rewrite [rightTR_L0]
      try dsimp only
      rewrite [if_neg g5, if_pos g9]
      all_goals rfl
     have e11 : rightTR l = false := by
      unfold rightTR
      try dsimp only
      rewrite [e10]
      try dsimp only
      all_goals rfl
     rw [e11]
     exact answersR rfl ⟨trivial, trivial⟩ (rfl) rfl
    ·have g9 : ¬ ((x0.Much : Int) < 0) := of_decide_eq_false h9
     refine step_g1 rfl h9 ?_
     refine step_r rfl rfl trivial ?_
     refine step_g1 rfl h9 ?_
     refine step_r rfl rfl trivial ?_
     refine step_g1 rfl h9 ?_
     refine step_r rfl rfl trivial ?_
     refine step_g1 rfl h9 ?_
     refine step_idxS (k := k0) rfl rfl rfl rfl hk0 (flat_ne (s := 3) (enc := encGThreat) (fun _ => rfl) (by decide) hk0) rfl ?_
     refine step_g1 rfl h9 ?_
     refine step_r rfl rfl (by decide) ?_
     refine step_g1 rfl h9 ?_
     refine step_load_one rfl rfl rfl (flat_get (s := 3) (enc := encGThreat) (fun _ => rfl) hx0 (o := 0) rfl (by decide)) rfl ?_
     refine step_g1 rfl h9 ?_
     refine step_call rfl rfl rfl rfl (findTR_ok l l_f x0.Unit) rfl rfl rfl ?_
     have p12 := findTR_lt l x0.Unit
     refine step_g1 rfl h9 ?_
     refine step_r rfl rfl trivial ?_
     refine step_g1 rfl h9 ?_
     refine step_bin rfl rfl rfl rfl rfl trivial ?_
     refine step_pickF rfl h9 rfl rfl ?_
     refine step_nil ?_
     refine seqK_n ?_
     refine sem_cond rfl (fun h14 => ?_) (fun h14 => ?_)
     ·have g14 : ¬ ((findTR l x0.Unit : Int) = k0) := bne_t h14
      refine sem_seq ?_
      refine sem_region rfl ?_
      refine step_r rfl rfl trivial ?_
      refine step_nil ?_
      refine seqK_n ?_
      refine sem_ret ?_
      refine blkK_r ?_
      refine seqK_r ?_
      refine lupK_r ?_
      refine blkK_r ?_
      refine cutW_r ?_
      refine seqK_r ?_
      have e15 : rightTR_L0 l l 0 = .inl false := by
       rewrite [← hI0, drop_cons hx0]
       rewrite [rightTR_L0]
       try dsimp only
       rewrite [if_neg g5, if_neg g9, if_neg g14]
       all_goals rfl
      have e16 : rightTR l = false := by
       unfold rightTR
       try dsimp only
       rewrite [e15]
       try dsimp only
       all_goals rfl
      rw [e16]
      exact answersR rfl ⟨trivial, trivial⟩ (rfl) rfl
     ·have g14 : (findTR l x0.Unit : Int) = k0 := bne_f h14
      refine sem_skip ?_
      refine blkK_n ?_
      refine seqK_n ?_
      refine sem_region rfl ?_
      refine step_r rfl rfl trivial ?_
      refine step_bin rfl rfl rfl rfl rfl trivial ?_
      refine step_r rfl rfl trivial ?_
      refine step_nil ?_
      have e18 : rightTR_L0 l (l.drop k0) k0 = rightTR_L0 l (l.drop (k0 + 1)) (k0 + 1) := by
       rewrite [drop_cons hx0]
       rewrite [rightTR_L0]
       try dsimp only
       rewrite [if_neg g5, if_neg g9, if_pos g14]
       all_goals rfl
      exact lup_againT (k0 + 1) ⟨e18.symm.trans hI0, hk0⟩ (by show l.length - (k0 + 1) < l.length - k0; omega) (Trans.ren [] (by decide +kernel) (by decide +kernel) rfl ⟨⟨rfl, rfl⟩, ⟨congrArg (fun n => some (I n)) (wrapI (k := k0) (by first | omega | (simp; omega))), rfl⟩, trivial⟩ trivial (by decide))
  ·have g3 : ¬ ((k0 : Int) < l.length) := of_decide_eq_false h3
   have hk0 : k0 = l.length := by omega
   refine sem_exit ?_
   refine seqK_e ?_
   refine lupK_e ?_
   refine blkK_t rfl ?_
   have e19 : rightTR_L0 l l 0 = .inr () := by
    rewrite [← hI0, hk0, List.drop_length]
    rewrite [rightTR_L0]
    try dsimp only
    all_goals rfl
   exact cutW_n () e19 (Trans.ren [] (by decide +kernel) (by decide +kernel) rfl ⟨⟨rfl, rfl⟩, trivial⟩ trivial (by decide))
 ·rintro ⟨⟩ (hJ1 : rightTR_L0 l l 0 = .inr ())
  show seqK _ _ _ .normal (⟨[(0, .pv (.slc l.length l_f (l.flatMap encGThreat)))], [], 0, [], 38, 0⟩ : St)
  refine seqK_n ?_
  refine sem_seq ?_
  refine sem_region rfl ?_
  refine step_r rfl rfl trivial ?_
  refine step_r rfl rfl trivial ?_
  refine step_bin rfl rfl rfl rfl rfl trivial ?_
  refine step_r rfl rfl trivial ?_
  refine step_nil ?_
  refine seqK_n ?_
  refine sem_ret ?_
  have e21 : rightTR l = (decide ((l.length : Int) ≤ 40)) := by
   unfold rightTR
   try dsimp only
   rewrite [hJ1]
   try dsimp only
   all_goals rfl
  rw [e21]
  exact answersR rfl ⟨trivial, trivial⟩ (rfl) rfl

def muchTR (l : List GThreat) (unit : Int) : Int :=
  if (findTR l unit : Int) < 0 then 0 else (l.getD ((findTR l unit).toNat) default).Much
theorem muchTR_ok (l : List GThreat) (l_f : Bool) (unit : Int) : Ok Try.prog 24 [.pv (.slc l.length l_f (l.flatMap encGThreat)), I unit] [] (I (muchTR l unit)) [] [] := by
 refine Ok.len fun hlen => ?_
 have hl_l : l.length ≤ maxLen := hlen _ (by simp [lensL, lens, lensP])
 unfold maxLen at hl_l
 refine ok_of_sem Try.func24 rfl ?_
 show Walks Try.prog _ _ ⟨[(0, .pv (.slc l.length l_f (l.flatMap encGThreat))), (1, I unit)], [], 0, [], 16, 0⟩
 refine sem_seq ?_
 refine sem_region rfl ?_
 refine step_r rfl rfl trivial ?_
 refine step_nil ?_
 refine seqK_n ?_
 refine sem_seq ?_
 refine sem_region rfl ?_
 refine step_r rfl rfl trivial ?_
 refine step_r rfl rfl trivial ?_
 refine step_call rfl rfl rfl rfl (findTR_ok l l_f unit) rfl rfl rfl ?_
 have p2 := findTR_lt l unit
 refine step_r rfl rfl trivial ?_
 refine step_nil ?_
 refine seqK_n ?_
 refine sem_seq ?_
 refine sem_seq ?_
 refine sem_region rfl ?_
 refine step_r rfl rfl trivial ?_
 refine step_bin rfl rfl rfl rfl rfl trivial ?_
 refine step_nil ?_
 refine seqK_n ?_
 refine sem_cond rfl (fun h4 => ?_) (fun h4 => ?_)
 ·have g4 : (findTR l unit : Int) < 0 := of_decide_eq_true h4
  refine sem_seq ?_
  refine sem_region rfl ?_
  refine step_r rfl rfl trivial ?_
  refine step_nil ?_
  refine seqK_n ?_
  refine sem_ret ?_
  refine seqK_r ?_
  have e5 : muchTR l unit = 0 := by
   unfold muchTR
   try dsimp only
   rewrite [if_pos g4]
   all_goals rfl
  rw [e5]
  exact answersR rfl ⟨trivial, trivial⟩ (rfl) rfl
 ·have g4 : ¬ ((findTR l unit : Int) < 0) := of_decide_eq_false h4
  refine sem_skip ?_
  refine seqK_n ?_
  refine sem_seq ?_
  refine sem_region rfl ?_
  refine step_r rfl rfl trivial ?_
  refine step_r rfl rfl trivial ?_
  have jk6 : (findTR l unit).toNat < l.length := by first | assumption | omega | (simp only [List.length_set, List.length_append]; omega) | (simp only [IntKind.wrap_i64] at *; omega) | (simp; omega) | simp_all
  refine step_idxS' (k := (findTR l unit).toNat) rfl rfl (Int.toNat_of_nonneg (by first | omega | (simp only [IntKind.wrap_i64]; omega) | (simp only [IntKind.wrap_i64] at *; omega) | (simp; omega))).symm rfl rfl jk6 (flat_ne (s := 3) (enc := encGThreat) (fun _ => rfl) (by decide) jk6) rfl ?_
  refine step_r rfl rfl (by decide) ?_
  refine step_load_one rfl rfl rfl (flat_get (s := 3) (enc := encGThreat) (fun _ => rfl) (get_getD jk6) (o := 1) rfl (by decide)) rfl ?_
  refine step_r rfl rfl trivial ?_
  refine step_nil ?_
  refine seqK_n ?_
  refine sem_ret ?_
  have e8 : muchTR l unit = (l.getD ((findTR l unit).toNat) default).Much := by
   unfold muchTR
   try dsimp only
   rewrite [if_neg g4]
   all_goals rfl
  rw [e8]
  exact answersR rfl ⟨trivial, trivial⟩ (rfl) rfl

def copyTR (l : List GThreat) : List GThreat :=
  l
theorem copyTR_ok (l : List GThreat) (l_f : Bool) (hl : l.length ≤ 16777215) : Ok Try.prog 37 [.pv (.slc l.length l_f (l.flatMap encGThreat))] [] (.ref 0 3 0 (copyTR l).length) [.row 40 3 ((copyTR l).flatMap encGThreat)] [] := by
 refine Ok.len fun hlen => ?_
 have hl_l : l.length ≤ maxLen := hlen _ (by simp [lensL, lens, lensP])
 unfold maxLen at hl_l
 refine ok_of_sem Try.func37 rfl ?_
 show Walks Try.prog _ _ ⟨[(0, .pv (.slc l.length l_f (l.flatMap encGThreat)))], [], 0, [], 6, 0⟩
 refine sem_seq ?_
 refine sem_region rfl ?_
 refine step_n (nx' := 1) rfl rfl rfl trivial ?_
 refine step_nil ?_
 refine seqK_n ?_
 refine sem_seq ?_
 refine sem_region rfl ?_
 refine step_r rfl rfl ⟨by decide, rfl⟩ ?_
 refine step_r rfl rfl trivial ?_
 refine step_appendN (m := l.length) (new := l.flatMap encGThreat) (cs' := l.flatMap encGThreat) (n' := l.length) rfl rfl (rfl) rfl rfl rfl rfl rfl rfl (flat_len (s := 3) (enc := encGThreat) (fun _ => rfl) l) (by first | decide | (unfold maxGrow; omega) | (unfold maxGrow; simp; omega) | (unfold maxGrow; simp only [List.length_append, List.length_take, List.length_drop, List.length_cons, List.length_nil, IntKind.wrap_i64] at *; omega)) rfl rfl rfl rfl ?_
 refine step_r rfl rfl trivial ?_
 refine step_nil ?_
 refine seqK_n ?_
 refine sem_ret ?_
 have e1 : copyTR l = l := by
  unfold copyTR
  try dsimp only
  all_goals rfl
 rw [e1]
 exact answersGR [] [1] rfl ⟨trivial, trivial⟩ rfl (by (repeat' apply And.intro) <;> first | trivial | rfl | exact flat_len (fun _ => rfl) _ | exact encI_len _ | exact encB_len _ | exact encY_len _ | assumption) (rfl) rfl rfl rfl (by decide) rfl rfl ⟨⟨rfl, rfl⟩, trivial⟩

theorem copyTR_eq (l : List GThreat) : copyTR l = l := by unfold copyTR; simp
theorem copyTR_len (l : List GThreat) : (copyTR l).length = l.length := by rw [copyTR_eq]

def addTR (l : List GThreat) (unit : Int) (much : Int) : (List GThreat) × Int :=
  if rightTR l = true then (if (unit : Int) < 1 then ([], 1) else if (findTR l unit : Int) ≥ 0 then (((copyTR l).set (findTR l unit).toNat { ((copyTR l).getD ((findTR l unit).toNat) default) with Much := (max (addR (((copyTR l).getD ((findTR l unit).toNat) default).Much) much) 0) }), 0) else if (l.length : Int) ≥ 40 then ([], 4) else (((copyTR l) ++ [(⟨unit, (max much 0), (-9223372036854775808)⟩ : GThreat)]), 0)) else ([], 1)
theorem addTR_ok (l : List GThreat) (l_f : Bool) (unit : Int) (much : Int) (hl : l.length ≤ 16777215) : Ok Try.prog 17 [.pv (.slc l.length l_f (l.flatMap encGThreat)), I unit, I much] [] (.tup [.ref 0 3 0 (addTR l unit much).1.length, I (addTR l unit much).2]) [.row 40 3 ((addTR l unit much).1.flatMap encGThreat)] [] := by
 refine Ok.len fun hlen => ?_
 have hl_l : l.length ≤ maxLen := hlen _ (by simp [lensL, lens, lensP])
 unfold maxLen at hl_l
 refine ok_of_sem Try.func17 rfl ?_
 show Walks Try.prog _ _ ⟨[(0, .pv (.slc l.length l_f (l.flatMap encGThreat))), (1, I unit), (2, I much)], [], 0, [], 49, 0⟩
 refine sem_seq ?_
 refine sem_region rfl ?_
 refine step_n (nx' := 1) rfl rfl rfl trivial ?_
 refine step_r rfl rfl trivial ?_
 refine step_nil ?_
 refine seqK_n ?_
 refine sem_seq ?_
 refine sem_region rfl ?_
 refine step_r rfl rfl trivial ?_
 refine step_call rfl rfl rfl rfl (rightTR_ok l l_f) rfl rfl rfl ?_
 refine step_r rfl rfl trivial ?_
 refine step_nil ?_
 refine seqK_n ?_
 refine sem_seq ?_
 refine sem_seq ?_
 refine sem_region rfl ?_
 refine step_r rfl rfl trivial ?_
 refine step_r rfl rfl trivial ?_
 refine step_r rfl rfl trivial ?_
 refine step_gs rfl (fun h3 => ?_) (fun h3 => ?_)
 ·have g3 : ¬ (rightTR l = true) := boo_f (not_t h3)
  refine step_g0 rfl h3 rfl ?_
  refine step_g0 rfl h3 rfl ?_
  refine step_pickT rfl h3 rfl rfl ?_
  refine step_nil ?_
  refine seqK_n ?_
  refine sem_condT rfl ?_
  refine sem_seq ?_
  refine sem_region rfl ?_
  refine step_n (nx' := 2) rfl rfl rfl trivial ?_
  refine step_r rfl rfl trivial ?_
  refine step_nil ?_
  refine seqK_n ?_
  refine sem_ret ?_
  refine seqK_r ?_
  have e4 : addTR l unit much = ([], 1) := by
   unfold addTR
   try dsimp only
   rewrite [if_neg g3]
   all_goals rfl
  rw [e4]
  exact answersGR [] [1] rfl ⟨trivial, trivial, trivial⟩ rfl (by (repeat' apply And.intro) <;> first | trivial | rfl | exact flat_len (fun _ => rfl) _ | exact encI_len _ | exact encB_len _ | exact encY_len _ | assumption) (rfl) rfl rfl rfl (by decide) rfl rfl ⟨⟨rfl, rfl⟩, trivial⟩
 ·have g3 : rightTR l = true := (not_f h3)
  refine step_g1 rfl h3 ?_
  refine step_r rfl rfl trivial ?_
  refine step_g1 rfl h3 ?_
  refine step_bin rfl rfl rfl rfl rfl trivial ?_
  refine step_pickF rfl h3 rfl rfl ?_
  refine step_nil ?_
  refine seqK_n ?_
  refine sem_cond rfl (fun h7 => ?_) (fun h7 => ?_)
  ·have g7 : (unit : Int) < 1 := of_decide_eq_true h7
   refine sem_seq ?_
   refine sem_region rfl ?_
   refine step_n (nx' := 2) rfl rfl rfl trivial ?_
   refine step_r rfl rfl trivial ?_
   refine step_nil ?_
   refine seqK_n ?_
   refine sem_ret ?_
   refine seqK_r ?_
   have e8 : addTR l unit much = ([], 1) := by
    unfold addTR
    try dsimp only
    rewrite [if_pos g3, if_pos g7]
    all_goals rfl
   rw [e8]
   exact answersGR [] [1] rfl ⟨trivial, trivial, trivial⟩ rfl (by (repeat' apply And.intro) <;> first | trivial | rfl | exact flat_len (fun _ => rfl) _ | exact encI_len _ | exact encB_len _ | exact encY_len _ | assumption) (rfl) rfl rfl rfl (by decide) rfl rfl ⟨⟨rfl, rfl⟩, trivial⟩
  ·have g7 : ¬ ((unit : Int) < 1) := of_decide_eq_false h7
   refine sem_skip ?_
   refine seqK_n ?_
   refine sem_seq ?_
   refine sem_region rfl ?_
   refine step_r rfl rfl trivial ?_
   refine step_callJ (Hin := []) (out' := .ref 1 _ _ _) (H' := [(1, .row _ _ _), (0, .row _ _ _)]) (nx' := 2) [] rfl rfl rfl rfl rfl rfl rfl rfl rfl (by (repeat' apply And.intro) <;> first | trivial | rfl | exact flat_len (fun _ => rfl) _ | exact encI_len _ | exact encB_len _ | exact encY_len _ | exact Nat.le_of_ble_eq_true rfl | assumption) (copyTR_ok l false (by first | omega | (simp; omega))) rfl (by decide) rfl rfl ⟨encGThreat_solid, trivial⟩ rfl rfl rfl rfl ?_
   have p9 := copyTR_len l
   refine step_r rfl rfl trivial ?_
   refine step_nil ?_
   refine seqK_n ?_
   refine sem_seq ?_
   refine sem_region rfl ?_
   refine step_r rfl rfl trivial ?_
   refine step_r rfl rfl trivial ?_
   refine step_call rfl rfl rfl rfl (findTR_ok l l_f unit) rfl rfl rfl ?_
   have p10 := findTR_lt l unit
   refine step_r rfl rfl trivial ?_
   refine step_nil ?_
   refine seqK_n ?_
   refine sem_seq ?_
   refine sem_seq ?_
   refine sem_region rfl ?_
   refine step_r rfl rfl trivial ?_
   refine step_bin rfl rfl rfl rfl rfl trivial ?_
   refine step_nil ?_
   refine seqK_n ?_
   refine sem_cond rfl (fun h12 => ?_) (fun h12 => ?_)
   ·have g12 : (findTR l unit : Int) ≥ 0 := of_decide_eq_true h12
    refine sem_seq ?_
    refine sem_region rfl ?_
    refine step_r rfl rfl trivial ?_
    refine step_r rfl rfl trivial ?_
    refine step_r rfl rfl trivial ?_
    refine step_r rfl rfl trivial ?_
    have jk13 : (findTR l unit).toNat < (copyTR l).length := by first | assumption | omega | (simp only [List.length_set, List.length_append]; omega) | (simp only [IntKind.wrap_i64] at *; omega) | (simp; omega) | simp_all
    refine step_idxR' (k := (findTR l unit).toNat) rfl rfl (Int.toNat_of_nonneg (by first | omega | (simp only [IntKind.wrap_i64]; omega) | (simp only [IntKind.wrap_i64] at *; omega) | (simp; omega))).symm rfl rfl jk13 rfl ?_
    refine step_r rfl rfl (by decide) ?_
    refine step_load_oneR rfl rfl rfl rfl (flat_get (s := 3) (enc := encGThreat) (fun _ => rfl) (get_getD jk13) (o := 1) rfl (by decide)) rfl ?_
    refine step_r rfl rfl trivial ?_
    refine step_call rfl rfl rfl rfl (addR_ok (((copyTR l).getD ((findTR l unit).toNat) default).Much) much) rfl rfl rfl ?_
    refine step_max rfl rfl rfl ?_
    refine step_idxR' (k := (findTR l unit).toNat) rfl rfl (Int.toNat_of_nonneg (by first | omega | (simp only [IntKind.wrap_i64]; omega) | (simp only [IntKind.wrap_i64] at *; omega) | (simp; omega))).symm rfl rfl jk13 rfl ?_
    refine step_r rfl rfl (by decide) ?_
    refine step_storeR rfl rfl rfl rfl (by have := flat_lt (s := 3) (enc := encGThreat) (fun _ => rfl) jk13; show ((findTR l unit).toNat) * 3 + 1 < _; omega) (flat_set (enc := encGThreat) (s := 3) (y := { ((copyTR l).getD ((findTR l unit).toNat) default) with Much := (max (addR (((copyTR l).getD ((findTR l unit).toNat) default).Much) much) 0) }) (fun _ => rfl) (get_getD jk13) (by decide) rfl) (.inl rfl) rfl ?_
    refine step_nil ?_
    refine seqK_n ?_
    refine sem_seq ?_
    refine sem_region rfl ?_
    refine step_r rfl rfl trivial ?_
    refine step_r rfl rfl trivial ?_
    refine step_r rfl rfl trivial ?_
    refine step_nil ?_
    refine seqK_n ?_
    refine sem_ret ?_
    refine seqK_r ?_
    have e15 : addTR l unit much = (((copyTR l).set (findTR l unit).toNat { ((copyTR l).getD ((findTR l unit).toNat) default) with Much := (max (addR (((copyTR l).getD ((findTR l unit).toNat) default).Much) much) 0) }), 0) := by
     unfold addTR
     try dsimp only
     rewrite [if_pos g3, if_neg g7, if_pos g12]
     all_goals rfl
    rw [e15]
    try simp only [List.length_set]
    exact answersGR [] [1] rfl ⟨trivial, trivial, trivial⟩ rfl (by (repeat' apply And.intro) <;> first | trivial | rfl | exact flat_len (fun _ => rfl) _ | exact encI_len _ | exact encB_len _ | exact encY_len _ | assumption) (rfl) rfl rfl rfl (by decide) rfl rfl ⟨⟨rfl, rfl⟩, trivial⟩
   ·have g12 : ¬ ((findTR l unit : Int) ≥ 0) := of_decide_eq_false h12
    refine sem_skip ?_
    refine seqK_n ?_
    refine sem_seq ?_
    refine sem_seq ?_
    refine sem_region rfl ?_
    refine step_r rfl rfl trivial ?_
    refine step_r rfl rfl trivial ?_
    refine step_bin rfl rfl rfl rfl rfl trivial ?_
    refine step_nil ?_
    refine seqK_n ?_
    refine sem_cond rfl (fun h16 => ?_) (fun h16 => ?_)
    ·have g16 : (l.length : Int) ≥ 40 := of_decide_eq_true h16
     refine sem_seq ?_
     refine sem_region rfl ?_
     refine step_n (nx' := 3) rfl rfl rfl trivial ?_
     refine step_r rfl rfl trivial ?_
     refine step_nil ?_
     refine seqK_n ?_
     refine sem_ret ?_
     refine seqK_r ?_
     have e17 : addTR l unit much = ([], 4) := by
      unfold addTR
      try dsimp only
      rewrite [if_pos g3, if_neg g7, if_neg g12, if_pos g16]
      all_goals rfl
     rw [e17]
     exact answersGR [] [2] rfl ⟨trivial, trivial, trivial⟩ rfl (by (repeat' apply And.intro) <;> first | trivial | rfl | exact flat_len (fun _ => rfl) _ | exact encI_len _ | exact encB_len _ | exact encY_len _ | assumption) (rfl) rfl rfl rfl (by decide) rfl rfl ⟨⟨rfl, rfl⟩, trivial⟩
    ·have g16 : ¬ ((l.length : Int) ≥ 40) := of_decide_eq_false h16
     refine sem_skip ?_
     refine seqK_n ?_
     refine sem_seq ?_
     refine sem_region rfl ?_
     refine step_r rfl rfl trivial ?_
     refine step_r rfl rfl trivial ?_
     refine step_r rfl rfl trivial ?_
     refine step_max rfl rfl rfl ?_
     refine step_r (v := (.agg [_, _, _])) rfl rfl trivial ?_
     refine step_n (o := .row _ _ [_, _, _]) (nx' := 3) rfl rfl rfl (by decide) ?_
     refine step_appendC (m := 1) (new := [_, _, _]) (cs' := ((copyTR l) ++ [(⟨unit, (max much 0), (-9223372036854775808)⟩ : GThreat)]).flatMap encGThreat) (n' := ((copyTR l) ++ [(⟨unit, (max much 0), (-9223372036854775808)⟩ : GThreat)]).length) (H' := [(2, .row _ _ _), (1, .row _ _ _), (0, .row _ _ _)]) rfl rfl rfl (rfl) rfl rfl rfl rfl rfl rfl (flat_len (s := 3) (enc := encGThreat) (fun _ => rfl) (copyTR l)) (rfl) (by first | decide | (unfold maxGrow; omega) | (unfold maxGrow; simp; omega) | (unfold maxGrow; simp only [List.length_append, List.length_take, List.length_drop, List.length_cons, List.length_nil, IntKind.wrap_i64] at *; omega)) (len_snoc (copyTR l) _) (((flat_snoc (enc := encGThreat) (l := (copyTR l)) (⟨unit, (max much 0), (-9223372036854775808)⟩ : GThreat))).symm) (.inl rfl) rfl rfl (.keep rfl (.keep rfl (.keep rfl .nil))) (.keep rfl (.keep rfl (.keep rfl (.keep rfl (.keep rfl (.lose (v' := .undef) rfl (.keep rfl (.keep rfl (.keep rfl (.keep rfl (.keep rfl (.keep rfl (.keep rfl (.keep rfl (.keep rfl (.lose (v' := .undef) rfl (.lose (v' := .undef) rfl (.keep rfl (.keep rfl (.keep rfl (.keep rfl (.keep rfl (.keep rfl (.keep rfl (.keep rfl (.keep rfl (.keep rfl (.keep rfl (.keep rfl (.keep rfl (.keep rfl (.keep rfl .nil)))))))))))))))))))))))))))))))) ?_
     refine step_r rfl rfl trivial ?_
     refine step_r rfl rfl trivial ?_
     refine step_nil ?_
     refine seqK_n ?_
     refine sem_ret ?_
     have e19 : addTR l unit much = (((copyTR l) ++ [(⟨unit, (max much 0), (-9223372036854775808)⟩ : GThreat)]), 0) := by
      unfold addTR
      try dsimp only
      rewrite [if_pos g3, if_neg g7, if_neg g12, if_neg g16]
      all_goals rfl
     rw [e19]
     exact answersGR [] [1] rfl ⟨trivial, trivial, trivial⟩ rfl (by (repeat' apply And.intro) <;> first | trivial | rfl | exact flat_len (fun _ => rfl) _ | exact encI_len _ | exact encB_len _ | exact encY_len _ | assumption) (rfl) rfl rfl rfl (by decide) rfl rfl ⟨⟨rfl, rfl⟩, trivial⟩

theorem addTR_len (l : List GThreat) (u m : Int) : (addTR l u m).1.length ≤ l.length + 1 := by
  unfold addTR
  rw [copyTR_eq]
  dsimp only
  repeat' split
  all_goals simp

def dropTR (l : List GThreat) (unit : Int) : (List GThreat) × Bool :=
  if (findTR l unit : Int) < 0 then ((copyTR l), false) else (((copyTR (l.take (((findTR l unit)).toNat))) ++ (l.drop (((IntKind.i64.wrap ((findTR l unit) + 1))).toNat))), true)
theorem dropTR_ok (l : List GThreat) (l_f : Bool) (unit : Int) (hl : l.length ≤ 16777215) : Ok Try.prog 19 [.pv (.slc l.length l_f (l.flatMap encGThreat)), I unit] [] (.tup [.ref 0 3 0 (dropTR l unit).1.length, B (dropTR l unit).2]) [.row 40 3 ((dropTR l unit).1.flatMap encGThreat)] [] := by
 refine Ok.len fun hlen => ?_
 have hl_l : l.length ≤ maxLen := hlen _ (by simp [lensL, lens, lensP])
 unfold maxLen at hl_l
 refine ok_of_sem Try.func19 rfl ?_
 show Walks Try.prog _ _ ⟨[(0, .pv (.slc l.length l_f (l.flatMap encGThreat))), (1, I unit)], [], 0, [], 23, 0⟩
 refine sem_seq ?_
 refine sem_region rfl ?_
 refine step_n (nx' := 1) rfl rfl rfl trivial ?_
 refine step_r rfl rfl trivial ?_
 refine step_nil ?_
 refine seqK_n ?_
 refine sem_seq ?_
 refine sem_region rfl ?_
 refine step_r rfl rfl trivial ?_
 refine step_r rfl rfl trivial ?_
 refine step_call rfl rfl rfl rfl (findTR_ok l l_f unit) rfl rfl rfl ?_
 have p2 := findTR_lt l unit
 refine step_r rfl rfl trivial ?_
 refine step_nil ?_
 refine seqK_n ?_
 refine sem_seq ?_
 refine sem_seq ?_
 refine sem_region rfl ?_
 refine step_r rfl rfl trivial ?_
 refine step_bin rfl rfl rfl rfl rfl trivial ?_
 refine step_nil ?_
 refine seqK_n ?_
 refine sem_cond rfl (fun h4 => ?_) (fun h4 => ?_)
 ·have g4 : (findTR l unit : Int) < 0 := of_decide_eq_true h4
  refine sem_seq ?_
  refine sem_region rfl ?_
  refine step_r rfl rfl trivial ?_
  refine step_callJ (Hin := []) (out' := .ref 1 _ _ _) (H' := [(1, .row _ _ _), (0, .row _ _ _)]) (nx' := 2) [] rfl rfl rfl rfl rfl rfl rfl rfl rfl (by (repeat' apply And.intro) <;> first | trivial | rfl | exact flat_len (fun _ => rfl) _ | exact encI_len _ | exact encB_len _ | exact encY_len _ | exact Nat.le_of_ble_eq_true rfl | assumption) (copyTR_ok l false (by first | omega | (simp; omega))) rfl (by decide) rfl rfl ⟨encGThreat_solid, trivial⟩ rfl rfl rfl rfl ?_
  have p5 := copyTR_len l
  refine step_r rfl rfl trivial ?_
  refine step_r rfl rfl trivial ?_
  refine step_nil ?_
  refine seqK_n ?_
  refine sem_ret ?_
  refine seqK_r ?_
  have e6 : dropTR l unit = ((copyTR l), false) := by
   unfold dropTR
   try dsimp only
   rewrite [if_pos g4]
   all_goals rfl
  rw [e6]
  exact answersGR [] [1] rfl ⟨trivial, trivial, trivial⟩ rfl (by (repeat' apply And.intro) <;> first | trivial | rfl | exact flat_len (fun _ => rfl) _ | exact encI_len _ | exact encB_len _ | exact encY_len _ | assumption) (rfl) rfl rfl rfl (by decide) rfl rfl ⟨⟨rfl, rfl⟩, trivial⟩
 ·have g4 : ¬ ((findTR l unit : Int) < 0) := of_decide_eq_false h4
  refine sem_skip ?_
  refine seqK_n ?_
  refine sem_seq ?_
  refine sem_drawn rfl (by decide +kernel) rfl ?_
  refine step_r rfl rfl trivial ?_
  refine step_r rfl rfl trivial ?_
  refine step_slcTo (k := ((findTR l unit)).toNat) (n' := (l.take (((findTR l unit)).toNat)).length) (cs' := (l.take (((findTR l unit)).toNat)).flatMap encGThreat) rfl rfl (Int.toNat_of_nonneg (by first | omega | (simp only [IntKind.wrap_i64]; omega))).symm rfl rfl (by first | omega | (simp only [IntKind.wrap_i64]; omega) | (simp; omega)) (by rw [List.length_take]; first | omega | (simp only [IntKind.wrap_i64]; omega)) (flat_upto (s := 3) (fun _ => rfl) l (((findTR l unit)).toNat) (by first | omega | (simp only [IntKind.wrap_i64]; omega))) rfl ?_
  refine step_callJ (Hin := []) (out' := .ref 1 _ _ _) (H' := [(1, .row _ _ _), (0, .row _ _ _)]) (nx' := 2) [] rfl rfl rfl rfl rfl rfl rfl rfl rfl (by (repeat' apply And.intro) <;> first | trivial | rfl | exact flat_len (fun _ => rfl) _ | exact encI_len _ | exact encB_len _ | exact encY_len _ | exact Nat.le_of_ble_eq_true rfl | assumption) (copyTR_ok (l.take (((findTR l unit)).toNat)) false (by first | omega | (simp; omega))) rfl (by decide) rfl rfl ⟨encGThreat_solid, trivial⟩ rfl rfl rfl rfl ?_
  have p7 := copyTR_len (l.take (((findTR l unit)).toNat))
  refine step_r rfl rfl trivial ?_
  refine step_r rfl rfl trivial ?_
  refine step_bin rfl rfl rfl rfl rfl trivial ?_
  refine step_slcFrom (k := ((IntKind.i64.wrap ((findTR l unit) + 1))).toNat) (n' := (l.drop (((IntKind.i64.wrap ((findTR l unit) + 1))).toNat)).length) (cs' := (l.drop (((IntKind.i64.wrap ((findTR l unit) + 1))).toNat)).flatMap encGThreat) rfl rfl (Int.toNat_of_nonneg (by first | omega | (simp only [IntKind.wrap_i64]; omega))).symm rfl rfl (by first | omega | (simp only [IntKind.wrap_i64]; omega) | (simp; omega)) (List.length_drop ..).symm (flat_from (s := 3) (fun _ => rfl) l (((IntKind.i64.wrap ((findTR l unit) + 1))).toNat)) rfl ?_
  refine step_appendC (m := (l.drop (((IntKind.i64.wrap ((findTR l unit) + 1))).toNat)).length) (new := (l.drop (((IntKind.i64.wrap ((findTR l unit) + 1))).toNat)).flatMap encGThreat) (cs' := ((copyTR (l.take (((findTR l unit)).toNat))) ++ (l.drop (((IntKind.i64.wrap ((findTR l unit) + 1))).toNat))).flatMap encGThreat) (n' := ((copyTR (l.take (((findTR l unit)).toNat))) ++ (l.drop (((IntKind.i64.wrap ((findTR l unit) + 1))).toNat))).length) (H' := [(1, .row _ _ _), (0, .row _ _ _)]) rfl rfl rfl (rfl) rfl rfl rfl rfl rfl rfl (flat_len (s := 3) (enc := encGThreat) (fun _ => rfl) (copyTR (l.take (((findTR l unit)).toNat)))) (flat_len (s := 3) (enc := encGThreat) (fun _ => rfl) (l.drop (((IntKind.i64.wrap ((findTR l unit) + 1))).toNat))) (by first | decide | (unfold maxGrow; omega) | (unfold maxGrow; simp; omega) | (unfold maxGrow; simp only [List.length_append, List.length_take, List.length_drop, List.length_cons, List.length_nil, IntKind.wrap_i64] at *; omega)) (len_append (copyTR (l.take (((findTR l unit)).toNat))) (l.drop (((IntKind.i64.wrap ((findTR l unit) + 1))).toNat))) (flat_append encGThreat _ _) (.inr (by decide +kernel)) rfl rfl (.keep rfl (.keep rfl .nil)) (.keep rfl (.keep rfl (.keep rfl (.keep rfl (.lose (v' := .undef) rfl (.keep rfl (.keep rfl (.keep rfl (.keep rfl (.keep rfl (.keep rfl (.keep rfl (.keep rfl (.keep rfl (.keep rfl (.keep rfl (.keep rfl (.keep rfl .nil)))))))))))))))))) ?_
  refine step_r rfl rfl trivial ?_
  refine step_r rfl rfl trivial ?_
  refine step_nil ?_
  refine seqK_n ?_
  refine sem_ret ?_
  have e8 : dropTR l unit = (((copyTR (l.take (((findTR l unit)).toNat))) ++ (l.drop (((IntKind.i64.wrap ((findTR l unit) + 1))).toNat))), true) := by
   unfold dropTR
   try dsimp only
   rewrite [if_neg g4]
   all_goals rfl
  rw [e8]
  exact answersGR [] [1] rfl ⟨trivial, trivial, trivial⟩ rfl (by (repeat' apply And.intro) <;> first | trivial | rfl | exact flat_len (fun _ => rfl) _ | exact encI_len _ | exact encB_len _ | exact encY_len _ | assumption) (rfl) rfl rfl rfl (by decide) rfl rfl ⟨⟨rfl, rfl⟩, trivial⟩

theorem addTR_has {l : List GThreat} {u m : Int} (h : (addTR l u m).2 = 0) : ∃ x ∈ (addTR l u m).1, x.Unit = u := by
  have hlt := findT_lt l u
  unfold addTR at h ⊢
  rw [findTR_eq, copyTR_eq] at h ⊢
  split at h
  · rename_i h1
    rw [if_pos h1]
    split at h
    · cases h
    · rename_i h2
      rw [if_neg h2]
      split at h
      · rename_i h3
        rw [if_pos h3]
        obtain ⟨k, hk⟩ : ∃ k : Nat, findT l u = k := ⟨(findT l u).toNat, by omega⟩
        refine ⟨_, List.mem_set (by rw [hk]; simp; omega) _, ?_⟩
        unfold findT at hk
        rcases fidx_cases (fun x_ => matchT x_ u) l with ⟨h4, _⟩ | ⟨j, x, h4, h5, h6, _⟩
        · rw [h4] at hk; omega
        · show (l.getD (findT l u).toNat default).Unit = u
          rw [show findT l u = (j : Int) from h4, Int.toNat_natCast, List.getD_eq_getElem?_getD, h5]
          simpa [matchT] using h6
      · rename_i h3
        rw [if_neg h3]
        split at h
        · cases h
        · rename_i h4
          rw [if_neg h4]
          exact ⟨⟨u, max m 0, -9223372036854775808⟩, by simp, rfl⟩
  · cases h

def tauntTR_L0 : List GThreat → Nat → Int → Int
  | [], k0, most0 => most0
  | x0 :: l_, k0, most0 => tauntTR_L0 l_ (k0 + 1) (max most0 x0.Much)
def tauntTR (l : List GThreat) (unit : Int) (now : Int) (ticks : Int) : (List GThreat) × Int :=
  if ((addTR l unit 0).2 : Int) = 0 then (let most_0 := tauntTR_L0 ((addTR l unit 0).1) 0 0; ((((addTR l unit 0).1.set (findTR ((addTR l unit 0).1) unit).toNat { (((addTR l unit 0).1).getD ((findTR ((addTR l unit 0).1) unit).toNat) default) with Much := most_0 }).set (findTR ((addTR l unit 0).1) unit).toNat { (((addTR l unit 0).1.set (findTR ((addTR l unit 0).1) unit).toNat { (((addTR l unit 0).1).getD ((findTR ((addTR l unit 0).1) unit).toNat) default) with Much := most_0 }).getD ((findTR ((addTR l unit 0).1) unit).toNat) default) with Taunt := (addR now ticks) }), 0)) else ([], (addTR l unit 0).2)
theorem tauntTR_ok (l : List GThreat) (l_f : Bool) (unit : Int) (now : Int) (ticks : Int) (hl : l.length ≤ 16777215) : Ok Try.prog 18 [.pv (.slc l.length l_f (l.flatMap encGThreat)), I unit, I now, I ticks] [] (.tup [.ref 0 3 0 (tauntTR l unit now ticks).1.length, I (tauntTR l unit now ticks).2]) [.row 40 3 ((tauntTR l unit now ticks).1.flatMap encGThreat)] [] := by
 refine Ok.len fun hlen => ?_
 have hl_l : l.length ≤ maxLen := hlen _ (by simp [lensL, lens, lensP])
 unfold maxLen at hl_l
 refine ok_of_sem Try.func18 rfl ?_
 show Walks Try.prog _ _ ⟨[(0, .pv (.slc l.length l_f (l.flatMap encGThreat))), (1, I unit), (2, I now), (3, I ticks)], [], 0, [], 53, 0⟩
 refine sem_seq ?_
 refine sem_region rfl ?_
 refine step_n (nx' := 1) rfl rfl rfl trivial ?_
 refine step_r rfl rfl trivial ?_
 refine step_nil ?_
 refine seqK_n ?_
 refine sem_seq ?_
 refine sem_region rfl ?_
 refine step_r rfl rfl trivial ?_
 refine step_r rfl rfl trivial ?_
 refine step_callJ (Hin := []) (out' := .tup [.ref 1 _ _ _, _]) (H' := [(1, .row _ _ _), (0, .row _ _ _)]) (nx' := 2) [] rfl rfl rfl rfl rfl rfl rfl rfl rfl (by (repeat' apply And.intro) <;> first | trivial | rfl | exact flat_len (fun _ => rfl) _ | exact encI_len _ | exact encB_len _ | exact encY_len _ | exact Nat.le_of_ble_eq_true rfl | assumption) (addTR_ok l false unit 0 (by first | omega | (simp; omega))) rfl (by decide) rfl rfl ⟨encGThreat_solid, trivial⟩ rfl rfl rfl rfl ?_
 have p2 := addTR_len l unit 0
 refine step_r rfl rfl trivial ?_
 refine step_r rfl rfl trivial ?_
 refine step_r rfl rfl trivial ?_
 refine step_r rfl rfl trivial ?_
 refine step_r rfl rfl trivial ?_
 refine step_nil ?_
 refine seqK_n ?_
 refine sem_seq ?_
 refine sem_seq ?_
 refine sem_region rfl ?_
 refine step_r rfl rfl trivial ?_
 refine step_bin rfl rfl rfl rfl rfl trivial ?_
 refine step_nil ?_
 refine seqK_n ?_
 refine sem_cond rfl (fun h4 => ?_) (fun h4 => ?_)
 ·have g4 : ¬ (((addTR l unit 0).2 : Int) = 0) := bne_t h4
  refine sem_seq ?_
  refine sem_region rfl ?_
  refine step_r rfl rfl trivial ?_
  refine step_n (nx' := 3) rfl rfl rfl trivial ?_
  refine step_r rfl rfl trivial ?_
  refine step_nil ?_
  refine seqK_n ?_
  refine sem_ret ?_
  refine seqK_r ?_
  have e5 : tauntTR l unit now ticks = ([], (addTR l unit 0).2) := by
   unfold tauntTR
   try dsimp only
   rewrite [if_neg g4]
   all_goals rfl
  rw [e5]
  exact answersGR [] [2] rfl ⟨trivial, trivial, trivial⟩ rfl (by (repeat' apply And.intro) <;> first | trivial | rfl | exact flat_len (fun _ => rfl) _ | exact encI_len _ | exact encB_len _ | exact encY_len _ | assumption) (rfl) rfl rfl rfl (by decide) rfl rfl ⟨⟨rfl, rfl⟩, trivial⟩
 ·have g4 : ((addTR l unit 0).2 : Int) = 0 := bne_f h4
  have hA := addTR_has (l := l) (u := unit) (m := 0) (by omega)
  have hF : 0 ≤ findTR (addTR l unit 0).1 unit := by rw [findTR_eq]; exact findT_some hA
  refine sem_skip ?_
  refine seqK_n ?_
  refine sem_seq ?_
  refine sem_region rfl ?_
  refine step_r rfl rfl trivial ?_
  refine step_nil ?_
  refine seqK_n ?_
  refine sem_seq ?_
  refine sem_seq ?_
  refine sem_region rfl ?_
  refine step_r rfl rfl trivial ?_
  refine step_nil ?_
  refine seqK_n ?_
  refine sem_cutW (fun most_0 : Int => (⟨[(1, I unit), (2, I now), (3, I ticks), (10, .ref 0 3 0 (addTR l unit 0).1.length), (12, I most_0)], [(0, .row 40 3 ((addTR l unit 0).1.flatMap encGThreat))], 1, [], 53, 0⟩ : St)) (fun w_ => tauntTR_L0 ((addTR l unit 0).1) 0 0 = w_) ?_ ?_
  ·refine sem_block ?_
   refine sem_loopT (fun w_ : Nat × Int => match w_ with | (k0, most0) => (⟨[(1, I unit), (2, I now), (3, I ticks), (10, .ref 0 3 0 (addTR l unit 0).1.length), (12, I most0), (13, I k0)], [(0, .row 40 3 ((addTR l unit 0).1.flatMap encGThreat))], 1, [], 53, 0⟩ : St)) (fun w_ : Nat × Int => match w_ with | (k0, most0) => tauntTR_L0 (((addTR l unit 0).1).drop k0) k0 most0 = tauntTR_L0 ((addTR l unit 0).1) 0 0 ∧ k0 ≤ ((addTR l unit 0).1).length) (fun w_ : Nat × Int => match w_ with | (k0, most0) => ((addTR l unit 0).1).length - k0) (0, 0) (⟨rfl, Nat.zero_le _⟩) ?_ (fun w_ hh_ => ?_)
   ·exact (Trans.ren [(0, 1), (1, 0)] (by decide +kernel) (by decide +kernel) rfl ⟨⟨rfl, rfl⟩, ⟨rfl, rfl⟩, ⟨rfl, rfl⟩, ⟨rfl, rfl⟩, ⟨rfl, rfl⟩, ⟨rfl, rfl⟩, trivial⟩ ⟨⟨rfl, rfl, rfl⟩, trivial⟩ (by decide))
   obtain ⟨k0, most0⟩ := w_
   obtain ⟨hI0, hb0⟩ := hh_
   show Walks Try.prog _ _ (⟨[(1, I unit), (2, I now), (3, I ticks), (10, .ref 0 3 0 (addTR l unit 0).1.length), (12, I most0), (13, I k0)], [(0, .row 40 3 ((addTR l unit 0).1.flatMap encGThreat))], 1, [], 53, 0⟩ : St)
   refine sem_seq ?_
   refine sem_seq ?_
   refine sem_region rfl ?_
   refine step_r rfl rfl trivial ?_
   refine step_r rfl rfl trivial ?_
   refine step_r rfl rfl trivial ?_
   refine step_bin rfl rfl rfl rfl rfl trivial ?_
   refine step_nil ?_
   refine seqK_n ?_
   refine sem_cond rfl (fun h8 => ?_) (fun h8 => ?_)
   ·have g8 : (k0 : Int) < ((addTR l unit 0).1.length) := of_decide_eq_true h8
    have hk0 : k0 < ((addTR l unit 0).1).length := by omega
    obtain ⟨x0, hx0⟩ : ∃ z_, ((addTR l unit 0).1)[k0]? = some z_ := ⟨_, List.getElem?_eq_getElem hk0⟩
    refine sem_skip ?_
    refine seqK_n ?_
    refine sem_seq ?_
    refine sem_block ?_
    refine sem_region rfl ?_
    refine step_r rfl rfl trivial ?_
    refine step_r rfl rfl trivial ?_
    refine step_r rfl rfl trivial ?_
    refine step_idxR (k := k0) rfl rfl rfl rfl hk0 rfl ?_
    refine step_r rfl rfl (by decide) ?_
    refine step_load_oneR rfl rfl rfl rfl (flat_get (s := 3) (enc := encGThreat) (fun _ => rfl) hx0 (o := 1) rfl (by decide)) rfl ?_
    refine step_max rfl rfl rfl ?_
    refine step_r rfl rfl trivial ?_
    refine step_nil ?_
    refine blkK_n ?_
    refine seqK_n ?_
    refine sem_region rfl ?_
    refine step_r rfl rfl trivial ?_
    refine step_bin rfl rfl rfl rfl rfl trivial ?_
    refine step_r rfl rfl trivial ?_
    refine step_nil ?_
    have e12 : tauntTR_L0 (((addTR l unit 0).1).drop k0) k0 most0 = tauntTR_L0 (((addTR l unit 0).1).drop (k0 + 1)) (k0 + 1) (max most0 x0.Much) := by
     rewrite [drop_cons hx0]
     rewrite [tauntTR_L0]
     try dsimp only
     all_goals rfl
    exact lup_againT (k0 + 1, (max most0 x0.Much)) ⟨e12.symm.trans hI0, hk0⟩ (by show ((addTR l unit 0).1).length - (k0 + 1) < ((addTR l unit 0).1).length - k0; omega) (Trans.ren [] (by decide +kernel) (by decide +kernel) rfl ⟨⟨rfl, rfl⟩, ⟨rfl, rfl⟩, ⟨rfl, rfl⟩, ⟨rfl, rfl⟩, ⟨rfl, rfl⟩, ⟨congrArg (fun n => some (I n)) (wrapI (k := k0) (by first | omega | (simp; omega))), rfl⟩, trivial⟩ ⟨⟨rfl, rfl, rfl⟩, trivial⟩ (by decide))
   ·have g8 : ¬ ((k0 : Int) < ((addTR l unit 0).1.length)) := of_decide_eq_false h8
    have hk0 : k0 = ((addTR l unit 0).1).length := by omega
    refine sem_exit ?_
    refine seqK_e ?_
    refine lupK_e ?_
    refine blkK_t rfl ?_
    have e13 : tauntTR_L0 ((addTR l unit 0).1) 0 0 = most0 := by
     rewrite [← hI0, hk0, List.drop_length]
     rewrite [tauntTR_L0]
     try dsimp only
     all_goals rfl
    exact cutW_n most0 e13 (Trans.ren [] (by decide +kernel) (by decide +kernel) rfl ⟨⟨rfl, rfl⟩, ⟨rfl, rfl⟩, ⟨rfl, rfl⟩, ⟨rfl, rfl⟩, ⟨rfl, rfl⟩, trivial⟩ ⟨⟨rfl, rfl, rfl⟩, trivial⟩ (by decide))
  ·rintro most_0 (hJ6 : tauntTR_L0 ((addTR l unit 0).1) 0 0 = most_0)
   show seqK _ _ _ .normal (⟨[(1, I unit), (2, I now), (3, I ticks), (10, .ref 0 3 0 (addTR l unit 0).1.length), (12, I most_0)], [(0, .row 40 3 ((addTR l unit 0).1.flatMap encGThreat))], 1, [], 53, 0⟩ : St)
   refine seqK_n ?_
   refine sem_seq ?_
   refine sem_region rfl ?_
   refine step_r rfl rfl trivial ?_
   refine step_r rfl rfl trivial ?_
   refine step_callJ (Hin := [.row _ _ _]) (H' := [(0, .row _ _ _)]) (nx' := 1) [0] rfl rfl rfl rfl rfl rfl rfl rfl rfl (by (repeat' apply And.intro) <;> first | trivial | rfl | exact flat_len (s := 3) (enc := encGThreat) (fun _ => rfl) _ | exact flat_len (fun _ => rfl) _ | exact encI_len _ | exact encB_len _ | exact encY_len _ | exact Nat.le_of_ble_eq_true rfl | assumption) (findTR_ok ((addTR l unit 0).1) false unit) rfl (by decide) rfl rfl trivial rfl rfl rfl rfl ?_
   have p15 := findTR_lt ((addTR l unit 0).1) unit
   refine step_r rfl rfl trivial ?_
   refine step_nil ?_
   refine seqK_n ?_
   refine sem_seq ?_
   refine sem_region rfl ?_
   refine step_r rfl rfl trivial ?_
   refine step_r rfl rfl trivial ?_
   refine step_r rfl rfl trivial ?_
   have jk18 : (findTR ((addTR l unit 0).1) unit).toNat < ((addTR l unit 0).1).length := by first | assumption | omega | (simp only [List.length_set, List.length_append]; omega) | (simp only [IntKind.wrap_i64] at *; omega) | (simp; omega) | simp_all
   refine step_idxR' (k := (findTR ((addTR l unit 0).1) unit).toNat) rfl rfl (Int.toNat_of_nonneg (by first | omega | (simp only [IntKind.wrap_i64]; omega) | (simp only [IntKind.wrap_i64] at *; omega) | (simp; omega))).symm rfl rfl jk18 rfl ?_
   refine step_r rfl rfl (by decide) ?_
   refine step_storeR rfl rfl rfl rfl (by have := flat_lt (s := 3) (enc := encGThreat) (fun _ => rfl) jk18; show ((findTR ((addTR l unit 0).1) unit).toNat) * 3 + 1 < _; omega) (flat_set (enc := encGThreat) (s := 3) (y := { (((addTR l unit 0).1).getD ((findTR ((addTR l unit 0).1) unit).toNat) default) with Much := most_0 }) (fun _ => rfl) (get_getD jk18) (by decide) rfl) (.inl rfl) rfl ?_
   refine step_nil ?_
   refine seqK_n ?_
   refine sem_seq ?_
   refine sem_region rfl ?_
   refine step_r rfl rfl trivial ?_
   refine step_r rfl rfl trivial ?_
   refine step_r rfl rfl trivial ?_
   refine step_r rfl rfl trivial ?_
   refine step_call rfl rfl rfl rfl (addR_ok now ticks) rfl rfl rfl ?_
   have jk21 : (findTR ((addTR l unit 0).1) unit).toNat < ((addTR l unit 0).1.set (findTR ((addTR l unit 0).1) unit).toNat { (((addTR l unit 0).1).getD ((findTR ((addTR l unit 0).1) unit).toNat) default) with Much := most_0 }).length := by first | assumption | omega | (simp only [List.length_set, List.length_append]; omega) | (simp only [IntKind.wrap_i64] at *; omega) | (simp; omega) | simp_all
   refine step_idxR' (k := (findTR ((addTR l unit 0).1) unit).toNat) rfl rfl (Int.toNat_of_nonneg (by first | omega | (simp only [IntKind.wrap_i64]; omega) | (simp only [IntKind.wrap_i64] at *; omega) | (simp; omega))).symm rfl rfl (by first | assumption | omega | (have := jk21; simp only [List.length_set] at this ⊢; omega) | (have := jk21; simp at this ⊢; omega)) rfl ?_
   refine step_r rfl rfl (by decide) ?_
   refine step_storeR rfl rfl rfl rfl (by have := flat_lt (s := 3) (enc := encGThreat) (fun _ => rfl) jk21; show ((findTR ((addTR l unit 0).1) unit).toNat) * 3 + 2 < _; omega) (flat_set (enc := encGThreat) (s := 3) (y := { (((addTR l unit 0).1.set (findTR ((addTR l unit 0).1) unit).toNat { (((addTR l unit 0).1).getD ((findTR ((addTR l unit 0).1) unit).toNat) default) with Much := most_0 }).getD ((findTR ((addTR l unit 0).1) unit).toNat) default) with Taunt := (addR now ticks) }) (fun _ => rfl) (get_getD jk21) (by decide) rfl) (.inl rfl) rfl ?_
   refine step_nil ?_
   refine seqK_n ?_
   refine sem_seq ?_
   refine sem_region rfl ?_
   refine step_r rfl rfl trivial ?_
   refine step_r rfl rfl trivial ?_
   refine step_r rfl rfl trivial ?_
   refine step_nil ?_
   refine seqK_n ?_
   refine sem_ret ?_
   have e22 : tauntTR l unit now ticks = ((((addTR l unit 0).1.set (findTR ((addTR l unit 0).1) unit).toNat { (((addTR l unit 0).1).getD ((findTR ((addTR l unit 0).1) unit).toNat) default) with Much := most_0 }).set (findTR ((addTR l unit 0).1) unit).toNat { (((addTR l unit 0).1.set (findTR ((addTR l unit 0).1) unit).toNat { (((addTR l unit 0).1).getD ((findTR ((addTR l unit 0).1) unit).toNat) default) with Much := most_0 }).getD ((findTR ((addTR l unit 0).1) unit).toNat) default) with Taunt := (addR now ticks) }), 0) := by
    unfold tauntTR
    try dsimp only
    rewrite [if_pos g4, hJ6]
    try dsimp only
    all_goals rfl
   rw [e22]
   try simp only [List.length_set]
   exact answersGR [] [0] rfl ⟨trivial, trivial, trivial⟩ rfl (by (repeat' apply And.intro) <;> first | trivial | rfl | exact flat_len (fun _ => rfl) _ | exact encI_len _ | exact encB_len _ | exact encY_len _ | assumption) (rfl) rfl rfl rfl (by decide) rfl rfl ⟨⟨rfl, rfl⟩, trivial⟩

def fadeTR_L0 (part : Int) : Nat → Nat → (List GThreat) → List GThreat
  | 0, k0, out0 => out0
  | n_ + 1, k0, out0 => fadeTR_L0 part n_ (k0 + 1) (out0.set k0 { (out0.getD k0 default) with Much := (max (partR ((out0.getD k0 default).Much) part 100) 0) })
def fadeTR (l : List GThreat) (part : Int) : List GThreat :=
  (let out_0 := fadeTR_L0 part (l.length - 0) 0 (copyTR l); out_0)
theorem fadeTR_ok (l : List GThreat) (l_f : Bool) (part : Int) (hl : l.length ≤ 16777215) : Ok Try.prog 22 [.pv (.slc l.length l_f (l.flatMap encGThreat)), I part] [] (.ref 0 3 0 (fadeTR l part).length) [.row 40 3 ((fadeTR l part).flatMap encGThreat)] [] := by
 refine Ok.len fun hlen => ?_
 have hl_l : l.length ≤ maxLen := hlen _ (by simp [lensL, lens, lensP])
 unfold maxLen at hl_l
 refine ok_of_sem Try.func22 rfl ?_
 show Walks Try.prog _ _ ⟨[(0, .pv (.slc l.length l_f (l.flatMap encGThreat))), (1, I part)], [], 0, [], 28, 0⟩
 refine sem_seq ?_
 refine sem_region rfl ?_
 refine step_n (nx' := 1) rfl rfl rfl trivial ?_
 refine step_nil ?_
 refine seqK_n ?_
 refine sem_seq ?_
 refine sem_region rfl ?_
 refine step_r rfl rfl trivial ?_
 refine step_callJ (Hin := []) (out' := .ref 1 _ _ _) (H' := [(1, .row _ _ _), (0, .row _ _ _)]) (nx' := 2) [] rfl rfl rfl rfl rfl rfl rfl rfl rfl (by (repeat' apply And.intro) <;> first | trivial | rfl | exact flat_len (fun _ => rfl) _ | exact encI_len _ | exact encB_len _ | exact encY_len _ | exact Nat.le_of_ble_eq_true rfl | assumption) (copyTR_ok l false (by first | omega | (simp; omega))) rfl (by decide) rfl rfl ⟨encGThreat_solid, trivial⟩ rfl rfl rfl rfl ?_
 have p1 := copyTR_len l
 refine step_r rfl rfl trivial ?_
 refine step_nil ?_
 refine seqK_n ?_
 refine sem_seq ?_
 refine sem_seq ?_
 refine sem_region rfl ?_
 refine step_r rfl rfl trivial ?_
 refine step_nil ?_
 refine seqK_n ?_
 refine sem_cutW (fun out_0 : List GThreat => (⟨[(5, .ref 0 3 0 out_0.length)], [(0, .row 40 3 (out_0.flatMap encGThreat))], 1, [], 28, 0⟩ : St)) (fun w_ => fadeTR_L0 part (l.length - 0) 0 (copyTR l) = w_) ?_ ?_
 ·refine sem_block ?_
  refine sem_loopT (fun w_ : Nat × (List GThreat) => match w_ with | (k0, out0) => (⟨[(1, I part), (5, .ref 0 3 0 out0.length), (6, I k0)], [(0, .row 40 3 (out0.flatMap encGThreat))], 1, [], 28, 0⟩ : St)) (fun w_ : Nat × (List GThreat) => match w_ with | (k0, out0) => fadeTR_L0 part (l.length - k0) k0 out0 = fadeTR_L0 part (l.length - 0) 0 (copyTR l) ∧ k0 ≤ l.length ∧ out0.length = l.length) (fun w_ : Nat × (List GThreat) => match w_ with | (k0, out0) => l.length - k0) (0, (copyTR l)) (⟨rfl, (by first | omega | (simp; omega)), by first | omega | simp | (simp; omega)⟩) ?_ (fun w_ hh_ => ?_)
  ·exact (Trans.ren [(0, 1), (1, 0)] (by decide +kernel) (by decide +kernel) rfl ⟨⟨rfl, rfl⟩, ⟨rfl, rfl⟩, ⟨rfl, rfl⟩, trivial⟩ ⟨⟨rfl, rfl, rfl⟩, trivial⟩ (by decide))
  obtain ⟨k0, out0⟩ := w_
  obtain ⟨hI0, hb0, hv0⟩ := hh_
  show Walks Try.prog _ _ (⟨[(1, I part), (5, .ref 0 3 0 out0.length), (6, I k0)], [(0, .row 40 3 (out0.flatMap encGThreat))], 1, [], 28, 0⟩ : St)
  refine sem_seq ?_
  refine sem_seq ?_
  refine sem_region rfl ?_
  refine step_r rfl rfl trivial ?_
  refine step_r rfl rfl trivial ?_
  refine step_r rfl rfl trivial ?_
  refine step_bin rfl rfl rfl rfl rfl trivial ?_
  refine step_nil ?_
  refine seqK_n ?_
  refine sem_cond rfl (fun h4 => ?_) (fun h4 => ?_)
  ·have g4 : (k0 : Int) < out0.length := of_decide_eq_true h4
   have hm0 : l.length - k0 = (l.length - (k0 + 1)) + 1 := by omega
   refine sem_skip ?_
   refine seqK_n ?_
   refine sem_seq ?_
   refine sem_block ?_
   refine sem_region rfl ?_
   refine step_r rfl rfl trivial ?_
   refine step_r rfl rfl trivial ?_
   refine step_r rfl rfl trivial ?_
   refine step_r rfl rfl trivial ?_
   have jk5 : k0 < out0.length := by first | assumption | omega | (simp only [List.length_set, List.length_append]; omega) | (simp only [IntKind.wrap_i64] at *; omega) | (simp; omega) | simp_all
   refine step_idxR (k := k0) rfl rfl rfl rfl jk5 rfl ?_
   refine step_r rfl rfl (by decide) ?_
   refine step_load_oneR rfl rfl rfl rfl (flat_get (s := 3) (enc := encGThreat) (fun _ => rfl) (get_getD jk5) (o := 1) rfl (by decide)) rfl ?_
   refine step_r rfl rfl trivial ?_
   refine step_call rfl rfl rfl rfl (partR_ok ((out0.getD k0 default).Much) part 100) rfl rfl rfl ?_
   refine step_max rfl rfl rfl ?_
   refine step_idxR (k := k0) rfl rfl rfl rfl jk5 rfl ?_
   refine step_r rfl rfl (by decide) ?_
   refine step_storeR rfl rfl rfl rfl (by have := flat_lt (s := 3) (enc := encGThreat) (fun _ => rfl) jk5; show k0 * 3 + 1 < _; omega) (flat_set (enc := encGThreat) (s := 3) (y := { (out0.getD k0 default) with Much := (max (partR ((out0.getD k0 default).Much) part 100) 0) }) (fun _ => rfl) (get_getD jk5) (by decide) rfl) (.inl rfl) rfl ?_
   refine step_nil ?_
   refine blkK_n ?_
   refine seqK_n ?_
   refine sem_region rfl ?_
   refine step_r rfl rfl trivial ?_
   refine step_bin rfl rfl rfl rfl rfl trivial ?_
   refine step_r rfl rfl trivial ?_
   refine step_nil ?_
   have e8 : fadeTR_L0 part (l.length - k0) k0 out0 = fadeTR_L0 part (l.length - (k0 + 1)) (k0 + 1) (out0.set k0 { (out0.getD k0 default) with Much := (max (partR ((out0.getD k0 default).Much) part 100) 0) }) := by
    rewrite [hm0]
    rewrite [fadeTR_L0]
    try dsimp only
    all_goals rfl
   exact lup_againT (k0 + 1, (out0.set k0 { (out0.getD k0 default) with Much := (max (partR ((out0.getD k0 default).Much) part 100) 0) })) ⟨e8.symm.trans hI0, (by omega), by first | omega | assumption | (simp only [List.length_append, List.length_cons, List.length_nil, List.length_set]; omega) | (simp; omega) | grind⟩ (by show l.length - (k0 + 1) < l.length - k0; omega) (Trans.ren [] (by decide +kernel) (by decide +kernel) rfl ⟨⟨rfl, rfl⟩, ⟨congrArg (fun n => some (AV.ref 0 3 0 n)) (by first | rfl | simp only [List.length_set] | simp | omega | (simp; omega)), rfl⟩, ⟨congrArg (fun n => some (I n)) (wrapI (k := k0) (by first | omega | (simp; omega))), rfl⟩, trivial⟩ ⟨⟨rfl, rfl, rfl⟩, trivial⟩ (by decide))
  ·have g4 : ¬ ((k0 : Int) < out0.length) := of_decide_eq_false h4
   have hm0 : l.length - k0 = 0 := by omega
   refine sem_exit ?_
   refine seqK_e ?_
   refine lupK_e ?_
   refine blkK_t rfl ?_
   have e9 : fadeTR_L0 part (l.length - 0) 0 (copyTR l) = out0 := by
    rewrite [← hI0, hm0]
    rewrite [fadeTR_L0]
    try dsimp only
    all_goals rfl
   exact cutW_n out0 e9 (Trans.ren [] (by decide +kernel) (by decide +kernel) rfl ⟨⟨rfl, rfl⟩, trivial⟩ ⟨⟨rfl, rfl, rfl⟩, trivial⟩ (by decide))
 ·rintro out_0 (hJ2 : fadeTR_L0 part (l.length - 0) 0 (copyTR l) = out_0)
  show seqK _ _ _ .normal (⟨[(5, .ref 0 3 0 out_0.length)], [(0, .row 40 3 (out_0.flatMap encGThreat))], 1, [], 28, 0⟩ : St)
  refine seqK_n ?_
  refine sem_seq ?_
  refine sem_region rfl ?_
  refine step_r rfl rfl trivial ?_
  refine step_r rfl rfl trivial ?_
  refine step_nil ?_
  refine seqK_n ?_
  refine sem_ret ?_
  have e10 : fadeTR l part = out_0 := by
   unfold fadeTR
   try dsimp only
   rewrite [hJ2]
   try dsimp only
   all_goals rfl
  rw [e10]
  exact answersGR [] [0] rfl ⟨trivial, trivial⟩ rfl (by (repeat' apply And.intro) <;> first | trivial | rfl | exact flat_len (fun _ => rfl) _ | exact encI_len _ | exact encB_len _ | exact encY_len _ | assumption) (rfl) rfl rfl rfl (by decide) rfl rfl ⟨⟨rfl, rfl⟩, trivial⟩

def targetTR_L0 (l : List GThreat) (now : Int) : List GThreat → Nat → Int → Int
  | [], k0, best0 => best0
  | x0 :: l_, k0, best0 => if (x0.Taunt : Int) > now then (if (best0 : Int) < 0 then targetTR_L0 l now l_ (k0 + 1) k0 else if (x0.Taunt : Int) > ((l.getD best0.toNat default).Taunt) then targetTR_L0 l now l_ (k0 + 1) k0 else targetTR_L0 l now l_ (k0 + 1) best0) else targetTR_L0 l now l_ (k0 + 1) best0
def targetTR_L2 (x1 : GThreat) : List Int → Nat → Int → Int
  | [], k2, more2 => more2
  | x2 :: l_, k2, more2 => if (x2 : Int) = x1.Unit then targetTR_L2 x1 l_ (k2 + 1) 110 else targetTR_L2 x1 l_ (k2 + 1) more2
def targetTR_L1 (l : List GThreat) (target : Int) (near : List Int) : List GThreat → Nat → Int → Int
  | [], k1, best1 => best1
  | x1 :: l_, k1, best1 => (let more_2 := targetTR_L2 x1 near 0 130; if (findTR l target : Int) < 0 then (if (best1 : Int) < 0 then targetTR_L1 l target near l_ (k1 + 1) k1 else if (x1.Much : Int) > ((l.getD best1.toNat default).Much) then targetTR_L1 l target near l_ (k1 + 1) k1 else targetTR_L1 l target near l_ (k1 + 1) best1) else if (x1.Much : Int) > ((l.getD ((findTR l target).toNat) default).Much) then (if (x1.Much : Int) ≥ (partR ((l.getD ((findTR l target).toNat) default).Much) more_2 100) then (if (best1 : Int) < 0 then targetTR_L1 l target near l_ (k1 + 1) k1 else if (x1.Much : Int) > ((l.getD best1.toNat default).Much) then targetTR_L1 l target near l_ (k1 + 1) k1 else targetTR_L1 l target near l_ (k1 + 1) best1) else targetTR_L1 l target near l_ (k1 + 1) best1) else targetTR_L1 l target near l_ (k1 + 1) best1)
def targetTR (l : List GThreat) (now : Int) (target : Int) (near : List Int) : Int :=
  (let best_0 := targetTR_L0 l now l 0 (-1); if (best_0 : Int) ≥ 0 then (l.getD best_0.toNat default).Unit else (let best_1 := targetTR_L1 l target near l 0 best_0; if (best_1 : Int) ≥ 0 then (l.getD best_1.toNat default).Unit else if (findTR l target : Int) < 0 then 0 else target))
theorem targetTR_ok (l : List GThreat) (l_f : Bool) (now : Int) (target : Int) (near : List Int) (near_f : Bool) : Ok Try.prog 9 [.pv (.slc l.length l_f (l.flatMap encGThreat)), I now, I target, .pv (.slc near.length near_f (encI near))] [] (I (targetTR l now target near)) [] [] := by
 refine Ok.len fun hlen => ?_
 have hl_l : l.length ≤ maxLen := hlen _ (by simp [lensL, lens, lensP])
 have hl_near : near.length ≤ maxLen := hlen _ (by simp [lensL, lens, lensP])
 unfold maxLen at hl_l hl_near
 refine ok_of_sem Try.func9 rfl ?_
 show Walks Try.prog _ _ ⟨[(0, .pv (.slc l.length l_f (l.flatMap encGThreat))), (1, I now), (2, I target), (3, .pv (.slc near.length near_f (encI near)))], [], 0, [], 138, 0⟩
 refine sem_seq ?_
 refine sem_region rfl ?_
 refine step_r rfl rfl trivial ?_
 refine step_nil ?_
 refine seqK_n ?_
 refine sem_seq ?_
 refine sem_region rfl ?_
 refine step_r rfl rfl trivial ?_
 refine step_nil ?_
 refine seqK_n ?_
 refine sem_seq ?_
 refine sem_seq ?_
 refine sem_region rfl ?_
 refine step_r rfl rfl trivial ?_
 refine step_nil ?_
 refine seqK_n ?_
 refine sem_cutW (fun best_0 : Int => (⟨[(0, .pv (.slc l.length l_f (l.flatMap encGThreat))), (2, I target), (3, .pv (.slc near.length near_f (encI near))), (9, I best_0)], [], 0, [], 138, 0⟩ : St)) (fun best_0 : Int => targetTR_L0 l now l 0 (-1) = best_0 ∧ (-1 ≤ best_0 ∧ best_0 < l.length)) ?_ ?_
 ·refine sem_block ?_
  refine sem_loopT (fun w_ : Nat × Int => match w_ with | (k0, best0) => (⟨[(0, .pv (.slc l.length l_f (l.flatMap encGThreat))), (1, I now), (2, I target), (3, .pv (.slc near.length near_f (encI near))), (9, I best0), (10, I k0)], [], 0, [], 138, 0⟩ : St)) (fun w_ : Nat × Int => match w_ with | (k0, best0) => targetTR_L0 l now (l.drop k0) k0 best0 = targetTR_L0 l now l 0 (-1) ∧ k0 ≤ l.length ∧ -1 ≤ best0 ∧ best0 < k0) (fun w_ : Nat × Int => match w_ with | (k0, best0) => l.length - k0) (0, (-1)) (⟨rfl, Nat.zero_le _, by first | omega | simp | (simp; omega)⟩) ?_ (fun w_ hh_ => ?_)
  ·exact (Trans.ren [] (by decide +kernel) (by decide +kernel) rfl ⟨⟨rfl, rfl⟩, ⟨rfl, rfl⟩, ⟨rfl, rfl⟩, ⟨rfl, rfl⟩, ⟨rfl, rfl⟩, ⟨rfl, rfl⟩, trivial⟩ trivial (by decide))
  obtain ⟨k0, best0⟩ := w_
  obtain ⟨hI0, hb0, hv0⟩ := hh_
  show Walks Try.prog _ _ (⟨[(0, .pv (.slc l.length l_f (l.flatMap encGThreat))), (1, I now), (2, I target), (3, .pv (.slc near.length near_f (encI near))), (9, I best0), (10, I k0)], [], 0, [], 138, 0⟩ : St)
  refine sem_seq ?_
  refine sem_seq ?_
  refine sem_region rfl ?_
  refine step_r rfl rfl trivial ?_
  refine step_r rfl rfl trivial ?_
  refine step_r rfl rfl trivial ?_
  refine step_bin rfl rfl rfl rfl rfl trivial ?_
  refine step_nil ?_
  refine seqK_n ?_
  refine sem_cond rfl (fun h3 => ?_) (fun h3 => ?_)
  ·have g3 : (k0 : Int) < l.length := of_decide_eq_true h3
   have hk0 : k0 < l.length := by omega
   obtain ⟨x0, hx0⟩ : ∃ z_, l[k0]? = some z_ := ⟨_, List.getElem?_eq_getElem hk0⟩
   refine sem_skip ?_
   refine seqK_n ?_
   refine sem_seq ?_
   refine sem_block ?_
   refine sem_seq ?_
   refine sem_drawn rfl (by decide +kernel) rfl ?_
   refine step_r rfl rfl trivial ?_
   refine step_r rfl rfl trivial ?_
   refine step_idxS (k := k0) rfl rfl rfl rfl hk0 (flat_ne (s := 3) (enc := encGThreat) (fun _ => rfl) (by decide) hk0) rfl ?_
   refine step_r rfl rfl (by decide) ?_
   refine step_load_one rfl rfl rfl (flat_get (s := 3) (enc := encGThreat) (fun _ => rfl) hx0 (o := 2) rfl (by decide)) rfl ?_
   refine step_r rfl rfl trivial ?_
   refine step_bin rfl rfl rfl rfl rfl trivial ?_
   refine step_r rfl rfl trivial ?_
   refine step_gs rfl (fun h6 => ?_) (fun h6 => ?_)
   ·have g6 : (x0.Taunt : Int) > now := of_decide_eq_true h6
    refine step_g1 rfl h6 ?_
    refine step_r rfl rfl trivial ?_
    refine step_g1 rfl h6 ?_
    refine step_bin rfl rfl rfl rfl rfl trivial ?_
    refine step_g1 rfl h6 ?_
    refine step_r rfl rfl trivial ?_
    refine step_gs rfl (fun h9 => ?_) (fun h9 => ?_)
    ·have g9 : (best0 : Int) < 0 := of_decide_eq_true h9
     refine step_g0 rfl h9 rfl ?_
     refine step_g0 rfl h9 rfl ?_
     refine step_g0 rfl h9 rfl ?_
     refine step_g0 rfl h9 rfl ?_
     refine step_g0 rfl h9 rfl ?_
     refine step_g0 rfl h9 rfl ?_
     refine step_g0 rfl h9 rfl ?_
     refine step_g0 rfl h9 rfl ?_
     refine step_g0 rfl h9 rfl ?_
     refine step_g0 rfl h9 rfl ?_
     refine step_g0 rfl h9 rfl ?_
     refine step_g1 rfl h6 ?_
     refine step_pickT rfl h9 rfl rfl ?_
     refine step_pickT rfl h6 rfl rfl ?_
     refine step_nil ?_
     refine seqK_n ?_
     refine sem_condT rfl ?_
     refine sem_region rfl ?_
     refine step_r rfl rfl trivial ?_
     refine step_r rfl rfl trivial ?_
     refine step_nil ?_
     refine blkK_n ?_
     refine seqK_n ?_
     refine sem_region rfl ?_
     refine step_r rfl rfl trivial ?_
     refine step_bin rfl rfl rfl rfl rfl trivial ?_
     refine step_r rfl rfl trivial ?_
     refine step_nil ?_
     have e11 : targetTR_L0 l now (l.drop k0) k0 best0 = targetTR_L0 l now (l.drop (k0 + 1)) (k0 + 1) k0 := by
      rewrite [drop_cons hx0]
      rewrite [targetTR_L0]
      try dsimp only
      rewrite [if_pos g6, if_pos g9]
      all_goals rfl
     exact lup_againT (k0 + 1, k0) ⟨e11.symm.trans hI0, hk0, by first | omega | assumption | (simp only [List.length_append, List.length_cons, List.length_nil, List.length_set]; omega) | (simp; omega) | grind⟩ (by show l.length - (k0 + 1) < l.length - k0; omega) (Trans.ren [] (by decide +kernel) (by decide +kernel) rfl ⟨⟨rfl, rfl⟩, ⟨rfl, rfl⟩, ⟨rfl, rfl⟩, ⟨rfl, rfl⟩, ⟨rfl, rfl⟩, ⟨congrArg (fun n => some (I n)) (wrapI (k := k0) (by first | omega | (simp; omega))), rfl⟩, trivial⟩ trivial (by decide))
    ·have g9 : ¬ ((best0 : Int) < 0) := of_decide_eq_false h9
     refine step_g1 rfl h9 ?_
     refine step_r rfl rfl trivial ?_
     refine step_g1 rfl h9 ?_
     refine step_r rfl rfl trivial ?_
     refine step_g1 rfl h9 ?_
     refine step_idxS (k := k0) rfl rfl rfl rfl hk0 (flat_ne (s := 3) (enc := encGThreat) (fun _ => rfl) (by decide) hk0) rfl ?_
     refine step_g1 rfl h9 ?_
     refine step_r rfl rfl (by decide) ?_
     refine step_g1 rfl h9 ?_
     refine step_load_one rfl rfl rfl (flat_get (s := 3) (enc := encGThreat) (fun _ => rfl) hx0 (o := 2) rfl (by decide)) rfl ?_
     refine step_g1 rfl h9 ?_
     refine step_r rfl rfl trivial ?_
     refine step_g1 rfl h9 ?_
     refine step_r rfl rfl trivial ?_
     refine step_g1 rfl h9 ?_
     have jk12 : best0.toNat < l.length := by first | assumption | omega | (simp only [List.length_set, List.length_append]; omega) | (simp only [IntKind.wrap_i64] at *; omega) | (simp; omega) | simp_all
     refine step_idxS' (k := best0.toNat) rfl rfl (Int.toNat_of_nonneg (by first | omega | (simp only [IntKind.wrap_i64]; omega) | (simp only [IntKind.wrap_i64] at *; omega) | (simp; omega))).symm rfl rfl jk12 (flat_ne (s := 3) (enc := encGThreat) (fun _ => rfl) (by decide) jk12) rfl ?_
     refine step_g1 rfl h9 ?_
     refine step_r rfl rfl (by decide) ?_
     refine step_g1 rfl h9 ?_
     refine step_load_one rfl rfl rfl (flat_get (s := 3) (enc := encGThreat) (fun _ => rfl) (get_getD jk12) (o := 2) rfl (by decide)) rfl ?_
     refine step_g1 rfl h9 ?_
     refine step_bin rfl rfl rfl rfl rfl trivial ?_
     refine step_g1 rfl h6 ?_
     refine step_pickF rfl h9 rfl rfl ?_
     refine step_pickT rfl h6 rfl rfl ?_
     refine step_nil ?_
     refine seqK_n ?_
     refine sem_cond rfl (fun h14 => ?_) (fun h14 => ?_)
     ·have g14 : (x0.Taunt : Int) > ((l.getD best0.toNat default).Taunt) := of_decide_eq_true h14
      refine sem_region rfl ?_
      refine step_r rfl rfl trivial ?_
      refine step_r rfl rfl trivial ?_
      refine step_nil ?_
      refine blkK_n ?_
      refine seqK_n ?_
      refine sem_region rfl ?_
      refine step_r rfl rfl trivial ?_
      refine step_bin rfl rfl rfl rfl rfl trivial ?_
      refine step_r rfl rfl trivial ?_
      refine step_nil ?_
      have e16 : targetTR_L0 l now (l.drop k0) k0 best0 = targetTR_L0 l now (l.drop (k0 + 1)) (k0 + 1) k0 := by
       rewrite [drop_cons hx0]
       rewrite [targetTR_L0]
       try dsimp only
       rewrite [if_pos g6, if_neg g9, if_pos g14]
       all_goals rfl
      exact lup_againT (k0 + 1, k0) ⟨e16.symm.trans hI0, hk0, by first | omega | assumption | (simp only [List.length_append, List.length_cons, List.length_nil, List.length_set]; omega) | (simp; omega) | grind⟩ (by show l.length - (k0 + 1) < l.length - k0; omega) (Trans.ren [] (by decide +kernel) (by decide +kernel) rfl ⟨⟨rfl, rfl⟩, ⟨rfl, rfl⟩, ⟨rfl, rfl⟩, ⟨rfl, rfl⟩, ⟨rfl, rfl⟩, ⟨congrArg (fun n => some (I n)) (wrapI (k := k0) (by first | omega | (simp; omega))), rfl⟩, trivial⟩ trivial (by decide))
     ·have g14 : ¬ ((x0.Taunt : Int) > ((l.getD best0.toNat default).Taunt)) := of_decide_eq_false h14
      refine sem_skip ?_
      refine blkK_n ?_
      refine seqK_n ?_
      refine sem_region rfl ?_
      refine step_r rfl rfl trivial ?_
      refine step_bin rfl rfl rfl rfl rfl trivial ?_
      refine step_r rfl rfl trivial ?_
      refine step_nil ?_
      have e18 : targetTR_L0 l now (l.drop k0) k0 best0 = targetTR_L0 l now (l.drop (k0 + 1)) (k0 + 1) best0 := by
       rewrite [drop_cons hx0]
       rewrite [targetTR_L0]
       try dsimp only
       rewrite [if_pos g6, if_neg g9, if_neg g14]
       all_goals rfl
      exact lup_againT (k0 + 1, best0) ⟨e18.symm.trans hI0, hk0, by first | omega | assumption | (simp only [List.length_append, List.length_cons, List.length_nil, List.length_set]; omega) | (simp; omega) | grind⟩ (by show l.length - (k0 + 1) < l.length - k0; omega) (Trans.ren [] (by decide +kernel) (by decide +kernel) rfl ⟨⟨rfl, rfl⟩, ⟨rfl, rfl⟩, ⟨rfl, rfl⟩, ⟨rfl, rfl⟩, ⟨rfl, rfl⟩, ⟨congrArg (fun n => some (I n)) (wrapI (k := k0) (by first | omega | (simp; omega))), rfl⟩, trivial⟩ trivial (by decide))
   ·have g6 : ¬ ((x0.Taunt : Int) > now) := of_decide_eq_false h6
    refine step_g0 rfl h6 rfl ?_
    refine step_g0 rfl h6 rfl ?_
    refine step_g0 rfl h6 rfl ?_
    refine step_gf rfl rfl ?_
    refine step_gf rfl rfl ?_
    refine step_gf rfl rfl ?_
    refine step_gf rfl rfl ?_
    refine step_gf rfl rfl ?_
    refine step_gf rfl rfl ?_
    refine step_gf rfl rfl ?_
    refine step_gf rfl rfl ?_
    refine step_gf rfl rfl ?_
    refine step_gf rfl rfl ?_
    refine step_gf rfl rfl ?_
    refine step_g0 rfl h6 rfl ?_
    refine step_pickF rfl h6 rfl rfl ?_
    refine step_nil ?_
    refine seqK_n ?_
    refine sem_condF rfl ?_
    refine sem_skip ?_
    refine blkK_n ?_
    refine seqK_n ?_
    refine sem_region rfl ?_
    refine step_r rfl rfl trivial ?_
    refine step_bin rfl rfl rfl rfl rfl trivial ?_
    refine step_r rfl rfl trivial ?_
    refine step_nil ?_
    have e20 : targetTR_L0 l now (l.drop k0) k0 best0 = targetTR_L0 l now (l.drop (k0 + 1)) (k0 + 1) best0 := by
     rewrite [drop_cons hx0]
     rewrite [targetTR_L0]
     try dsimp only
     rewrite [if_neg g6]
     all_goals rfl
    exact lup_againT (k0 + 1, best0) ⟨e20.symm.trans hI0, hk0, by first | omega | assumption | (simp only [List.length_append, List.length_cons, List.length_nil, List.length_set]; omega) | (simp; omega) | grind⟩ (by show l.length - (k0 + 1) < l.length - k0; omega) (Trans.ren [] (by decide +kernel) (by decide +kernel) rfl ⟨⟨rfl, rfl⟩, ⟨rfl, rfl⟩, ⟨rfl, rfl⟩, ⟨rfl, rfl⟩, ⟨rfl, rfl⟩, ⟨congrArg (fun n => some (I n)) (wrapI (k := k0) (by first | omega | (simp; omega))), rfl⟩, trivial⟩ trivial (by decide))
  ·have g3 : ¬ ((k0 : Int) < l.length) := of_decide_eq_false h3
   have hk0 : k0 = l.length := by omega
   refine sem_exit ?_
   refine seqK_e ?_
   refine lupK_e ?_
   refine blkK_t rfl ?_
   have e21 : targetTR_L0 l now l 0 (-1) = best0 := by
    rewrite [← hI0, hk0, List.drop_length]
    rewrite [targetTR_L0]
    try dsimp only
    all_goals rfl
   exact cutW_n best0 ⟨e21, by first | assumption | omega | (simp; omega) | simp_all | grind⟩ (Trans.ren [] (by decide +kernel) (by decide +kernel) rfl ⟨⟨rfl, rfl⟩, ⟨rfl, rfl⟩, ⟨rfl, rfl⟩, ⟨rfl, rfl⟩, trivial⟩ trivial (by decide))
 ·rintro best_0 ⟨(hJ1 : targetTR_L0 l now l 0 (-1) = best_0), hE0⟩
  show seqK _ _ _ .normal (⟨[(0, .pv (.slc l.length l_f (l.flatMap encGThreat))), (2, I target), (3, .pv (.slc near.length near_f (encI near))), (9, I best_0)], [], 0, [], 138, 0⟩ : St)
  refine seqK_n ?_
  refine sem_seq ?_
  refine sem_seq ?_
  refine sem_region rfl ?_
  refine step_r rfl rfl trivial ?_
  refine step_bin rfl rfl rfl rfl rfl trivial ?_
  refine step_nil ?_
  refine seqK_n ?_
  refine sem_cond rfl (fun h23 => ?_) (fun h23 => ?_)
  ·have g23 : (best_0 : Int) ≥ 0 := of_decide_eq_true h23
   refine sem_seq ?_
   refine sem_region rfl ?_
   refine step_r rfl rfl trivial ?_
   refine step_r rfl rfl trivial ?_
   have jk24 : best_0.toNat < l.length := by first | assumption | omega | (simp only [List.length_set, List.length_append]; omega) | (simp only [IntKind.wrap_i64] at *; omega) | (simp; omega) | simp_all
   refine step_idxS' (k := best_0.toNat) rfl rfl (Int.toNat_of_nonneg (by first | omega | (simp only [IntKind.wrap_i64]; omega) | (simp only [IntKind.wrap_i64] at *; omega) | (simp; omega))).symm rfl rfl jk24 (flat_ne (s := 3) (enc := encGThreat) (fun _ => rfl) (by decide) jk24) rfl ?_
   refine step_r rfl rfl (by decide) ?_
   refine step_load_one rfl rfl rfl (flat_get (s := 3) (enc := encGThreat) (fun _ => rfl) (get_getD jk24) (o := 0) rfl (by decide)) rfl ?_
   refine step_r rfl rfl trivial ?_
   refine step_nil ?_
   refine seqK_n ?_
   refine sem_ret ?_
   refine seqK_r ?_
   have e26 : targetTR l now target near = (l.getD best_0.toNat default).Unit := by
    unfold targetTR
    try dsimp only
    rewrite [hJ1]
    try dsimp only
    rewrite [if_pos g23]
    all_goals rfl
   rw [e26]
   exact answersR rfl ⟨trivial, trivial⟩ (rfl) rfl
  ·have g23 : ¬ ((best_0 : Int) ≥ 0) := of_decide_eq_false h23
   refine sem_skip ?_
   refine seqK_n ?_
   refine sem_seq ?_
   refine sem_region rfl ?_
   refine step_r rfl rfl trivial ?_
   refine step_r rfl rfl trivial ?_
   refine step_call rfl rfl rfl rfl (findTR_ok l l_f target) rfl rfl rfl ?_
   have p28 := findTR_lt l target
   refine step_r rfl rfl trivial ?_
   refine step_nil ?_
   refine seqK_n ?_
   refine sem_seq ?_
   refine sem_seq ?_
   refine sem_region rfl ?_
   refine step_r rfl rfl trivial ?_
   refine step_nil ?_
   refine seqK_n ?_
   refine sem_cutW (fun best_1 : Int => (⟨[(0, .pv (.slc l.length l_f (l.flatMap encGThreat))), (2, I target), (9, I best_1), (11, I (findTR l target))], [], 0, [], 138, 0⟩ : St)) (fun best_1 : Int => targetTR_L1 l target near l 0 best_0 = best_1 ∧ (-1 ≤ best_1 ∧ best_1 < l.length)) ?_ ?_
   ·refine sem_block ?_
    refine sem_loopT (fun w_ : Nat × Int => match w_ with | (k1, best1) => (⟨[(0, .pv (.slc l.length l_f (l.flatMap encGThreat))), (2, I target), (3, .pv (.slc near.length near_f (encI near))), (9, I best1), (11, I (findTR l target)), (12, I k1)], [], 0, [], 138, 0⟩ : St)) (fun w_ : Nat × Int => match w_ with | (k1, best1) => targetTR_L1 l target near (l.drop k1) k1 best1 = targetTR_L1 l target near l 0 best_0 ∧ k1 ≤ l.length ∧ -1 ≤ best1 ∧ best1 < k1) (fun w_ : Nat × Int => match w_ with | (k1, best1) => l.length - k1) (0, best_0) (⟨rfl, Nat.zero_le _, by first | omega | simp | (simp; omega)⟩) ?_ (fun w_ hh_ => ?_)
    ·exact (Trans.ren [] (by decide +kernel) (by decide +kernel) rfl ⟨⟨rfl, rfl⟩, ⟨rfl, rfl⟩, ⟨rfl, rfl⟩, ⟨rfl, rfl⟩, ⟨rfl, rfl⟩, ⟨rfl, rfl⟩, trivial⟩ trivial (by decide))
    obtain ⟨k1, best1⟩ := w_
    obtain ⟨hI1, hb1, hv1⟩ := hh_
    show Walks Try.prog _ _ (⟨[(0, .pv (.slc l.length l_f (l.flatMap encGThreat))), (2, I target), (3, .pv (.slc near.length near_f (encI near))), (9, I best1), (11, I (findTR l target)), (12, I k1)], [], 0, [], 138, 0⟩ : St)
    refine sem_seq ?_
    refine sem_seq ?_
    refine sem_region rfl ?_
    refine step_r rfl rfl trivial ?_
    refine step_r rfl rfl trivial ?_
    refine step_r rfl rfl trivial ?_
    refine step_bin rfl rfl rfl rfl rfl trivial ?_
    refine step_nil ?_
    refine seqK_n ?_
    refine sem_cond rfl (fun h32 => ?_) (fun h32 => ?_)
    ·have g32 : (k1 : Int) < l.length := of_decide_eq_true h32
     have hk1 : k1 < l.length := by omega
     obtain ⟨x1, hx1⟩ : ∃ z_, l[k1]? = some z_ := ⟨_, List.getElem?_eq_getElem hk1⟩
     refine sem_skip ?_
     refine seqK_n ?_
     refine sem_seq ?_
     refine sem_block ?_
     refine sem_seq ?_
     refine sem_region rfl ?_
     refine step_r rfl rfl trivial ?_
     refine step_nil ?_
     refine seqK_n ?_
     refine sem_seq ?_
     refine sem_seq ?_
     refine sem_region rfl ?_
     refine step_r rfl rfl trivial ?_
     refine step_nil ?_
     refine seqK_n ?_
     refine sem_cutW (fun more_2 : Int => (⟨[(0, .pv (.slc l.length l_f (l.flatMap encGThreat))), (2, I target), (3, .pv (.slc near.length near_f (encI near))), (9, I best1), (11, I (findTR l target)), (12, I k1), (13, I more_2)], [], 0, [], 138, 0⟩ : St)) (fun w_ => targetTR_L2 x1 near 0 130 = w_) ?_ ?_
     ·refine sem_block ?_
      refine sem_loopT (fun w_ : Nat × Int => match w_ with | (k2, more2) => (⟨[(0, .pv (.slc l.length l_f (l.flatMap encGThreat))), (2, I target), (3, .pv (.slc near.length near_f (encI near))), (9, I best1), (11, I (findTR l target)), (12, I k1), (13, I more2), (14, I k2)], [], 0, [], 138, 0⟩ : St)) (fun w_ : Nat × Int => match w_ with | (k2, more2) => targetTR_L2 x1 (near.drop k2) k2 more2 = targetTR_L2 x1 near 0 130 ∧ k2 ≤ near.length) (fun w_ : Nat × Int => match w_ with | (k2, more2) => near.length - k2) (0, 130) (⟨rfl, Nat.zero_le _⟩) ?_ (fun w_ hh_ => ?_)
      ·exact (Trans.ren [] (by decide +kernel) (by decide +kernel) rfl ⟨⟨rfl, rfl⟩, ⟨rfl, rfl⟩, ⟨rfl, rfl⟩, ⟨rfl, rfl⟩, ⟨rfl, rfl⟩, ⟨rfl, rfl⟩, ⟨rfl, rfl⟩, ⟨rfl, rfl⟩, trivial⟩ trivial (by decide))
      obtain ⟨k2, more2⟩ := w_
      obtain ⟨hI2, hb2⟩ := hh_
      show Walks Try.prog _ _ (⟨[(0, .pv (.slc l.length l_f (l.flatMap encGThreat))), (2, I target), (3, .pv (.slc near.length near_f (encI near))), (9, I best1), (11, I (findTR l target)), (12, I k1), (13, I more2), (14, I k2)], [], 0, [], 138, 0⟩ : St)
      refine sem_seq ?_
      refine sem_seq ?_
      refine sem_region rfl ?_
      refine step_r rfl rfl trivial ?_
      refine step_r rfl rfl trivial ?_
      refine step_r rfl rfl trivial ?_
      refine step_bin rfl rfl rfl rfl rfl trivial ?_
      refine step_nil ?_
      refine seqK_n ?_
      refine sem_cond rfl (fun h35 => ?_) (fun h35 => ?_)
      ·have g35 : (k2 : Int) < near.length := of_decide_eq_true h35
       have hk2 : k2 < near.length := by omega
       obtain ⟨x2, hx2⟩ : ∃ z_, near[k2]? = some z_ := ⟨_, List.getElem?_eq_getElem hk2⟩
       refine sem_skip ?_
       refine seqK_n ?_
       refine sem_seq ?_
       refine sem_block ?_
       refine sem_seq ?_
       refine sem_drawn rfl (by decide +kernel) rfl ?_
       refine step_r rfl rfl trivial ?_
       refine step_r rfl rfl trivial ?_
       refine step_idxS (k := k2) rfl rfl rfl rfl hk2 (encI_ne hk2) rfl ?_
       refine step_load_one rfl rfl rfl (encI_get hx2) rfl ?_
       refine step_r rfl rfl trivial ?_
       refine step_r rfl rfl trivial ?_
       refine step_idxS (k := k1) rfl rfl rfl rfl hk1 (flat_ne (s := 3) (enc := encGThreat) (fun _ => rfl) (by decide) hk1) rfl ?_
       refine step_r rfl rfl (by decide) ?_
       refine step_load_one rfl rfl rfl (flat_get (s := 3) (enc := encGThreat) (fun _ => rfl) hx1 (o := 0) rfl (by decide)) rfl ?_
       refine step_bin rfl rfl rfl rfl rfl trivial ?_
       refine step_nil ?_
       refine seqK_n ?_
       refine sem_cond rfl (fun h37 => ?_) (fun h37 => ?_)
       ·have g37 : (x2 : Int) = x1.Unit := beq_t h37
        refine sem_region rfl ?_
        refine step_r rfl rfl trivial ?_
        refine step_nil ?_
        refine blkK_n ?_
        refine seqK_n ?_
        refine sem_region rfl ?_
        refine step_r rfl rfl trivial ?_
        refine step_bin rfl rfl rfl rfl rfl trivial ?_
        refine step_r rfl rfl trivial ?_
        refine step_nil ?_
        have e39 : targetTR_L2 x1 (near.drop k2) k2 more2 = targetTR_L2 x1 (near.drop (k2 + 1)) (k2 + 1) 110 := by
         rewrite [drop_cons hx2]
         rewrite [targetTR_L2]
         try dsimp only
         rewrite [if_pos g37]
         all_goals rfl
        exact lup_againT (k2 + 1, 110) ⟨e39.symm.trans hI2, hk2⟩ (by show near.length - (k2 + 1) < near.length - k2; omega) (Trans.ren [] (by decide +kernel) (by decide +kernel) rfl ⟨⟨rfl, rfl⟩, ⟨rfl, rfl⟩, ⟨rfl, rfl⟩, ⟨rfl, rfl⟩, ⟨rfl, rfl⟩, ⟨rfl, rfl⟩, ⟨rfl, rfl⟩, ⟨congrArg (fun n => some (I n)) (wrapI (k := k2) (by first | omega | (simp; omega))), rfl⟩, trivial⟩ trivial (by decide))
       ·have g37 : ¬ ((x2 : Int) = x1.Unit) := beq_f h37
        refine sem_skip ?_
        refine blkK_n ?_
        refine seqK_n ?_
        refine sem_region rfl ?_
        refine step_r rfl rfl trivial ?_
        refine step_bin rfl rfl rfl rfl rfl trivial ?_
        refine step_r rfl rfl trivial ?_
        refine step_nil ?_
        have e41 : targetTR_L2 x1 (near.drop k2) k2 more2 = targetTR_L2 x1 (near.drop (k2 + 1)) (k2 + 1) more2 := by
         rewrite [drop_cons hx2]
         rewrite [targetTR_L2]
         try dsimp only
         rewrite [if_neg g37]
         all_goals rfl
        exact lup_againT (k2 + 1, more2) ⟨e41.symm.trans hI2, hk2⟩ (by show near.length - (k2 + 1) < near.length - k2; omega) (Trans.ren [] (by decide +kernel) (by decide +kernel) rfl ⟨⟨rfl, rfl⟩, ⟨rfl, rfl⟩, ⟨rfl, rfl⟩, ⟨rfl, rfl⟩, ⟨rfl, rfl⟩, ⟨rfl, rfl⟩, ⟨rfl, rfl⟩, ⟨congrArg (fun n => some (I n)) (wrapI (k := k2) (by first | omega | (simp; omega))), rfl⟩, trivial⟩ trivial (by decide))
      ·have g35 : ¬ ((k2 : Int) < near.length) := of_decide_eq_false h35
       have hk2 : k2 = near.length := by omega
       refine sem_exit ?_
       refine seqK_e ?_
       refine lupK_e ?_
       refine blkK_t rfl ?_
       have e42 : targetTR_L2 x1 near 0 130 = more2 := by
        rewrite [← hI2, hk2, List.drop_length]
        rewrite [targetTR_L2]
        try dsimp only
        all_goals rfl
       exact cutW_n more2 e42 (Trans.ren [] (by decide +kernel) (by decide +kernel) rfl ⟨⟨rfl, rfl⟩, ⟨rfl, rfl⟩, ⟨rfl, rfl⟩, ⟨rfl, rfl⟩, ⟨rfl, rfl⟩, ⟨rfl, rfl⟩, ⟨rfl, rfl⟩, trivial⟩ trivial (by decide))
     ·rintro more_2 (hJ33 : targetTR_L2 x1 near 0 130 = more_2)
      show seqK _ _ _ .normal (⟨[(0, .pv (.slc l.length l_f (l.flatMap encGThreat))), (2, I target), (3, .pv (.slc near.length near_f (encI near))), (9, I best1), (11, I (findTR l target)), (12, I k1), (13, I more_2)], [], 0, [], 138, 0⟩ : St)
      refine seqK_n ?_
      refine sem_seq ?_
      refine sem_drawn rfl (by decide +kernel) rfl ?_
      refine step_r rfl rfl trivial ?_
      refine step_bin rfl rfl rfl rfl rfl trivial ?_
      refine step_r rfl rfl trivial ?_
      refine step_gs rfl (fun h45 => ?_) (fun h45 => ?_)
      ·have g45 : (findTR l target : Int) < 0 := of_decide_eq_true h45
       refine step_g0 rfl h45 rfl ?_
       refine step_g0 rfl h45 rfl ?_
       refine step_g0 rfl h45 rfl ?_
       refine step_g0 rfl h45 rfl ?_
       refine step_g0 rfl h45 rfl ?_
       refine step_g0 rfl h45 rfl ?_
       refine step_g0 rfl h45 rfl ?_
       refine step_g0 rfl h45 rfl ?_
       refine step_g0 rfl h45 rfl ?_
       refine step_g0 rfl h45 rfl ?_
       refine step_g0 rfl h45 rfl ?_
       refine step_g0 rfl h45 rfl ?_
       refine step_gf rfl rfl ?_
       refine step_gf rfl rfl ?_
       refine step_gf rfl rfl ?_
       refine step_gf rfl rfl ?_
       refine step_gf rfl rfl ?_
       refine step_gf rfl rfl ?_
       refine step_gf rfl rfl ?_
       refine step_gf rfl rfl ?_
       refine step_gf rfl rfl ?_
       refine step_gf rfl rfl ?_
       refine step_gf rfl rfl ?_
       refine step_gf rfl rfl ?_
       refine step_gf rfl rfl ?_
       refine step_g0 rfl h45 rfl ?_
       refine step_pickT rfl h45 rfl rfl ?_
       refine step_r rfl rfl trivial ?_
       refine step_nil ?_
       refine seqK_n ?_
       refine sem_seq ?_
       refine sem_drawn rfl (by decide +kernel) rfl ?_
       refine step_r rfl rfl trivial ?_
       refine step_r rfl rfl trivial ?_
       refine step_gt rfl ?_
       refine step_r rfl rfl trivial ?_
       refine step_gt rfl ?_
       refine step_bin rfl rfl rfl rfl rfl trivial ?_
       refine step_gt rfl ?_
       refine step_r rfl rfl trivial ?_
       refine step_gs rfl (fun h48 => ?_) (fun h48 => ?_)
       ·have g48 : (best1 : Int) < 0 := of_decide_eq_true h48
        refine step_g0 rfl h48 rfl ?_
        refine step_g0 rfl h48 rfl ?_
        refine step_g0 rfl h48 rfl ?_
        refine step_g0 rfl h48 rfl ?_
        refine step_g0 rfl h48 rfl ?_
        refine step_g0 rfl h48 rfl ?_
        refine step_g0 rfl h48 rfl ?_
        refine step_g0 rfl h48 rfl ?_
        refine step_g0 rfl h48 rfl ?_
        refine step_g0 rfl h48 rfl ?_
        refine step_g0 rfl h48 rfl ?_
        refine step_gt rfl ?_
        refine step_pickT rfl h48 rfl rfl ?_
        refine step_r rfl rfl trivial ?_
        refine step_nil ?_
        refine seqK_n ?_
        refine sem_condT rfl ?_
        refine sem_region rfl ?_
        refine step_r rfl rfl trivial ?_
        refine step_r rfl rfl trivial ?_
        refine step_nil ?_
        refine blkK_n ?_
        refine seqK_n ?_
        refine sem_region rfl ?_
        refine step_r rfl rfl trivial ?_
        refine step_bin rfl rfl rfl rfl rfl trivial ?_
        refine step_r rfl rfl trivial ?_
        refine step_nil ?_
        have e51 : targetTR_L1 l target near (l.drop k1) k1 best1 = targetTR_L1 l target near (l.drop (k1 + 1)) (k1 + 1) k1 := by
         rewrite [drop_cons hx1]
         rewrite [targetTR_L1]
         try dsimp only
         rewrite [hJ33]
         try dsimp only
         rewrite [if_pos g45, if_pos g48]
         all_goals rfl
        exact lup_againT (k1 + 1, k1) ⟨e51.symm.trans hI1, hk1, by first | omega | assumption | (simp only [List.length_append, List.length_cons, List.length_nil, List.length_set]; omega) | (simp; omega) | grind⟩ (by show l.length - (k1 + 1) < l.length - k1; omega) (Trans.ren [] (by decide +kernel) (by decide +kernel) rfl ⟨⟨rfl, rfl⟩, ⟨rfl, rfl⟩, ⟨rfl, rfl⟩, ⟨rfl, rfl⟩, ⟨rfl, rfl⟩, ⟨congrArg (fun n => some (I n)) (wrapI (k := k1) (by first | omega | (simp; omega))), rfl⟩, trivial⟩ trivial (by decide))
       ·have g48 : ¬ ((best1 : Int) < 0) := of_decide_eq_false h48
        refine step_g1 rfl h48 ?_
        refine step_r rfl rfl trivial ?_
        refine step_g1 rfl h48 ?_
        refine step_r rfl rfl trivial ?_
        refine step_g1 rfl h48 ?_
        refine step_idxS (k := k1) rfl rfl rfl rfl hk1 (flat_ne (s := 3) (enc := encGThreat) (fun _ => rfl) (by decide) hk1) rfl ?_
        refine step_g1 rfl h48 ?_
        refine step_r rfl rfl (by decide) ?_
        refine step_g1 rfl h48 ?_
        refine step_load_one rfl rfl rfl (flat_get (s := 3) (enc := encGThreat) (fun _ => rfl) hx1 (o := 1) rfl (by decide)) rfl ?_
        refine step_g1 rfl h48 ?_
        refine step_r rfl rfl trivial ?_
        refine step_g1 rfl h48 ?_
        refine step_r rfl rfl trivial ?_
        refine step_g1 rfl h48 ?_
        have jk53 : best1.toNat < l.length := by first | assumption | omega | (simp only [List.length_set, List.length_append]; omega) | (simp only [IntKind.wrap_i64] at *; omega) | (simp; omega) | simp_all
        refine step_idxS' (k := best1.toNat) rfl rfl (Int.toNat_of_nonneg (by first | omega | (simp only [IntKind.wrap_i64]; omega) | (simp only [IntKind.wrap_i64] at *; omega) | (simp; omega))).symm rfl rfl jk53 (flat_ne (s := 3) (enc := encGThreat) (fun _ => rfl) (by decide) jk53) rfl ?_
        refine step_g1 rfl h48 ?_
        refine step_r rfl rfl (by decide) ?_
        refine step_g1 rfl h48 ?_
        refine step_load_one rfl rfl rfl (flat_get (s := 3) (enc := encGThreat) (fun _ => rfl) (get_getD jk53) (o := 1) rfl (by decide)) rfl ?_
        refine step_g1 rfl h48 ?_
        refine step_bin rfl rfl rfl rfl rfl trivial ?_
        refine step_gt rfl ?_
        refine step_pickF rfl h48 rfl rfl ?_
        refine step_r rfl rfl trivial ?_
        refine step_nil ?_
        refine seqK_n ?_
        refine sem_cond rfl (fun h55 => ?_) (fun h55 => ?_)
        ·have g55 : (x1.Much : Int) > ((l.getD best1.toNat default).Much) := of_decide_eq_true h55
         refine sem_region rfl ?_
         refine step_r rfl rfl trivial ?_
         refine step_r rfl rfl trivial ?_
         refine step_nil ?_
         refine blkK_n ?_
         refine seqK_n ?_
         refine sem_region rfl ?_
         refine step_r rfl rfl trivial ?_
         refine step_bin rfl rfl rfl rfl rfl trivial ?_
         refine step_r rfl rfl trivial ?_
         refine step_nil ?_
         have e57 : targetTR_L1 l target near (l.drop k1) k1 best1 = targetTR_L1 l target near (l.drop (k1 + 1)) (k1 + 1) k1 := by
          rewrite [drop_cons hx1]
          rewrite [targetTR_L1]
          try dsimp only
          rewrite [hJ33]
          try dsimp only
          rewrite [if_pos g45, if_neg g48, if_pos g55]
          all_goals rfl
         exact lup_againT (k1 + 1, k1) ⟨e57.symm.trans hI1, hk1, by first | omega | assumption | (simp only [List.length_append, List.length_cons, List.length_nil, List.length_set]; omega) | (simp; omega) | grind⟩ (by show l.length - (k1 + 1) < l.length - k1; omega) (Trans.ren [] (by decide +kernel) (by decide +kernel) rfl ⟨⟨rfl, rfl⟩, ⟨rfl, rfl⟩, ⟨rfl, rfl⟩, ⟨rfl, rfl⟩, ⟨rfl, rfl⟩, ⟨congrArg (fun n => some (I n)) (wrapI (k := k1) (by first | omega | (simp; omega))), rfl⟩, trivial⟩ trivial (by decide))
        ·have g55 : ¬ ((x1.Much : Int) > ((l.getD best1.toNat default).Much)) := of_decide_eq_false h55
         refine sem_skip ?_
         refine blkK_n ?_
         refine seqK_n ?_
         refine sem_region rfl ?_
         refine step_r rfl rfl trivial ?_
         refine step_bin rfl rfl rfl rfl rfl trivial ?_
         refine step_r rfl rfl trivial ?_
         refine step_nil ?_
         have e59 : targetTR_L1 l target near (l.drop k1) k1 best1 = targetTR_L1 l target near (l.drop (k1 + 1)) (k1 + 1) best1 := by
          rewrite [drop_cons hx1]
          rewrite [targetTR_L1]
          try dsimp only
          rewrite [hJ33]
          try dsimp only
          rewrite [if_pos g45, if_neg g48, if_neg g55]
          all_goals rfl
         exact lup_againT (k1 + 1, best1) ⟨e59.symm.trans hI1, hk1, by first | omega | assumption | (simp only [List.length_append, List.length_cons, List.length_nil, List.length_set]; omega) | (simp; omega) | grind⟩ (by show l.length - (k1 + 1) < l.length - k1; omega) (Trans.ren [] (by decide +kernel) (by decide +kernel) rfl ⟨⟨rfl, rfl⟩, ⟨rfl, rfl⟩, ⟨rfl, rfl⟩, ⟨rfl, rfl⟩, ⟨rfl, rfl⟩, ⟨congrArg (fun n => some (I n)) (wrapI (k := k1) (by first | omega | (simp; omega))), rfl⟩, trivial⟩ trivial (by decide))
      ·have g45 : ¬ ((findTR l target : Int) < 0) := of_decide_eq_false h45
       refine step_g1 rfl h45 ?_
       refine step_r rfl rfl trivial ?_
       refine step_g1 rfl h45 ?_
       refine step_r rfl rfl trivial ?_
       refine step_g1 rfl h45 ?_
       refine step_idxS (k := k1) rfl rfl rfl rfl hk1 (flat_ne (s := 3) (enc := encGThreat) (fun _ => rfl) (by decide) hk1) rfl ?_
       refine step_g1 rfl h45 ?_
       refine step_r rfl rfl (by decide) ?_
       refine step_g1 rfl h45 ?_
       refine step_load_one rfl rfl rfl (flat_get (s := 3) (enc := encGThreat) (fun _ => rfl) hx1 (o := 1) rfl (by decide)) rfl ?_
       refine step_g1 rfl h45 ?_
       refine step_r rfl rfl trivial ?_
       refine step_g1 rfl h45 ?_
       refine step_r rfl rfl trivial ?_
       refine step_g1 rfl h45 ?_
       have jk61 : (findTR l target).toNat < l.length := by first | assumption | omega | (simp only [List.length_set, List.length_append]; omega) | (simp only [IntKind.wrap_i64] at *; omega) | (simp; omega) | simp_all
       refine step_idxS' (k := (findTR l target).toNat) rfl rfl (Int.toNat_of_nonneg (by first | omega | (simp only [IntKind.wrap_i64]; omega) | (simp only [IntKind.wrap_i64] at *; omega) | (simp; omega))).symm rfl rfl jk61 (flat_ne (s := 3) (enc := encGThreat) (fun _ => rfl) (by decide) jk61) rfl ?_
       refine step_g1 rfl h45 ?_
       refine step_r rfl rfl (by decide) ?_
       refine step_g1 rfl h45 ?_
       refine step_load_one rfl rfl rfl (flat_get (s := 3) (enc := encGThreat) (fun _ => rfl) (get_getD jk61) (o := 1) rfl (by decide)) rfl ?_
       refine step_g1 rfl h45 ?_
       refine step_bin rfl rfl rfl rfl rfl trivial ?_
       refine step_g1 rfl h45 ?_
       refine step_r rfl rfl trivial ?_
       refine step_gs rfl (fun h63 => ?_) (fun h63 => ?_)
       ·have g63 : (x1.Much : Int) > ((l.getD ((findTR l target).toNat) default).Much) := of_decide_eq_true h63
        refine step_g1 rfl h63 ?_
        refine step_r rfl rfl trivial ?_
        refine step_g1 rfl h63 ?_
        refine step_r rfl rfl trivial ?_
        refine step_g1 rfl h63 ?_
        refine step_idxS (k := k1) rfl rfl rfl rfl hk1 (flat_ne (s := 3) (enc := encGThreat) (fun _ => rfl) (by decide) hk1) rfl ?_
        refine step_g1 rfl h63 ?_
        refine step_r rfl rfl (by decide) ?_
        refine step_g1 rfl h63 ?_
        refine step_load_one rfl rfl rfl (flat_get (s := 3) (enc := encGThreat) (fun _ => rfl) hx1 (o := 1) rfl (by decide)) rfl ?_
        refine step_g1 rfl h63 ?_
        refine step_r rfl rfl trivial ?_
        refine step_g1 rfl h63 ?_
        refine step_r rfl rfl trivial ?_
        refine step_g1 rfl h63 ?_
        refine step_idxS' (k := (findTR l target).toNat) rfl rfl (Int.toNat_of_nonneg (by first | omega | (simp only [IntKind.wrap_i64]; omega) | (simp only [IntKind.wrap_i64] at *; omega) | (simp; omega))).symm rfl rfl jk61 (flat_ne (s := 3) (enc := encGThreat) (fun _ => rfl) (by decide) jk61) rfl ?_
        refine step_g1 rfl h63 ?_
        refine step_r rfl rfl (by decide) ?_
        refine step_g1 rfl h63 ?_
        refine step_load_one rfl rfl rfl (flat_get (s := 3) (enc := encGThreat) (fun _ => rfl) (get_getD jk61) (o := 1) rfl (by decide)) rfl ?_
        refine step_g1 rfl h63 ?_
        refine step_r rfl rfl trivial ?_
        refine step_g1 rfl h63 ?_
        refine step_call rfl rfl rfl rfl (partR_ok ((l.getD ((findTR l target).toNat) default).Much) more_2 100) rfl rfl rfl ?_
        refine step_g1 rfl h63 ?_
        refine step_bin rfl rfl rfl rfl rfl trivial ?_
        refine step_g1 rfl h45 ?_
        refine step_pickT rfl h63 rfl rfl ?_
        refine step_pickF rfl h45 rfl rfl ?_
        refine step_r rfl rfl trivial ?_
        refine step_nil ?_
        refine seqK_n ?_
        refine sem_seq ?_
        refine sem_drawn rfl (by decide +kernel) rfl ?_
        refine step_r rfl rfl trivial ?_
        refine step_r rfl rfl trivial ?_
        refine step_gs rfl (fun h66 => ?_) (fun h66 => ?_)
        ·have g66 : (x1.Much : Int) ≥ (partR ((l.getD ((findTR l target).toNat) default).Much) more_2 100) := of_decide_eq_true h66
         refine step_g1 rfl h66 ?_
         refine step_r rfl rfl trivial ?_
         refine step_g1 rfl h66 ?_
         refine step_bin rfl rfl rfl rfl rfl trivial ?_
         refine step_g1 rfl h66 ?_
         refine step_r rfl rfl trivial ?_
         refine step_gs rfl (fun h69 => ?_) (fun h69 => ?_)
         ·have g69 : (best1 : Int) < 0 := of_decide_eq_true h69
          refine step_g0 rfl h69 rfl ?_
          refine step_g0 rfl h69 rfl ?_
          refine step_g0 rfl h69 rfl ?_
          refine step_g0 rfl h69 rfl ?_
          refine step_g0 rfl h69 rfl ?_
          refine step_g0 rfl h69 rfl ?_
          refine step_g0 rfl h69 rfl ?_
          refine step_g0 rfl h69 rfl ?_
          refine step_g0 rfl h69 rfl ?_
          refine step_g0 rfl h69 rfl ?_
          refine step_g0 rfl h69 rfl ?_
          refine step_g1 rfl h66 ?_
          refine step_pickT rfl h69 rfl rfl ?_
          refine step_pickT rfl h66 rfl rfl ?_
          refine step_nil ?_
          refine seqK_n ?_
          refine sem_condT rfl ?_
          refine sem_region rfl ?_
          refine step_r rfl rfl trivial ?_
          refine step_r rfl rfl trivial ?_
          refine step_nil ?_
          refine blkK_n ?_
          refine seqK_n ?_
          refine sem_region rfl ?_
          refine step_r rfl rfl trivial ?_
          refine step_bin rfl rfl rfl rfl rfl trivial ?_
          refine step_r rfl rfl trivial ?_
          refine step_nil ?_
          have e71 : targetTR_L1 l target near (l.drop k1) k1 best1 = targetTR_L1 l target near (l.drop (k1 + 1)) (k1 + 1) k1 := by
           rewrite [drop_cons hx1]
           rewrite [targetTR_L1]
           try dsimp only
           rewrite [hJ33]
           try dsimp only
           rewrite [if_neg g45, if_pos g63, if_pos g66, if_pos g69]
           all_goals rfl
          exact lup_againT (k1 + 1, k1) ⟨e71.symm.trans hI1, hk1, by first | omega | assumption | (simp only [List.length_append, List.length_cons, List.length_nil, List.length_set]; omega) | (simp; omega) | grind⟩ (by show l.length - (k1 + 1) < l.length - k1; omega) (Trans.ren [] (by decide +kernel) (by decide +kernel) rfl ⟨⟨rfl, rfl⟩, ⟨rfl, rfl⟩, ⟨rfl, rfl⟩, ⟨rfl, rfl⟩, ⟨rfl, rfl⟩, ⟨congrArg (fun n => some (I n)) (wrapI (k := k1) (by first | omega | (simp; omega))), rfl⟩, trivial⟩ trivial (by decide))
         ·have g69 : ¬ ((best1 : Int) < 0) := of_decide_eq_false h69
          refine step_g1 rfl h69 ?_
          refine step_r rfl rfl trivial ?_
          refine step_g1 rfl h69 ?_
          refine step_r rfl rfl trivial ?_
          refine step_g1 rfl h69 ?_
          refine step_idxS (k := k1) rfl rfl rfl rfl hk1 (flat_ne (s := 3) (enc := encGThreat) (fun _ => rfl) (by decide) hk1) rfl ?_
          refine step_g1 rfl h69 ?_
          refine step_r rfl rfl (by decide) ?_
          refine step_g1 rfl h69 ?_
          refine step_load_one rfl rfl rfl (flat_get (s := 3) (enc := encGThreat) (fun _ => rfl) hx1 (o := 1) rfl (by decide)) rfl ?_
          refine step_g1 rfl h69 ?_
          refine step_r rfl rfl trivial ?_
          refine step_g1 rfl h69 ?_
          refine step_r rfl rfl trivial ?_
          refine step_g1 rfl h69 ?_
          have jk72 : best1.toNat < l.length := by first | assumption | omega | (simp only [List.length_set, List.length_append]; omega) | (simp only [IntKind.wrap_i64] at *; omega) | (simp; omega) | simp_all
          refine step_idxS' (k := best1.toNat) rfl rfl (Int.toNat_of_nonneg (by first | omega | (simp only [IntKind.wrap_i64]; omega) | (simp only [IntKind.wrap_i64] at *; omega) | (simp; omega))).symm rfl rfl jk72 (flat_ne (s := 3) (enc := encGThreat) (fun _ => rfl) (by decide) jk72) rfl ?_
          refine step_g1 rfl h69 ?_
          refine step_r rfl rfl (by decide) ?_
          refine step_g1 rfl h69 ?_
          refine step_load_one rfl rfl rfl (flat_get (s := 3) (enc := encGThreat) (fun _ => rfl) (get_getD jk72) (o := 1) rfl (by decide)) rfl ?_
          refine step_g1 rfl h69 ?_
          refine step_bin rfl rfl rfl rfl rfl trivial ?_
          refine step_g1 rfl h66 ?_
          refine step_pickF rfl h69 rfl rfl ?_
          refine step_pickT rfl h66 rfl rfl ?_
          refine step_nil ?_
          refine seqK_n ?_
          refine sem_cond rfl (fun h74 => ?_) (fun h74 => ?_)
          ·have g74 : (x1.Much : Int) > ((l.getD best1.toNat default).Much) := of_decide_eq_true h74
           refine sem_region rfl ?_
           refine step_r rfl rfl trivial ?_
           refine step_r rfl rfl trivial ?_
           refine step_nil ?_
           refine blkK_n ?_
           refine seqK_n ?_
           refine sem_region rfl ?_
           refine step_r rfl rfl trivial ?_
           refine step_bin rfl rfl rfl rfl rfl trivial ?_
           refine step_r rfl rfl trivial ?_
           refine step_nil ?_
           have e76 : targetTR_L1 l target near (l.drop k1) k1 best1 = targetTR_L1 l target near (l.drop (k1 + 1)) (k1 + 1) k1 := by
            rewrite [drop_cons hx1]
            rewrite [targetTR_L1]
            try dsimp only
            rewrite [hJ33]
            try dsimp only
            rewrite [if_neg g45, if_pos g63, if_pos g66, if_neg g69, if_pos g74]
            all_goals rfl
           exact lup_againT (k1 + 1, k1) ⟨e76.symm.trans hI1, hk1, by first | omega | assumption | (simp only [List.length_append, List.length_cons, List.length_nil, List.length_set]; omega) | (simp; omega) | grind⟩ (by show l.length - (k1 + 1) < l.length - k1; omega) (Trans.ren [] (by decide +kernel) (by decide +kernel) rfl ⟨⟨rfl, rfl⟩, ⟨rfl, rfl⟩, ⟨rfl, rfl⟩, ⟨rfl, rfl⟩, ⟨rfl, rfl⟩, ⟨congrArg (fun n => some (I n)) (wrapI (k := k1) (by first | omega | (simp; omega))), rfl⟩, trivial⟩ trivial (by decide))
          ·have g74 : ¬ ((x1.Much : Int) > ((l.getD best1.toNat default).Much)) := of_decide_eq_false h74
           refine sem_skip ?_
           refine blkK_n ?_
           refine seqK_n ?_
           refine sem_region rfl ?_
           refine step_r rfl rfl trivial ?_
           refine step_bin rfl rfl rfl rfl rfl trivial ?_
           refine step_r rfl rfl trivial ?_
           refine step_nil ?_
           have e78 : targetTR_L1 l target near (l.drop k1) k1 best1 = targetTR_L1 l target near (l.drop (k1 + 1)) (k1 + 1) best1 := by
            rewrite [drop_cons hx1]
            rewrite [targetTR_L1]
            try dsimp only
            rewrite [hJ33]
            try dsimp only
            rewrite [if_neg g45, if_pos g63, if_pos g66, if_neg g69, if_neg g74]
            all_goals rfl
           exact lup_againT (k1 + 1, best1) ⟨e78.symm.trans hI1, hk1, by first | omega | assumption | (simp only [List.length_append, List.length_cons, List.length_nil, List.length_set]; omega) | (simp; omega) | grind⟩ (by show l.length - (k1 + 1) < l.length - k1; omega) (Trans.ren [] (by decide +kernel) (by decide +kernel) rfl ⟨⟨rfl, rfl⟩, ⟨rfl, rfl⟩, ⟨rfl, rfl⟩, ⟨rfl, rfl⟩, ⟨rfl, rfl⟩, ⟨congrArg (fun n => some (I n)) (wrapI (k := k1) (by first | omega | (simp; omega))), rfl⟩, trivial⟩ trivial (by decide))
        ·have g66 : ¬ ((x1.Much : Int) ≥ (partR ((l.getD ((findTR l target).toNat) default).Much) more_2 100)) := of_decide_eq_false h66
         refine step_g0 rfl h66 rfl ?_
         refine step_g0 rfl h66 rfl ?_
         refine step_g0 rfl h66 rfl ?_
         refine step_gf rfl rfl ?_
         refine step_gf rfl rfl ?_
         refine step_gf rfl rfl ?_
         refine step_gf rfl rfl ?_
         refine step_gf rfl rfl ?_
         refine step_gf rfl rfl ?_
         refine step_gf rfl rfl ?_
         refine step_gf rfl rfl ?_
         refine step_gf rfl rfl ?_
         refine step_gf rfl rfl ?_
         refine step_gf rfl rfl ?_
         refine step_g0 rfl h66 rfl ?_
         refine step_pickF rfl h66 rfl rfl ?_
         refine step_nil ?_
         refine seqK_n ?_
         refine sem_condF rfl ?_
         refine sem_skip ?_
         refine blkK_n ?_
         refine seqK_n ?_
         refine sem_region rfl ?_
         refine step_r rfl rfl trivial ?_
         refine step_bin rfl rfl rfl rfl rfl trivial ?_
         refine step_r rfl rfl trivial ?_
         refine step_nil ?_
         have e80 : targetTR_L1 l target near (l.drop k1) k1 best1 = targetTR_L1 l target near (l.drop (k1 + 1)) (k1 + 1) best1 := by
          rewrite [drop_cons hx1]
          rewrite [targetTR_L1]
          try dsimp only
          rewrite [hJ33]
          try dsimp only
          rewrite [if_neg g45, if_pos g63, if_neg g66]
          all_goals rfl
         exact lup_againT (k1 + 1, best1) ⟨e80.symm.trans hI1, hk1, by first | omega | assumption | (simp only [List.length_append, List.length_cons, List.length_nil, List.length_set]; omega) | (simp; omega) | grind⟩ (by show l.length - (k1 + 1) < l.length - k1; omega) (Trans.ren [] (by decide +kernel) (by decide +kernel) rfl ⟨⟨rfl, rfl⟩, ⟨rfl, rfl⟩, ⟨rfl, rfl⟩, ⟨rfl, rfl⟩, ⟨rfl, rfl⟩, ⟨congrArg (fun n => some (I n)) (wrapI (k := k1) (by first | omega | (simp; omega))), rfl⟩, trivial⟩ trivial (by decide))
       ·have g63 : ¬ ((x1.Much : Int) > ((l.getD ((findTR l target).toNat) default).Much)) := of_decide_eq_false h63
        refine step_g0 rfl h63 rfl ?_
        refine step_g0 rfl h63 rfl ?_
        refine step_g0 rfl h63 rfl ?_
        refine step_g0 rfl h63 rfl ?_
        refine step_g0 rfl h63 rfl ?_
        refine step_g0 rfl h63 rfl ?_
        refine step_g0 rfl h63 rfl ?_
        refine step_g0 rfl h63 rfl ?_
        refine step_g0 rfl h63 rfl ?_
        refine step_g0 rfl h63 rfl ?_
        refine step_g0 rfl h63 rfl ?_
        refine step_g0 rfl h63 rfl ?_
        refine step_g0 rfl h63 rfl ?_
        refine step_g1 rfl h45 ?_
        refine step_pickF rfl h63 rfl rfl ?_
        refine step_pickF rfl h45 rfl rfl ?_
        refine step_r rfl rfl trivial ?_
        refine step_nil ?_
        refine seqK_n ?_
        refine sem_seq ?_
        refine sem_drawn rfl (by decide +kernel) rfl ?_
        refine step_r rfl rfl trivial ?_
        refine step_r rfl rfl trivial ?_
        refine step_gf rfl rfl ?_
        refine step_gf rfl rfl ?_
        refine step_gf rfl rfl ?_
        refine step_gf rfl rfl ?_
        refine step_gf rfl rfl ?_
        refine step_gf rfl rfl ?_
        refine step_gf rfl rfl ?_
        refine step_gf rfl rfl ?_
        refine step_gf rfl rfl ?_
        refine step_gf rfl rfl ?_
        refine step_gf rfl rfl ?_
        refine step_gf rfl rfl ?_
        refine step_gf rfl rfl ?_
        refine step_gf rfl rfl ?_
        refine step_gf rfl rfl ?_
        refine step_r rfl rfl trivial ?_
        refine step_nil ?_
        refine seqK_n ?_
        refine sem_condF rfl ?_
        refine sem_skip ?_
        refine blkK_n ?_
        refine seqK_n ?_
        refine sem_region rfl ?_
        refine step_r rfl rfl trivial ?_
        refine step_bin rfl rfl rfl rfl rfl trivial ?_
        refine step_r rfl rfl trivial ?_
        refine step_nil ?_
        have e82 : targetTR_L1 l target near (l.drop k1) k1 best1 = targetTR_L1 l target near (l.drop (k1 + 1)) (k1 + 1) best1 := by
         rewrite [drop_cons hx1]
         rewrite [targetTR_L1]
         try dsimp only
         rewrite [hJ33]
         try dsimp only
         rewrite [if_neg g45, if_neg g63]
         all_goals rfl
        exact lup_againT (k1 + 1, best1) ⟨e82.symm.trans hI1, hk1, by first | omega | assumption | (simp only [List.length_append, List.length_cons, List.length_nil, List.length_set]; omega) | (simp; omega) | grind⟩ (by show l.length - (k1 + 1) < l.length - k1; omega) (Trans.ren [] (by decide +kernel) (by decide +kernel) rfl ⟨⟨rfl, rfl⟩, ⟨rfl, rfl⟩, ⟨rfl, rfl⟩, ⟨rfl, rfl⟩, ⟨rfl, rfl⟩, ⟨congrArg (fun n => some (I n)) (wrapI (k := k1) (by first | omega | (simp; omega))), rfl⟩, trivial⟩ trivial (by decide))
    ·have g32 : ¬ ((k1 : Int) < l.length) := of_decide_eq_false h32
     have hk1 : k1 = l.length := by omega
     refine sem_exit ?_
     refine seqK_e ?_
     refine lupK_e ?_
     refine blkK_t rfl ?_
     have e83 : targetTR_L1 l target near l 0 best_0 = best1 := by
      rewrite [← hI1, hk1, List.drop_length]
      rewrite [targetTR_L1]
      try dsimp only
      all_goals rfl
     exact cutW_n best1 ⟨e83, by first | assumption | omega | (simp; omega) | simp_all | grind⟩ (Trans.ren [] (by decide +kernel) (by decide +kernel) rfl ⟨⟨rfl, rfl⟩, ⟨rfl, rfl⟩, ⟨rfl, rfl⟩, ⟨rfl, rfl⟩, trivial⟩ trivial (by decide))
   ·rintro best_1 ⟨(hJ30 : targetTR_L1 l target near l 0 best_0 = best_1), hE1⟩
    show seqK _ _ _ .normal (⟨[(0, .pv (.slc l.length l_f (l.flatMap encGThreat))), (2, I target), (9, I best_1), (11, I (findTR l target))], [], 0, [], 138, 0⟩ : St)
    refine seqK_n ?_
    refine sem_seq ?_
    refine sem_seq ?_
    refine sem_region rfl ?_
    refine step_r rfl rfl trivial ?_
    refine step_bin rfl rfl rfl rfl rfl trivial ?_
    refine step_nil ?_
    refine seqK_n ?_
    refine sem_cond rfl (fun h85 => ?_) (fun h85 => ?_)
    ·have g85 : (best_1 : Int) ≥ 0 := of_decide_eq_true h85
     refine sem_seq ?_
     refine sem_region rfl ?_
     refine step_r rfl rfl trivial ?_
     refine step_r rfl rfl trivial ?_
     have jk86 : best_1.toNat < l.length := by first | assumption | omega | (simp only [List.length_set, List.length_append]; omega) | (simp only [IntKind.wrap_i64] at *; omega) | (simp; omega) | simp_all
     refine step_idxS' (k := best_1.toNat) rfl rfl (Int.toNat_of_nonneg (by first | omega | (simp only [IntKind.wrap_i64]; omega) | (simp only [IntKind.wrap_i64] at *; omega) | (simp; omega))).symm rfl rfl jk86 (flat_ne (s := 3) (enc := encGThreat) (fun _ => rfl) (by decide) jk86) rfl ?_
     refine step_r rfl rfl (by decide) ?_
     refine step_load_one rfl rfl rfl (flat_get (s := 3) (enc := encGThreat) (fun _ => rfl) (get_getD jk86) (o := 0) rfl (by decide)) rfl ?_
     refine step_r rfl rfl trivial ?_
     refine step_nil ?_
     refine seqK_n ?_
     refine sem_ret ?_
     refine seqK_r ?_
     have e88 : targetTR l now target near = (l.getD best_1.toNat default).Unit := by
      unfold targetTR
      try dsimp only
      rewrite [hJ1]
      try dsimp only
      rewrite [if_neg g23, hJ30]
      try dsimp only
      rewrite [if_pos g85]
      all_goals rfl
     rw [e88]
     exact answersR rfl ⟨trivial, trivial⟩ (rfl) rfl
    ·have g85 : ¬ ((best_1 : Int) ≥ 0) := of_decide_eq_false h85
     refine sem_skip ?_
     refine seqK_n ?_
     refine sem_seq ?_
     refine sem_seq ?_
     refine sem_region rfl ?_
     refine step_r rfl rfl trivial ?_
     refine step_bin rfl rfl rfl rfl rfl trivial ?_
     refine step_nil ?_
     refine seqK_n ?_
     refine sem_cond rfl (fun h90 => ?_) (fun h90 => ?_)
     ·have g90 : (findTR l target : Int) < 0 := of_decide_eq_true h90
      refine sem_seq ?_
      refine sem_region rfl ?_
      refine step_r rfl rfl trivial ?_
      refine step_nil ?_
      refine seqK_n ?_
      refine sem_ret ?_
      refine seqK_r ?_
      have e91 : targetTR l now target near = 0 := by
       unfold targetTR
       try dsimp only
       rewrite [hJ1]
       try dsimp only
       rewrite [if_neg g23, hJ30]
       try dsimp only
       rewrite [if_neg g85, if_pos g90]
       all_goals rfl
      rw [e91]
      exact answersR rfl ⟨trivial, trivial⟩ (rfl) rfl
     ·have g90 : ¬ ((findTR l target : Int) < 0) := of_decide_eq_false h90
      refine sem_skip ?_
      refine seqK_n ?_
      refine sem_seq ?_
      refine sem_region rfl ?_
      refine step_r rfl rfl trivial ?_
      refine step_r rfl rfl trivial ?_
      refine step_nil ?_
      refine seqK_n ?_
      refine sem_ret ?_
      have e93 : targetTR l now target near = target := by
       unfold targetTR
       try dsimp only
       rewrite [hJ1]
       try dsimp only
       rewrite [if_neg g23, hJ30]
       try dsimp only
       rewrite [if_neg g85, if_neg g90]
       all_goals rfl
      rw [e93]
      exact answersR rfl ⟨trivial, trivial⟩ (rfl) rfl
end Go.Proofs.Ytcahldiaeamgaaa

import Derived.Test.YtcahldiaeamgaaaSl
namespace Go.Proofs.Ytcahldiaeamgaaa
open Go Go.RowKit Go.Proofs.YtcahldiaeamgaaaVm
attribute [local irreducible] opsWp AnswersE OpsS
set_option maxHeartbeats 400000
set_option maxRecDepth 100000
set_option linter.all false
def matchT (t : GThreat) (c1 : Int) : Bool :=
  ((t.Unit : Int) == c1)
theorem matchT_ok (t : GThreat) (c1 : Int) : Ok Try.prog 41 [aGThreat t, .pptr [i64 c1] 0] [] (B (matchT t c1)) [] [] := by
 refine ok_of_sem Try.func41 rfl ?_
 show Walks Try.prog _ _ ⟨[(0, aGThreat t), (1, .pptr [i64 c1] 0)], [], 0, [], 8, 0⟩
 refine sem_seq ?_
 refine sem_region rfl ?_
 refine step_n (o := .box [_, _, _]) (nx' := 1) rfl rfl rfl trivial ?_
 refine step_r rfl rfl trivial ?_
 refine step_nil ?_
 refine seqK_n ?_
 refine sem_seq ?_
 refine sem_region rfl ?_
 refine step_r rfl rfl (by decide) ?_
 refine step_r rfl rfl trivial ?_
 refine step_load_one rfl rfl rfl (rfl) rfl ?_
 refine step_bin rfl rfl rfl rfl rfl trivial ?_
 refine step_r rfl rfl trivial ?_
 refine step_nil ?_
 refine seqK_n ?_
 refine sem_ret ?_
 have e2 : matchT t c1 = ((t.Unit : Int) == c1) := by
  unfold matchT
  try dsimp only
  all_goals rfl
 rw [e2]
 exact answersR rfl ⟨trivial, trivial⟩ (rfl) rfl

def findT (l : List GThreat) (unit : Int) : Int :=
  (fidx (fun x_ => matchT x_ unit) l)
theorem findT_ok (l : List GThreat) (l_f : Bool) (unit : Int) : Ok Try.prog 29 [.pv (.slc l.length l_f (l.flatMap encGThreat)), I unit] [] (I (findT l unit)) [] [] := by
 refine Ok.len fun hlen => ?_
 have hl_l : l.length ≤ maxLen := hlen _ (by simp [lensL, lens, lensP])
 unfold maxLen at hl_l
 refine ok_of_sem Try.func29 rfl ?_
 show Walks Try.prog _ _ ⟨[(0, .pv (.slc l.length l_f (l.flatMap encGThreat))), (1, I unit)], [], 0, [], 8, 0⟩
 refine sem_seq ?_
 refine sem_region rfl ?_
 refine step_n (o := .box [_]) (nx' := 1) rfl rfl rfl trivial ?_
 refine step_r rfl rfl trivial ?_
 refine step_nil ?_
 refine seqK_n ?_
 refine sem_seq ?_
 refine sem_region rfl ?_
 refine step_r rfl rfl trivial ?_
 refine step_r rfl rfl trivial ?_
 refine step_callJ (Hin := [.box [.pv _]]) (H' := [(0, .box [_])]) (nx' := 1) [0] rfl rfl rfl rfl rfl rfl rfl rfl rfl (by (repeat' apply And.intro) <;> first | trivial | rfl | exact flat_len (fun _ => rfl) _ | exact encI_len _ | exact encB_len _ | exact encY_len _ | exact Nat.le_of_ble_eq_true rfl | assumption) (ixf_GThreat l false 41 [.pptr [i64 unit] 0] (fun x_ => matchT x_ unit) ⟨rfl, rfl, fun _ => rfl, fun _ => rfl, fun x_ => matchT_ok x_ unit⟩) rfl (by decide) rfl rfl trivial rfl rfl rfl rfl ?_
 refine step_r rfl rfl trivial ?_
 refine step_nil ?_
 refine seqK_n ?_
 refine sem_ret ?_
 have e2 : findT l unit = (fidx (fun x_ => matchT x_ unit) l) := by
  unfold findT
  try dsimp only
  all_goals rfl
 rw [e2]
 exact answersR rfl ⟨trivial, trivial⟩ (rfl) rfl

theorem findT_lt (l : List GThreat) (unit : Int) : -1 ≤ findT l unit ∧ findT l unit < l.length := by
  unfold findT
  rcases fidx_cases (fun x_ => matchT x_ unit) l with ⟨h, _⟩ | ⟨k, x, h, h2, _⟩
  · rw [h]; omega
  · rw [h]; have := (List.getElem?_eq_some_iff.1 h2).1; omega

def rightT_L0 : List GThreat → Nat → (List Int) → Sum Bool Unit
  | [], k0, had0 => .inr ()
  | x0 :: l_, k0, had0 => if (x0.Unit : Int) < 1 then .inl false else if (x0.Much : Int) < 0 then .inl false else if x0.Unit ∈ had0 then .inl false else rightT_L0 l_ (k0 + 1) (insI had0 x0.Unit)
def rightT (l : List GThreat) : Bool :=
  (match rightT_L0 l 0 ([]) with
    | .inl r_ => r_
    | .inr () => (decide ((l.length : Int) ≤ 40)))
theorem rightT_ok (l : List GThreat) (l_f : Bool) : Ok Try.prog 16 [.pv (.slc l.length l_f (l.flatMap encGThreat))] [] (B (rightT l)) [] [] := by
 refine Ok.len fun hlen => ?_
 have hl_l : l.length ≤ maxLen := hlen _ (by simp [lensL, lens, lensP])
 unfold maxLen at hl_l
 refine ok_of_sem Try.func16 rfl ?_
 show Walks Try.prog _ _ ⟨[(0, .pv (.slc l.length l_f (l.flatMap encGThreat)))], [], 0, [], 34, 0⟩
 refine sem_seq ?_
 refine sem_region rfl ?_
 refine step_r rfl rfl trivial ?_
 refine step_nil ?_
 refine seqK_n ?_
 refine sem_seq ?_
 refine sem_region rfl ?_
 refine step_n (o := .mp _) (nx' := 1) rfl rfl rfl trivial ?_
 refine step_r rfl rfl trivial ?_
 refine step_nil ?_
 refine seqK_n ?_
 refine sem_seq ?_
 refine sem_seq ?_
 refine sem_region rfl ?_
 refine step_r rfl rfl trivial ?_
 refine step_r rfl rfl trivial ?_
 refine step_r rfl rfl trivial ?_
 refine step_nil ?_
 refine seqK_n ?_
 refine sem_cutW (fun w_ : Unit => match w_ with | () => (⟨[(0, .pv (.slc l.length l_f (l.flatMap encGThreat)))], [], 0, [], 34, 0⟩ : St)) (fun w_ => rightT_L0 l 0 ([]) = .inr w_) ?_ ?_
 ·refine sem_block ?_
  refine sem_loopT (fun w_ : Nat × (List Int) => match w_ with | (k0, had0) => (⟨[(0, .pv (.slc l.length l_f (l.flatMap encGThreat))), (3, .mapr 0), (7, .pv (.slc l.length l_f (l.flatMap encGThreat))), (8, I l.length), (9, I k0)], [(0, .mp (setI had0))], 1, [], 34, 0⟩ : St)) (fun w_ : Nat × (List Int) => match w_ with | (k0, had0) => rightT_L0 (l.drop k0) k0 had0 = rightT_L0 l 0 ([]) ∧ k0 ≤ l.length) (fun w_ : Nat × (List Int) => match w_ with | (k0, had0) => l.length - k0) (0, []) (⟨rfl, Nat.zero_le _⟩) ?_ (fun w_ hh_ => ?_)
  ·exact (Trans.ren [] (by decide +kernel) (by decide +kernel) rfl ⟨⟨rfl, rfl⟩, ⟨rfl, rfl⟩, ⟨rfl, rfl⟩, ⟨rfl, rfl⟩, ⟨rfl, rfl⟩, trivial⟩ ⟨⟨rfl, rfl, rfl⟩, trivial⟩ (by decide))
  obtain ⟨k0, had0⟩ := w_
  obtain ⟨hI0, hb0⟩ := hh_
  show Walks Try.prog _ _ (⟨[(0, .pv (.slc l.length l_f (l.flatMap encGThreat))), (3, .mapr 0), (7, .pv (.slc l.length l_f (l.flatMap encGThreat))), (8, I l.length), (9, I k0)], [(0, .mp (setI had0))], 1, [], 34, 0⟩ : St)
  refine sem_seq ?_
  refine sem_region rfl ?_
  refine step_bin rfl rfl rfl rfl rfl trivial ?_
  refine step_nil ?_
  refine seqK_n ?_
  refine sem_seq ?_
  refine sem_cond rfl (fun h2 => ?_) (fun h2 => ?_)
  ·have g2 : (k0 : Int) < l.length := of_decide_eq_true h2
   have hk0 : k0 < l.length := by omega
   obtain ⟨x0, hx0⟩ : ∃ z_, l[k0]? = some z_ := ⟨_, List.getElem?_eq_getElem hk0⟩
   refine sem_skip ?_
   refine seqK_n ?_
   refine sem_seq ?_
   refine sem_block ?_
   refine sem_seq ?_
   refine sem_region rfl ?_
   refine step_idxS (k := k0) rfl rfl rfl rfl hk0 (flat_ne (s := 3) (enc := encGThreat) (fun _ => rfl) (by decide) hk0) rfl ?_
   refine step_load_row rfl rfl rfl (flat_lt (s := 3) (enc := encGThreat) (fun _ => rfl) hk0) (flat_take (s := 3) (enc := encGThreat) (fun _ => rfl) hx0) rfl ?_
   refine step_n (o := .box [_, _, _]) (nx' := 2) rfl rfl rfl trivial ?_
   refine step_store (H' := [(1, .box [_, _, _]), (0, .mp _)]) rfl rfl rfl rfl rfl rfl (Nat.le_of_ble_eq_true rfl) (.inl rfl) rfl ?_
   refine step_nil ?_
   refine seqK_n ?_
   refine sem_seq ?_
   refine sem_seq ?_
   refine sem_region rfl ?_
   refine step_r rfl rfl (by decide) ?_
   refine step_r rfl rfl trivial ?_
   refine step_bin rfl rfl rfl rfl rfl trivial ?_
   refine step_r rfl rfl trivial ?_
   refine step_gs rfl (fun h4 => ?_) (fun h4 => ?_)
   ·have g4 : (x0.Unit : Int) < 1 := of_decide_eq_true h4
    refine step_g0 rfl h4 rfl ?_
    refine step_g0 rfl h4 rfl ?_
    refine step_g0 rfl h4 rfl ?_
    refine step_pickT rfl h4 rfl rfl ?_
    refine step_r rfl rfl trivial ?_
    refine step_gf rfl rfl ?_
    refine step_gf rfl rfl ?_
    refine step_gf rfl rfl ?_
    refine step_gf rfl rfl ?_
    refine step_r rfl rfl trivial ?_
    refine step_nil ?_
    refine seqK_n ?_
    refine sem_condT rfl ?_
    refine sem_seq ?_
    refine sem_region rfl ?_
    refine step_r rfl rfl trivial ?_
    refine step_nil ?_
    refine seqK_n ?_
    refine sem_ret ?_
    refine seqK_r ?_
    refine blkK_r ?_
    refine seqK_r ?_
    refine lupK_r ?_
    refine blkK_r ?_
    refine cutW_r ?_
    refine seqK_r ?_
    have e5 : rightT_L0 l 0 ([]) = .inl false := by
     rewrite [← hI0, drop_cons hx0]
     rewrite [rightT_L0]
     try dsimp only
     rewrite [if_pos g4]
     all_goals rfl
    have e6 : rightT l = false := by
     unfold rightT
     try dsimp only
     rewrite [e5]
     try dsimp only
     all_goals rfl
    rw [e6]
    exact answersR rfl ⟨trivial, trivial⟩ (rfl) rfl
   ·have g4 : ¬ ((x0.Unit : Int) < 1) := of_decide_eq_false h4
    refine step_g1 rfl h4 ?_
    refine step_r rfl rfl (by decide) ?_
    refine step_g1 rfl h4 ?_
    refine step_r rfl rfl trivial ?_
    refine step_g1 rfl h4 ?_
    refine step_bin rfl rfl rfl rfl rfl trivial ?_
    refine step_pickF rfl h4 rfl rfl ?_
    refine step_r rfl rfl trivial ?_
    refine step_gs rfl (fun h8 => ?_) (fun h8 => ?_)
    ·have g8 : (x0.Much : Int) < 0 := of_decide_eq_true h8
     refine step_g0 rfl h8 rfl ?_
     refine step_g0 rfl h8 rfl ?_
     refine step_g0 rfl h8 rfl ?_
     refine step_g0 rfl h8 rfl ?_
     refine step_pickT rfl h8 rfl rfl ?_
     refine step_nil ?_
     refine seqK_n ?_
     refine sem_condT rfl ?_
     refine sem_seq ?_
     refine sem_region rfl ?_
     refine step_r rfl rfl trivial ?_
     refine step_nil ?_
     refine seqK_n ?_
     refine sem_ret ?_
     refine seqK_r ?_
     refine blkK_r ?_
     refine seqK_r ?_
     refine lupK_r ?_
     refine blkK_r ?_
     refine cutW_r ?_
     refine seqK_r ?_
     have e9 : rightT_L0 l 0 ([]) = .inl false := by
      rewrite [← hI0, drop_cons hx0]
      rewrite [rightT_L0]
      try dsimp only
      rewrite [if_neg g4, if_pos g8]
      all_goals rfl
     have e10 : rightT l = false := by
      unfold rightT
      try dsimp only
      rewrite [e9]
      try dsimp only
      all_goals rfl
     rw [e10]
     exact answersR rfl ⟨trivial, trivial⟩ (rfl) rfl
    ·have g8 : ¬ ((x0.Much : Int) < 0) := of_decide_eq_false h8
     refine step_g1 rfl h8 ?_
     refine step_r rfl rfl trivial ?_
     refine step_g1 rfl h8 ?_
     refine step_r rfl rfl (by decide) ?_
     refine step_g1 rfl h8 ?_
     refine step_r rfl rfl trivial ?_
     refine step_g1 rfl h8 ?_
     refine step_lookI (l := had0) rfl rfl rfl rfl rfl rfl rfl ?_
     refine step_pickF rfl h8 rfl rfl ?_
     refine step_nil ?_
     refine seqK_n ?_
     refine sem_cond rfl (fun h12 => ?_) (fun h12 => ?_)
     ·have g12 : x0.Unit ∈ had0 := of_decide_eq_true h12
      refine sem_seq ?_
      refine sem_region rfl ?_
      refine step_r rfl rfl trivial ?_
      refine step_nil ?_
      refine seqK_n ?_
      refine sem_ret ?_
      refine seqK_r ?_
      refine blkK_r ?_
      refine seqK_r ?_
      refine lupK_r ?_
      refine blkK_r ?_
      refine cutW_r ?_
      refine seqK_r ?_
      have e13 : rightT_L0 l 0 ([]) = .inl false := by
       rewrite [← hI0, drop_cons hx0]
       rewrite [rightT_L0]
       try dsimp only
       rewrite [if_neg g4, if_neg g8, if_pos g12]
       all_goals rfl
      have e14 : rightT l = false := by
       unfold rightT
       try dsimp only
       rewrite [e13]
       try dsimp only
       all_goals rfl
      rw [e14]
      exact answersR rfl ⟨trivial, trivial⟩ (rfl) rfl
     ·have g12 : ¬ (x0.Unit ∈ had0) := of_decide_eq_false h12
      refine sem_skip ?_
      refine seqK_n ?_
      refine sem_region rfl ?_
      refine step_r rfl rfl trivial ?_
      refine step_r rfl rfl (by decide) ?_
      refine step_r rfl rfl trivial ?_
      refine step_putI (l := had0) (H'' := [(1, .box [_, _, _]), (0, .mp _)]) rfl rfl rfl rfl rfl rfl (.inl rfl) rfl ?_
      refine step_nil ?_
      refine blkK_n ?_
      refine seqK_n ?_
      refine sem_region rfl ?_
      refine step_bin rfl rfl rfl rfl rfl trivial ?_
      refine step_r rfl rfl trivial ?_
      refine step_nil ?_
      have e16 : rightT_L0 (l.drop k0) k0 had0 = rightT_L0 (l.drop (k0 + 1)) (k0 + 1) (insI had0 x0.Unit) := by
       rewrite [drop_cons hx0]
       rewrite [rightT_L0]
       try dsimp only
       rewrite [if_neg g4, if_neg g8, if_neg g12]
       all_goals rfl
      exact lup_againT (k0 + 1, (insI had0 x0.Unit)) ⟨e16.symm.trans hI0, hk0⟩ (by show l.length - (k0 + 1) < l.length - k0; omega) (Trans.ren [] (by decide +kernel) (by decide +kernel) rfl ⟨⟨rfl, rfl⟩, ⟨rfl, rfl⟩, ⟨rfl, rfl⟩, ⟨rfl, rfl⟩, ⟨congrArg (fun n => some (I n)) (wrapI (k := k0) (by first | omega | (simp; omega))), rfl⟩, trivial⟩ ⟨⟨rfl, rfl, rfl⟩, trivial⟩ (by decide))
  ·have g2 : ¬ ((k0 : Int) < l.length) := of_decide_eq_false h2
   have hk0 : k0 = l.length := by omega
   refine sem_exit ?_
   refine seqK_e ?_
   refine lupK_e ?_
   refine blkK_t rfl ?_
   have e17 : rightT_L0 l 0 ([]) = .inr () := by
    rewrite [← hI0, hk0, List.drop_length]
    rewrite [rightT_L0]
    try dsimp only
    all_goals rfl
   exact cutW_n () e17 (Trans.ren [] (by decide +kernel) (by decide +kernel) rfl ⟨⟨rfl, rfl⟩, trivial⟩ trivial (by decide))
 ·rintro ⟨⟩ (hJ1 : rightT_L0 l 0 ([]) = .inr ())
  show seqK _ _ _ .normal (⟨[(0, .pv (.slc l.length l_f (l.flatMap encGThreat)))], [], 0, [], 34, 0⟩ : St)
  refine seqK_n ?_
  refine sem_seq ?_
  refine sem_region rfl ?_
  refine step_r rfl rfl trivial ?_
  refine step_r rfl rfl trivial ?_
  refine step_bin rfl rfl rfl rfl rfl trivial ?_
  refine step_r rfl rfl trivial ?_
  refine step_nil ?_
  refine seqK_n ?_
  refine sem_ret ?_
  have e19 : rightT l = (decide ((l.length : Int) ≤ 40)) := by
   unfold rightT
   try dsimp only
   rewrite [hJ1]
   try dsimp only
   all_goals rfl
  rw [e19]
  exact answersR rfl ⟨trivial, trivial⟩ (rfl) rfl

def muchT (l : List GThreat) (unit : Int) : Int :=
  if (findT l unit : Int) < 0 then 0 else (l.getD ((findT l unit).toNat) default).Much
theorem muchT_ok (l : List GThreat) (l_f : Bool) (unit : Int) : Ok Try.prog 12 [.pv (.slc l.length l_f (l.flatMap encGThreat)), I unit] [] (I (muchT l unit)) [] [] := by
 refine Ok.len fun hlen => ?_
 have hl_l : l.length ≤ maxLen := hlen _ (by simp [lensL, lens, lensP])
 unfold maxLen at hl_l
 refine ok_of_sem Try.func12 rfl ?_
 show Walks Try.prog _ _ ⟨[(0, .pv (.slc l.length l_f (l.flatMap encGThreat))), (1, I unit)], [], 0, [], 16, 0⟩
 refine sem_seq ?_
 refine sem_region rfl ?_
 refine step_r rfl rfl trivial ?_
 refine step_nil ?_
 refine seqK_n ?_
 refine sem_seq ?_
 refine sem_region rfl ?_
 refine step_r rfl rfl trivial ?_
 refine step_r rfl rfl trivial ?_
 refine step_call rfl rfl rfl rfl (findT_ok l l_f unit) rfl rfl rfl ?_
 have p2 := findT_lt l unit
 refine step_r rfl rfl trivial ?_
 refine step_nil ?_
 refine seqK_n ?_
 refine sem_seq ?_
 refine sem_seq ?_
 refine sem_region rfl ?_
 refine step_r rfl rfl trivial ?_
 refine step_bin rfl rfl rfl rfl rfl trivial ?_
 refine step_nil ?_
 refine seqK_n ?_
 refine sem_cond rfl (fun h4 => ?_) (fun h4 => ?_)
 ·have g4 : (findT l unit : Int) < 0 := of_decide_eq_true h4
  refine sem_seq ?_
  refine sem_region rfl ?_
  refine step_r rfl rfl trivial ?_
  refine step_nil ?_
  refine seqK_n ?_
  refine sem_ret ?_
  refine seqK_r ?_
  have e5 : muchT l unit = 0 := by
   unfold muchT
   try dsimp only
   rewrite [if_pos g4]
   all_goals rfl
  rw [e5]
  exact answersR rfl ⟨trivial, trivial⟩ (rfl) rfl
 ·have g4 : ¬ ((findT l unit : Int) < 0) := of_decide_eq_false h4
  refine sem_skip ?_
  refine seqK_n ?_
  refine sem_seq ?_
  refine sem_region rfl ?_
  refine step_r rfl rfl trivial ?_
  refine step_r rfl rfl trivial ?_
  have jk6 : (findT l unit).toNat < l.length := by first | assumption | omega | (simp only [List.length_set, List.length_append]; omega) | (simp only [IntKind.wrap_i64] at *; omega) | (simp; omega) | simp_all
  refine step_idxS' (k := (findT l unit).toNat) rfl rfl (Int.toNat_of_nonneg (by first | omega | (simp only [IntKind.wrap_i64]; omega) | (simp only [IntKind.wrap_i64] at *; omega) | (simp; omega))).symm rfl rfl jk6 (flat_ne (s := 3) (enc := encGThreat) (fun _ => rfl) (by decide) jk6) rfl ?_
  refine step_r rfl rfl (by decide) ?_
  refine step_load_one rfl rfl rfl (flat_get (s := 3) (enc := encGThreat) (fun _ => rfl) (get_getD jk6) (o := 1) rfl (by decide)) rfl ?_
  refine step_r rfl rfl trivial ?_
  refine step_nil ?_
  refine seqK_n ?_
  refine sem_ret ?_
  have e8 : muchT l unit = (l.getD ((findT l unit).toNat) default).Much := by
   unfold muchT
   try dsimp only
   rewrite [if_neg g4]
   all_goals rfl
  rw [e8]
  exact answersR rfl ⟨trivial, trivial⟩ (rfl) rfl

def addT (l : List GThreat) (unit : Int) (much : Int) : (List GThreat) × Int :=
  if rightT l = true then (if (unit : Int) < 1 then ([], 1) else if (findT l unit : Int) ≥ 0 then ((l.set (findT l unit).toNat { (l.getD ((findT l unit).toNat) default) with Much := (max (addM ((l.getD ((findT l unit).toNat) default).Much) much) 0) }), 0) else if (l.length : Int) ≥ 40 then ([], 4) else ((l ++ [(⟨unit, (max much 0), (-9223372036854775808)⟩ : GThreat)]), 0)) else ([], 1)
theorem addT_ok (l : List GThreat) (l_f : Bool) (unit : Int) (much : Int) (hl : l.length ≤ 16777215) : Ok Try.prog 13 [.pv (.slc l.length l_f (l.flatMap encGThreat)), I unit, I much] [] (.tup [.ref 0 3 0 (addT l unit much).1.length, I (addT l unit much).2]) [.row 40 3 ((addT l unit much).1.flatMap encGThreat)] [] := by
 refine Ok.len fun hlen => ?_
 have hl_l : l.length ≤ maxLen := hlen _ (by simp [lensL, lens, lensP])
 unfold maxLen at hl_l
 refine ok_of_sem Try.func13 rfl ?_
 show Walks Try.prog _ _ ⟨[(0, .pv (.slc l.length l_f (l.flatMap encGThreat))), (1, I unit), (2, I much)], [], 0, [], 49, 0⟩
 refine sem_seq ?_
 refine sem_region rfl ?_
 refine step_n (nx' := 1) rfl rfl rfl trivial ?_
 refine step_r rfl rfl trivial ?_
 refine step_nil ?_
 refine seqK_n ?_
 refine sem_seq ?_
 refine sem_seq ?_
 refine sem_region rfl ?_
 refine step_r rfl rfl trivial ?_
 refine step_call rfl rfl rfl rfl (rightT_ok l l_f) rfl rfl rfl ?_
 refine step_r rfl rfl trivial ?_
 refine step_r rfl rfl trivial ?_
 refine step_gs rfl (fun h2 => ?_) (fun h2 => ?_)
 ·have g2 : ¬ (rightT l = true) := boo_f (not_t h2)
  refine step_g0 rfl h2 rfl ?_
  refine step_g0 rfl h2 rfl ?_
  refine step_pickT rfl h2 rfl rfl ?_
  refine step_nil ?_
  refine seqK_n ?_
  refine sem_condT rfl ?_
  refine sem_seq ?_
  refine sem_region rfl ?_
  refine step_n (nx' := 2) rfl rfl rfl trivial ?_
  refine step_r rfl rfl trivial ?_
  refine step_nil ?_
  refine seqK_n ?_
  refine sem_ret ?_
  refine seqK_r ?_
  have e3 : addT l unit much = ([], 1) := by
   unfold addT
   try dsimp only
   rewrite [if_neg g2]
   all_goals rfl
  rw [e3]
  exact answersGR [] [1] rfl ⟨trivial, trivial, trivial⟩ rfl (by (repeat' apply And.intro) <;> first | trivial | rfl | exact flat_len (fun _ => rfl) _ | exact encI_len _ | exact encB_len _ | exact encY_len _ | assumption) (rfl) rfl rfl rfl (by decide) rfl rfl ⟨⟨rfl, rfl⟩, trivial⟩
 ·have g2 : rightT l = true := (not_f h2)
  refine step_g1 rfl h2 ?_
  refine step_r rfl rfl trivial ?_
  refine step_g1 rfl h2 ?_
  refine step_bin rfl rfl rfl rfl rfl trivial ?_
  refine step_pickF rfl h2 rfl rfl ?_
  refine step_nil ?_
  refine seqK_n ?_
  refine sem_cond rfl (fun h6 => ?_) (fun h6 => ?_)
  ·have g6 : (unit : Int) < 1 := of_decide_eq_true h6
   refine sem_seq ?_
   refine sem_region rfl ?_
   refine step_n (nx' := 2) rfl rfl rfl trivial ?_
   refine step_r rfl rfl trivial ?_
   refine step_nil ?_
   refine seqK_n ?_
   refine sem_ret ?_
   refine seqK_r ?_
   have e7 : addT l unit much = ([], 1) := by
    unfold addT
    try dsimp only
    rewrite [if_pos g2, if_pos g6]
    all_goals rfl
   rw [e7]
   exact answersGR [] [1] rfl ⟨trivial, trivial, trivial⟩ rfl (by (repeat' apply And.intro) <;> first | trivial | rfl | exact flat_len (fun _ => rfl) _ | exact encI_len _ | exact encB_len _ | exact encY_len _ | assumption) (rfl) rfl rfl rfl (by decide) rfl rfl ⟨⟨rfl, rfl⟩, trivial⟩
  ·have g6 : ¬ ((unit : Int) < 1) := of_decide_eq_false h6
   refine sem_skip ?_
   refine seqK_n ?_
   refine sem_seq ?_
   refine sem_region rfl ?_
   refine step_r rfl rfl trivial ?_
   refine step_callJ (Hin := []) (out' := .ref 1 _ _ _) (H' := [(1, .row _ _ _), (0, .row _ _ _)]) (nx' := 2) [] rfl rfl rfl rfl rfl rfl rfl rfl rfl (by (repeat' apply And.intro) <;> first | trivial | rfl | exact flat_len (fun _ => rfl) _ | exact encI_len _ | exact encB_len _ | exact encY_len _ | exact Nat.le_of_ble_eq_true rfl | assumption) (clone_GThreat l false (by first | assumption | omega | (simp; omega) | simp_all)) rfl (by decide) rfl rfl ⟨encGThreat_solid, trivial⟩ rfl rfl rfl rfl ?_
   refine step_r rfl rfl trivial ?_
   refine step_nil ?_
   refine seqK_n ?_
   refine sem_seq ?_
   refine sem_region rfl ?_
   refine step_r rfl rfl trivial ?_
   refine step_r rfl rfl trivial ?_
   refine step_callJ (Hin := [.row _ _ _]) (H' := [(1, .row _ _ _), (0, .row _ _ _)]) (nx' := 2) [1] rfl rfl rfl rfl rfl rfl rfl rfl rfl (by (repeat' apply And.intro) <;> first | trivial | rfl | exact flat_len (s := 3) (enc := encGThreat) (fun _ => rfl) _ | exact flat_len (fun _ => rfl) _ | exact encI_len _ | exact encB_len _ | exact encY_len _ | exact Nat.le_of_ble_eq_true rfl | assumption) (findT_ok l false unit) rfl (by decide) rfl rfl trivial rfl rfl rfl rfl ?_
   have p8 := findT_lt l unit
   refine step_r rfl rfl trivial ?_
   refine step_nil ?_
   refine seqK_n ?_
   refine sem_seq ?_
   refine sem_block ?_
   refine sem_seq ?_
   refine sem_region rfl ?_
   refine step_r rfl rfl trivial ?_
   refine step_bin rfl rfl rfl rfl rfl trivial ?_
   refine step_r rfl rfl trivial ?_
   refine step_nil ?_
   refine seqK_n ?_
   refine sem_cond rfl (fun h11 => ?_) (fun h11 => ?_)
   ·have g11 : (findT l unit : Int) ≥ 0 := of_decide_eq_true h11
    refine sem_seq ?_
    refine sem_region rfl ?_
    refine step_r rfl rfl trivial ?_
    refine step_r rfl rfl trivial ?_
    refine step_r rfl rfl trivial ?_
    refine step_r rfl rfl trivial ?_
    have jk12 : (findT l unit).toNat < l.length := by first | assumption | omega | (simp only [List.length_set, List.length_append]; omega) | (simp only [IntKind.wrap_i64] at *; omega) | (simp; omega) | simp_all
    refine step_idxR' (k := (findT l unit).toNat) rfl rfl (Int.toNat_of_nonneg (by first | omega | (simp only [IntKind.wrap_i64]; omega) | (simp only [IntKind.wrap_i64] at *; omega) | (simp; omega))).symm rfl rfl jk12 rfl ?_
    refine step_r rfl rfl (by decide) ?_
    refine step_load_oneR rfl rfl rfl rfl (flat_get (s := 3) (enc := encGThreat) (fun _ => rfl) (get_getD jk12) (o := 1) rfl (by decide)) rfl ?_
    refine step_r rfl rfl trivial ?_
    refine step_call rfl rfl rfl rfl (add_ok ((l.getD ((findT l unit).toNat) default).Much) much) rfl rfl rfl ?_
    refine step_max rfl rfl rfl ?_
    refine step_idxR' (k := (findT l unit).toNat) rfl rfl (Int.toNat_of_nonneg (by first | omega | (simp only [IntKind.wrap_i64]; omega) | (simp only [IntKind.wrap_i64] at *; omega) | (simp; omega))).symm rfl rfl jk12 rfl ?_
    refine step_r rfl rfl (by decide) ?_
    refine step_storeR rfl rfl rfl rfl (by have := flat_lt (s := 3) (enc := encGThreat) (fun _ => rfl) jk12; show ((findT l unit).toNat) * 3 + 1 < _; omega) (flat_set (enc := encGThreat) (s := 3) (y := { (l.getD ((findT l unit).toNat) default) with Much := (max (addM ((l.getD ((findT l unit).toNat) default).Much) much) 0) }) (fun _ => rfl) (get_getD jk12) (by decide) rfl) (.inl rfl) rfl ?_
    refine step_nil ?_
    refine seqK_n ?_
    refine sem_seq ?_
    refine sem_region rfl ?_
    refine step_r rfl rfl trivial ?_
    refine step_r rfl rfl trivial ?_
    refine step_r rfl rfl trivial ?_
    refine step_nil ?_
    refine seqK_n ?_
    refine sem_ret ?_
    refine blkK_r ?_
    refine seqK_r ?_
    have e14 : addT l unit much = ((l.set (findT l unit).toNat { (l.getD ((findT l unit).toNat) default) with Much := (max (addM ((l.getD ((findT l unit).toNat) default).Much) much) 0) }), 0) := by
     unfold addT
     try dsimp only
     rewrite [if_pos g2, if_neg g6, if_pos g11]
     all_goals rfl
    rw [e14]
    try simp only [List.length_set]
    exact answersGR [] [1] rfl ⟨trivial, trivial, trivial⟩ rfl (by (repeat' apply And.intro) <;> first | trivial | rfl | exact flat_len (fun _ => rfl) _ | exact encI_len _ | exact encB_len _ | exact encY_len _ | assumption) (rfl) rfl rfl rfl (by decide) rfl rfl ⟨⟨rfl, rfl⟩, trivial⟩
   ·have g11 : ¬ ((findT l unit : Int) ≥ 0) := of_decide_eq_false h11
    refine sem_seq ?_
    refine sem_region rfl ?_
    refine step_r rfl rfl trivial ?_
    refine step_r rfl rfl trivial ?_
    refine step_bin rfl rfl rfl rfl rfl trivial ?_
    refine step_r rfl rfl trivial ?_
    refine step_nil ?_
    refine seqK_n ?_
    refine sem_cond rfl (fun h16 => ?_) (fun h16 => ?_)
    ·have g16 : (l.length : Int) ≥ 40 := of_decide_eq_true h16
     refine sem_seq ?_
     refine sem_region rfl ?_
     refine step_n (nx' := 3) rfl rfl rfl trivial ?_
     refine step_r rfl rfl trivial ?_
     refine step_nil ?_
     refine seqK_n ?_
     refine sem_ret ?_
     refine blkK_r ?_
     refine seqK_r ?_
     have e17 : addT l unit much = ([], 4) := by
      unfold addT
      try dsimp only
      rewrite [if_pos g2, if_neg g6, if_neg g11, if_pos g16]
      all_goals rfl
     rw [e17]
     exact answersGR [] [2] rfl ⟨trivial, trivial, trivial⟩ rfl (by (repeat' apply And.intro) <;> first | trivial | rfl | exact flat_len (fun _ => rfl) _ | exact encI_len _ | exact encB_len _ | exact encY_len _ | assumption) (rfl) rfl rfl rfl (by decide) rfl rfl ⟨⟨rfl, rfl⟩, trivial⟩
    ·have g16 : ¬ ((l.length : Int) ≥ 40) := of_decide_eq_false h16
     refine sem_skip ?_
     refine blkK_n ?_
     refine seqK_n ?_
     refine sem_seq ?_
     refine sem_region rfl ?_
     refine step_r rfl rfl trivial ?_
     refine step_r rfl rfl trivial ?_
     refine step_r rfl rfl trivial ?_
     refine step_max rfl rfl rfl ?_
     refine step_r (v := (.agg [_, _, _])) rfl rfl trivial ?_
     refine step_n (o := .row _ _ [_, _, _]) (nx' := 3) rfl rfl rfl (by decide) ?_
     refine step_appendC (m := 1) (new := [_, _, _]) (cs' := (l ++ [(⟨unit, (max much 0), (-9223372036854775808)⟩ : GThreat)]).flatMap encGThreat) (n' := (l ++ [(⟨unit, (max much 0), (-9223372036854775808)⟩ : GThreat)]).length) (H' := [(2, .row _ _ _), (1, .row _ _ _), (0, .row _ _ _)]) rfl rfl rfl (rfl) rfl rfl rfl rfl rfl rfl (flat_len (s := 3) (enc := encGThreat) (fun _ => rfl) l) (rfl) (by first | decide | (unfold maxGrow; omega) | (unfold maxGrow; simp; omega) | (unfold maxGrow; simp only [List.length_append, List.length_take, List.length_drop, List.length_cons, List.length_nil, IntKind.wrap_i64] at *; omega)) (len_snoc l _) (((flat_snoc (enc := encGThreat) (l := l) (⟨unit, (max much 0), (-9223372036854775808)⟩ : GThreat))).symm) (.inl rfl) rfl rfl (.keep rfl (.keep rfl (.keep rfl .nil))) (.keep rfl (.keep rfl (.keep rfl (.keep rfl (.keep rfl (.lose (v' := .undef) rfl (.keep rfl (.keep rfl (.keep rfl (.lose (v' := .undef) rfl (.keep rfl (.keep rfl (.keep rfl (.keep rfl (.keep rfl (.keep rfl (.lose (v' := .undef) rfl (.lose (v' := .undef) rfl (.lose (v' := .undef) rfl (.keep rfl (.keep rfl (.keep rfl (.keep rfl (.keep rfl (.keep rfl (.keep rfl (.keep rfl (.keep rfl (.keep rfl (.keep rfl (.keep rfl (.keep rfl .nil)))))))))))))))))))))))))))))))) ?_
     refine step_r rfl rfl trivial ?_
     refine step_r rfl rfl trivial ?_
     refine step_nil ?_
     refine seqK_n ?_
     refine sem_ret ?_
     have e19 : addT l unit much = ((l ++ [(⟨unit, (max much 0), (-9223372036854775808)⟩ : GThreat)]), 0) := by
      unfold addT
      try dsimp only
      rewrite [if_pos g2, if_neg g6, if_neg g11, if_neg g16]
      all_goals rfl
     rw [e19]
     exact answersGR [] [1] rfl ⟨trivial, trivial, trivial⟩ rfl (by (repeat' apply And.intro) <;> first | trivial | rfl | exact flat_len (fun _ => rfl) _ | exact encI_len _ | exact encB_len _ | exact encY_len _ | assumption) (rfl) rfl rfl rfl (by decide) rfl rfl ⟨⟨rfl, rfl⟩, trivial⟩

def dropT (l : List GThreat) (unit : Int) : (List GThreat) × Bool :=
  if (findT l unit : Int) < 0 then (l, false) else ((l.take (findT l unit).toNat ++ l.drop (IntKind.i64.wrap ((findT l unit) + 1)).toNat), true)
theorem dropT_ok (l : List GThreat) (l_f : Bool) (unit : Int) (hl : l.length ≤ 16777215) : Ok Try.prog 14 [.pv (.slc l.length l_f (l.flatMap encGThreat)), I unit] [] (.tup [.ref 0 3 0 (dropT l unit).1.length, B (dropT l unit).2]) [.row 40 3 ((dropT l unit).1.flatMap encGThreat)] [] := by
 refine Ok.len fun hlen => ?_
 have hl_l : l.length ≤ maxLen := hlen _ (by simp [lensL, lens, lensP])
 unfold maxLen at hl_l
 refine ok_of_sem Try.func14 rfl ?_
 show Walks Try.prog _ _ ⟨[(0, .pv (.slc l.length l_f (l.flatMap encGThreat))), (1, I unit)], [], 0, [], 21, 0⟩
 refine sem_seq ?_
 refine sem_region rfl ?_
 refine step_n (nx' := 1) rfl rfl rfl trivial ?_
 refine step_r rfl rfl trivial ?_
 refine step_nil ?_
 refine seqK_n ?_
 refine sem_seq ?_
 refine sem_region rfl ?_
 refine step_r rfl rfl trivial ?_
 refine step_callJ (Hin := []) (out' := .ref 1 _ _ _) (H' := [(1, .row _ _ _), (0, .row _ _ _)]) (nx' := 2) [] rfl rfl rfl rfl rfl rfl rfl rfl rfl (by (repeat' apply And.intro) <;> first | trivial | rfl | exact flat_len (fun _ => rfl) _ | exact encI_len _ | exact encB_len _ | exact encY_len _ | exact Nat.le_of_ble_eq_true rfl | assumption) (clone_GThreat l false (by first | assumption | omega | (simp; omega) | simp_all)) rfl (by decide) rfl rfl ⟨encGThreat_solid, trivial⟩ rfl rfl rfl rfl ?_
 refine step_r rfl rfl trivial ?_
 refine step_nil ?_
 refine seqK_n ?_
 refine sem_seq ?_
 refine sem_region rfl ?_
 refine step_r rfl rfl trivial ?_
 refine step_r rfl rfl trivial ?_
 refine step_callJ (Hin := [.row _ _ _]) (H' := [(1, .row _ _ _), (0, .row _ _ _)]) (nx' := 2) [1] rfl rfl rfl rfl rfl rfl rfl rfl rfl (by (repeat' apply And.intro) <;> first | trivial | rfl | exact flat_len (s := 3) (enc := encGThreat) (fun _ => rfl) _ | exact flat_len (fun _ => rfl) _ | exact encI_len _ | exact encB_len _ | exact encY_len _ | exact Nat.le_of_ble_eq_true rfl | assumption) (findT_ok l false unit) rfl (by decide) rfl rfl trivial rfl rfl rfl rfl ?_
 have p2 := findT_lt l unit
 refine step_r rfl rfl trivial ?_
 refine step_nil ?_
 refine seqK_n ?_
 refine sem_seq ?_
 refine sem_seq ?_
 refine sem_region rfl ?_
 refine step_r rfl rfl trivial ?_
 refine step_bin rfl rfl rfl rfl rfl trivial ?_
 refine step_nil ?_
 refine seqK_n ?_
 refine sem_cond rfl (fun h4 => ?_) (fun h4 => ?_)
 ·have g4 : (findT l unit : Int) < 0 := of_decide_eq_true h4
  refine sem_seq ?_
  refine sem_region rfl ?_
  refine step_r rfl rfl trivial ?_
  refine step_r rfl rfl trivial ?_
  refine step_r rfl rfl trivial ?_
  refine step_nil ?_
  refine seqK_n ?_
  refine sem_ret ?_
  refine seqK_r ?_
  have e5 : dropT l unit = (l, false) := by
   unfold dropT
   try dsimp only
   rewrite [if_pos g4]
   all_goals rfl
  rw [e5]
  exact answersGR [] [1] rfl ⟨trivial, trivial, trivial⟩ rfl (by (repeat' apply And.intro) <;> first | trivial | rfl | exact flat_len (fun _ => rfl) _ | exact encI_len _ | exact encB_len _ | exact encY_len _ | assumption) (rfl) rfl rfl rfl (by decide) rfl rfl ⟨⟨rfl, rfl⟩, trivial⟩
 ·have g4 : ¬ ((findT l unit : Int) < 0) := of_decide_eq_false h4
  refine sem_skip ?_
  refine seqK_n ?_
  refine sem_seq ?_
  refine sem_region rfl ?_
  refine step_r rfl rfl trivial ?_
  refine step_r rfl rfl trivial ?_
  refine step_r rfl rfl trivial ?_
  refine step_bin rfl rfl rfl rfl rfl trivial ?_
  refine step_callM (Hin := [.row _ _ _]) (out' := .ref 1 _ _ _) (H' := [(1, .row _ _ _), (0, .row _ _ _)]) (nx' := 2) [1] rfl rfl rfl rfl (.inl rfl) rfl rfl rfl rfl (delete_GThreat l (findT l unit) (IntKind.i64.wrap ((findT l unit) + 1)) (by first | omega | (simp only [IntKind.wrap_i64]; omega) | (simp only [IntKind.wrap_i64] at *; omega) | (simp; omega)) (by first | omega | (simp only [IntKind.wrap_i64]; omega) | (simp only [IntKind.wrap_i64] at *; omega) | (simp; omega)) (by first | omega | (simp only [IntKind.wrap_i64]; omega) | (simp only [IntKind.wrap_i64] at *; omega) | (simp; omega)) (by first | omega | (simp only [IntKind.wrap_i64]; omega) | (simp only [IntKind.wrap_i64] at *; omega) | (simp; omega))) rfl (by decide) rfl rfl rfl rfl rfl ?_
  refine step_r rfl rfl trivial ?_
  refine step_r rfl rfl trivial ?_
  refine step_nil ?_
  refine seqK_n ?_
  refine sem_ret ?_
  have e6 : dropT l unit = ((l.take (findT l unit).toNat ++ l.drop (IntKind.i64.wrap ((findT l unit) + 1)).toNat), true) := by
   unfold dropT
   try dsimp only
   rewrite [if_neg g4]
   all_goals rfl
  rw [e6]
  exact answersGR [] [1] rfl ⟨trivial, trivial, trivial⟩ rfl (by (repeat' apply And.intro) <;> first | trivial | rfl | exact flat_len (fun _ => rfl) _ | exact encI_len _ | exact encB_len _ | exact encY_len _ | assumption) (rfl) rfl rfl rfl (by decide) rfl rfl ⟨⟨rfl, rfl⟩, trivial⟩

theorem addT_len (l : List GThreat) (u m : Int) : (addT l u m).1.length ≤ l.length + 1 := by
  unfold addT
  dsimp only
  repeat' split
  all_goals simp
theorem dropT_len (l : List GThreat) (u : Int) (hl : l.length ≤ 16777215) : (dropT l u).1.length ≤ l.length := by
  unfold dropT
  have := findT_lt l u
  split
  · simp
  · simp only [IntKind.wrap_i64, List.length_append, List.length_take, List.length_drop]; omega

def muchOf (t : GThreat) : Int :=
  t.Much
theorem muchOf_ok (t : GThreat) : Ok Try.prog 31 [aGThreat t] [] (I (muchOf t)) [] [] := by
 refine ok_of_sem Try.func31 rfl ?_
 show Walks Try.prog _ _ ⟨[(0, aGThreat t)], [], 0, [], 5, 0⟩
 refine sem_seq ?_
 refine sem_region rfl ?_
 refine step_n (o := .box [_, _, _]) (nx' := 1) rfl rfl rfl trivial ?_
 refine step_r rfl rfl trivial ?_
 refine step_nil ?_
 refine seqK_n ?_
 refine sem_seq ?_
 refine sem_region rfl ?_
 refine step_r rfl rfl (by decide) ?_
 refine step_r rfl rfl trivial ?_
 refine step_r rfl rfl trivial ?_
 refine step_nil ?_
 refine seqK_n ?_
 refine sem_ret ?_
 have e2 : muchOf t = t.Much := by
  unfold muchOf
  try dsimp only
  all_goals rfl
 rw [e2]
 exact answersR rfl ⟨trivial, trivial⟩ (rfl) rfl

def tauntOf (t : GThreat) : Int :=
  t.Taunt
theorem tauntOf_ok (t : GThreat) : Ok Try.prog 27 [aGThreat t] [] (I (tauntOf t)) [] [] := by
 refine ok_of_sem Try.func27 rfl ?_
 show Walks Try.prog _ _ ⟨[(0, aGThreat t)], [], 0, [], 5, 0⟩
 refine sem_seq ?_
 refine sem_region rfl ?_
 refine step_n (o := .box [_, _, _]) (nx' := 1) rfl rfl rfl trivial ?_
 refine step_r rfl rfl trivial ?_
 refine step_nil ?_
 refine seqK_n ?_
 refine sem_seq ?_
 refine sem_region rfl ?_
 refine step_r rfl rfl (by decide) ?_
 refine step_r rfl rfl trivial ?_
 refine step_r rfl rfl trivial ?_
 refine step_nil ?_
 refine seqK_n ?_
 refine sem_ret ?_
 have e2 : tauntOf t = t.Taunt := by
  unfold tauntOf
  try dsimp only
  all_goals rfl
 rw [e2]
 exact answersR rfl ⟨trivial, trivial⟩ (rfl) rfl

def anyT (a0 : GThreat) : Bool :=
  true
theorem anyT_ok (a0 : GThreat) : Ok Try.prog 28 [aGThreat a0] [] (B (anyT a0)) [] [] := by
 refine ok_of_sem Try.func28 rfl ?_
 show Walks Try.prog _ _ ⟨[(0, aGThreat a0)], [], 0, [], 3, 0⟩
 refine sem_seq ?_
 refine sem_region rfl ?_
 refine step_n (o := .box [_, _, _]) (nx' := 1) rfl rfl rfl trivial ?_
 refine step_r rfl rfl trivial ?_
 refine step_nil ?_
 refine seqK_n ?_
 refine sem_seq ?_
 refine sem_region rfl ?_
 refine step_r rfl rfl trivial ?_
 refine step_nil ?_
 refine seqK_n ?_
 refine sem_ret ?_
 have e1 : anyT a0 = true := by
  unfold anyT
  try dsimp only
  all_goals rfl
 rw [e1]
 exact answersR rfl ⟨trivial, trivial⟩ (rfl) rfl

def mostT_L0 (l : List GThreat) (counts : GThreat → Bool) (of : GThreat → Int) : List GThreat → Nat → Int → Int
  | [], k0, best0 => best0
  | x0 :: l_, k0, best0 => if counts x0 = true then (if (best0 : Int) < 0 then mostT_L0 l counts of l_ (k0 + 1) k0 else if (of x0 : Int) > (of (l.getD best0.toNat default)) then mostT_L0 l counts of l_ (k0 + 1) k0 else mostT_L0 l counts of l_ (k0 + 1) best0) else mostT_L0 l counts of l_ (k0 + 1) best0
def mostT (l : List GThreat) (counts : GThreat → Bool) (of : GThreat → Int) : Int :=
  (let best_0 := mostT_L0 l counts of l 0 (-1); best_0)
theorem mostT_ok (l : List GThreat) (l_f : Bool) (counts_c : FuncId) (counts_k : List AV) (counts : GThreat → Bool) (counts_h : Fn1 Try.prog counts_c counts_k (fun x_ : GThreat => [aGThreat x_]) (fun x_ => B (counts x_))) (of_c : FuncId) (of_k : List AV) (of : GThreat → Int) (of_h : Fn1 Try.prog of_c of_k (fun x_ : GThreat => [aGThreat x_]) (fun x_ => I (of x_))) : Ok Try.prog 25 [.pv (.slc l.length l_f (l.flatMap encGThreat)), .fnc counts_c counts_k, .fnc of_c of_k] [] (I (mostT l counts of)) [] [] := by
 refine Ok.len fun hlen => ?_
 have hl_l : l.length ≤ maxLen := hlen _ (by simp [lensL, lens, lensP])
 unfold maxLen at hl_l
 refine ok_of_sem Try.func25 rfl ?_
 show Walks Try.prog _ _ ⟨[(0, .pv (.slc l.length l_f (l.flatMap encGThreat))), (1, .fnc counts_c counts_k), (2, .fnc of_c of_k)], [], 0, [], 39, 0⟩
 refine sem_seq ?_
 refine sem_region rfl ?_
 refine step_r rfl rfl trivial ?_
 refine step_nil ?_
 refine seqK_n ?_
 refine sem_seq ?_
 refine sem_region rfl ?_
 refine step_r rfl rfl trivial ?_
 refine step_nil ?_
 refine seqK_n ?_
 refine sem_seq ?_
 refine sem_seq ?_
 refine sem_region rfl ?_
 refine step_r rfl rfl trivial ?_
 refine step_r rfl rfl trivial ?_
 refine step_r rfl rfl trivial ?_
 refine step_nil ?_
 refine seqK_n ?_
 refine sem_cutW (fun best_0 : Int => (⟨[(7, I best_0)], [], 0, [], 39, 0⟩ : St)) (fun w_ => mostT_L0 l counts of l 0 (-1) = w_) ?_ ?_
 ·refine sem_block ?_
  refine sem_loopT (fun w_ : Nat × Int => match w_ with | (k0, best0) => (⟨[(0, .pv (.slc l.length l_f (l.flatMap encGThreat))), (1, .fnc counts_c counts_k), (2, .fnc of_c of_k), (7, I best0), (10, .pv (.slc l.length l_f (l.flatMap encGThreat))), (11, I l.length), (12, I k0)], [], 0, [], 39, 0⟩ : St)) (fun w_ : Nat × Int => match w_ with | (k0, best0) => mostT_L0 l counts of (l.drop k0) k0 best0 = mostT_L0 l counts of l 0 (-1) ∧ k0 ≤ l.length ∧ -1 ≤ best0 ∧ best0 < k0) (fun w_ : Nat × Int => match w_ with | (k0, best0) => l.length - k0) (0, (-1)) (⟨rfl, Nat.zero_le _, by first | omega | simp | (simp; omega)⟩) ?_ (fun w_ hh_ => ?_)
  ·exact (Trans.ren [] (by decide +kernel) (by decide +kernel) rfl ⟨⟨rfl, rfl⟩, ⟨congrArg some counts_h.renN.symm, counts_h.belN⟩, ⟨congrArg some of_h.renN.symm, of_h.belN⟩, ⟨rfl, rfl⟩, ⟨rfl, rfl⟩, ⟨rfl, rfl⟩, ⟨rfl, rfl⟩, trivial⟩ trivial (by decide))
  obtain ⟨k0, best0⟩ := w_
  obtain ⟨hI0, hb0, hv0⟩ := hh_
  show Walks Try.prog _ _ (⟨[(0, .pv (.slc l.length l_f (l.flatMap encGThreat))), (1, .fnc counts_c counts_k), (2, .fnc of_c of_k), (7, I best0), (10, .pv (.slc l.length l_f (l.flatMap encGThreat))), (11, I l.length), (12, I k0)], [], 0, [], 39, 0⟩ : St)
  refine sem_seq ?_
  refine sem_region rfl ?_
  refine step_bin rfl rfl rfl rfl rfl trivial ?_
  refine step_nil ?_
  refine seqK_n ?_
  refine sem_seq ?_
  refine sem_cond rfl (fun h2 => ?_) (fun h2 => ?_)
  ·have g2 : (k0 : Int) < l.length := of_decide_eq_true h2
   have hk0 : k0 < l.length := by omega
   obtain ⟨x0, hx0⟩ : ∃ z_, l[k0]? = some z_ := ⟨_, List.getElem?_eq_getElem hk0⟩
   refine sem_skip ?_
   refine seqK_n ?_
   refine sem_seq ?_
   refine sem_block ?_
   refine sem_seq ?_
   refine sem_region rfl ?_
   refine step_r rfl rfl trivial ?_
   refine step_idxS (k := k0) rfl rfl rfl rfl hk0 (flat_ne (s := 3) (enc := encGThreat) (fun _ => rfl) (by decide) hk0) rfl ?_
   refine step_load_row rfl rfl rfl (flat_lt (s := 3) (enc := encGThreat) (fun _ => rfl) hk0) (flat_take (s := 3) (enc := encGThreat) (fun _ => rfl) hx0) rfl ?_
   refine step_n (o := .box [_, _, _]) (nx' := 1) rfl rfl rfl trivial ?_
   refine step_r rfl rfl trivial ?_
   refine step_store (H' := [(0, .box [_, _, _])]) rfl rfl rfl rfl rfl rfl (Nat.le_of_ble_eq_true rfl) (.inl rfl) rfl ?_
   refine step_nil ?_
   refine seqK_n ?_
   refine sem_seq ?_
   refine sem_drawn rfl (by decide +kernel) rfl ?_
   refine step_r rfl rfl trivial ?_
   refine step_r (v := (.agg [_, _, _])) rfl rfl (Nat.le_of_ble_eq_true rfl) ?_
   refine step_callF counts_h x0 rfl rfl rfl rfl rfl rfl ?_
   refine step_r rfl rfl trivial ?_
   refine step_gs rfl (fun h5 => ?_) (fun h5 => ?_)
   ·have g5 : counts x0 = true := h5
    refine step_g1 rfl h5 ?_
    refine step_r rfl rfl trivial ?_
    refine step_g1 rfl h5 ?_
    refine step_bin rfl rfl rfl rfl rfl trivial ?_
    refine step_g1 rfl h5 ?_
    refine step_r rfl rfl trivial ?_
    refine step_gs rfl (fun h8 => ?_) (fun h8 => ?_)
    ·have g8 : (best0 : Int) < 0 := of_decide_eq_true h8
     refine step_g0 rfl h8 rfl ?_
     refine step_g0 rfl h8 rfl ?_
     refine step_g0 rfl h8 rfl ?_
     refine step_g0 rfl h8 rfl ?_
     refine step_g0 rfl h8 rfl ?_
     refine step_g0 rfl h8 rfl ?_
     refine step_g0 rfl h8 rfl ?_
     refine step_g0 rfl h8 rfl ?_
     refine step_g0 rfl h8 rfl ?_
     refine step_g0 rfl h8 rfl ?_
     refine step_g1 rfl h5 ?_
     refine step_pickT rfl h8 rfl rfl ?_
     refine step_pickT rfl h5 rfl rfl ?_
     refine step_nil ?_
     refine seqK_n ?_
     refine sem_condT rfl ?_
     refine sem_region rfl ?_
     refine step_r rfl rfl trivial ?_
     refine step_r rfl rfl trivial ?_
     refine step_nil ?_
     refine blkK_n ?_
     refine seqK_n ?_
     refine sem_region rfl ?_
     refine step_bin rfl rfl rfl rfl rfl trivial ?_
     refine step_r rfl rfl trivial ?_
     refine step_nil ?_
     have e10 : mostT_L0 l counts of (l.drop k0) k0 best0 = mostT_L0 l counts of (l.drop (k0 + 1)) (k0 + 1) k0 := by
      rewrite [drop_cons hx0]
      rewrite [mostT_L0]
      try dsimp only
      rewrite [if_pos g5, if_pos g8]
      all_goals rfl
     exact lup_againT (k0 + 1, k0) ⟨e10.symm.trans hI0, hk0, by first | omega | assumption | (simp only [List.length_append, List.length_cons, List.length_nil, List.length_set]; omega) | (simp; omega) | grind⟩ (by show l.length - (k0 + 1) < l.length - k0; omega) (Trans.ren [] (by decide +kernel) (by decide +kernel) rfl ⟨⟨rfl, rfl⟩, ⟨congrArg some counts_h.renN.symm, counts_h.belN⟩, ⟨congrArg some of_h.renN.symm, of_h.belN⟩, ⟨rfl, rfl⟩, ⟨rfl, rfl⟩, ⟨rfl, rfl⟩, ⟨congrArg (fun n => some (I n)) (wrapI (k := k0) (by first | omega | (simp; omega))), rfl⟩, trivial⟩ trivial (by decide))
    ·have g8 : ¬ ((best0 : Int) < 0) := of_decide_eq_false h8
     refine step_g1 rfl h8 ?_
     refine step_r rfl rfl trivial ?_
     refine step_g1 rfl h8 ?_
     refine step_r (v := (.agg [_, _, _])) rfl rfl (Nat.le_of_ble_eq_true rfl) ?_
     refine step_g1 rfl h8 ?_
     refine step_callF of_h x0 rfl rfl rfl rfl rfl rfl ?_
     refine step_g1 rfl h8 ?_
     refine step_r rfl rfl trivial ?_
     refine step_g1 rfl h8 ?_
     refine step_r rfl rfl trivial ?_
     refine step_g1 rfl h8 ?_
     refine step_r rfl rfl trivial ?_
     refine step_g1 rfl h8 ?_
     have jk11 : best0.toNat < l.length := by first | assumption | omega | (simp only [List.length_set, List.length_append]; omega) | (simp only [IntKind.wrap_i64] at *; omega) | (simp; omega) | simp_all
     refine step_idxS' (k := best0.toNat) rfl rfl (Int.toNat_of_nonneg (by first | omega | (simp only [IntKind.wrap_i64]; omega) | (simp only [IntKind.wrap_i64] at *; omega) | (simp; omega))).symm rfl rfl jk11 (flat_ne (s := 3) (enc := encGThreat) (fun _ => rfl) (by decide) jk11) rfl ?_
     refine step_g1 rfl h8 ?_
     refine step_load_row rfl rfl rfl (flat_lt (s := 3) (enc := encGThreat) (fun _ => rfl) jk11) (flat_take (s := 3) (enc := encGThreat) (fun _ => rfl) (get_getD jk11)) rfl ?_
     refine step_g1 rfl h8 ?_
     refine step_callF of_h (l.getD best0.toNat default) rfl rfl rfl rfl rfl rfl ?_
     refine step_g1 rfl h8 ?_
     refine step_bin rfl rfl rfl rfl rfl trivial ?_
     refine step_g1 rfl h5 ?_
     refine step_pickF rfl h8 rfl rfl ?_
     refine step_pickT rfl h5 rfl rfl ?_
     refine step_nil ?_
     refine seqK_n ?_
     refine sem_cond rfl (fun h13 => ?_) (fun h13 => ?_)
     ·have g13 : (of x0 : Int) > (of (l.getD best0.toNat default)) := of_decide_eq_true h13
      refine sem_region rfl ?_
      refine step_r rfl rfl trivial ?_
      refine step_r rfl rfl trivial ?_
      refine step_nil ?_
      refine blkK_n ?_
      refine seqK_n ?_
      refine sem_region rfl ?_
      refine step_bin rfl rfl rfl rfl rfl trivial ?_
      refine step_r rfl rfl trivial ?_
      refine step_nil ?_
      have e15 : mostT_L0 l counts of (l.drop k0) k0 best0 = mostT_L0 l counts of (l.drop (k0 + 1)) (k0 + 1) k0 := by
       rewrite [drop_cons hx0]
       rewrite [mostT_L0]
       try dsimp only
       rewrite [if_pos g5, if_neg g8, if_pos g13]
       all_goals rfl
      exact lup_againT (k0 + 1, k0) ⟨e15.symm.trans hI0, hk0, by first | omega | assumption | (simp only [List.length_append, List.length_cons, List.length_nil, List.length_set]; omega) | (simp; omega) | grind⟩ (by show l.length - (k0 + 1) < l.length - k0; omega) (Trans.ren [] (by decide +kernel) (by decide +kernel) rfl ⟨⟨rfl, rfl⟩, ⟨congrArg some counts_h.renN.symm, counts_h.belN⟩, ⟨congrArg some of_h.renN.symm, of_h.belN⟩, ⟨rfl, rfl⟩, ⟨rfl, rfl⟩, ⟨rfl, rfl⟩, ⟨congrArg (fun n => some (I n)) (wrapI (k := k0) (by first | omega | (simp; omega))), rfl⟩, trivial⟩ trivial (by decide))
     ·have g13 : ¬ ((of x0 : Int) > (of (l.getD best0.toNat default))) := of_decide_eq_false h13
      refine sem_skip ?_
      refine blkK_n ?_
      refine seqK_n ?_
      refine sem_region rfl ?_
      refine step_bin rfl rfl rfl rfl rfl trivial ?_
      refine step_r rfl rfl trivial ?_
      refine step_nil ?_
      have e17 : mostT_L0 l counts of (l.drop k0) k0 best0 = mostT_L0 l counts of (l.drop (k0 + 1)) (k0 + 1) best0 := by
       rewrite [drop_cons hx0]
       rewrite [mostT_L0]
       try dsimp only
       rewrite [if_pos g5, if_neg g8, if_neg g13]
       all_goals rfl
      exact lup_againT (k0 + 1, best0) ⟨e17.symm.trans hI0, hk0, by first | omega | assumption | (simp only [List.length_append, List.length_cons, List.length_nil, List.length_set]; omega) | (simp; omega) | grind⟩ (by show l.length - (k0 + 1) < l.length - k0; omega) (Trans.ren [] (by decide +kernel) (by decide +kernel) rfl ⟨⟨rfl, rfl⟩, ⟨congrArg some counts_h.renN.symm, counts_h.belN⟩, ⟨congrArg some of_h.renN.symm, of_h.belN⟩, ⟨rfl, rfl⟩, ⟨rfl, rfl⟩, ⟨rfl, rfl⟩, ⟨congrArg (fun n => some (I n)) (wrapI (k := k0) (by first | omega | (simp; omega))), rfl⟩, trivial⟩ trivial (by decide))
   ·have g5 : ¬ (counts x0 = true) := boo_f h5
    refine step_g0 rfl h5 rfl ?_
    refine step_g0 rfl h5 rfl ?_
    refine step_g0 rfl h5 rfl ?_
    refine step_gf rfl rfl ?_
    refine step_gf rfl rfl ?_
    refine step_gf rfl rfl ?_
    refine step_gf rfl rfl ?_
    refine step_gf rfl rfl ?_
    refine step_gf rfl rfl ?_
    refine step_gf rfl rfl ?_
    refine step_gf rfl rfl ?_
    refine step_gf rfl rfl ?_
    refine step_gf rfl rfl ?_
    refine step_g0 rfl h5 rfl ?_
    refine step_pickF rfl h5 rfl rfl ?_
    refine step_nil ?_
    refine seqK_n ?_
    refine sem_condF rfl ?_
    refine sem_skip ?_
    refine blkK_n ?_
    refine seqK_n ?_
    refine sem_region rfl ?_
    refine step_bin rfl rfl rfl rfl rfl trivial ?_
    refine step_r rfl rfl trivial ?_
    refine step_nil ?_
    have e19 : mostT_L0 l counts of (l.drop k0) k0 best0 = mostT_L0 l counts of (l.drop (k0 + 1)) (k0 + 1) best0 := by
     rewrite [drop_cons hx0]
     rewrite [mostT_L0]
     try dsimp only
     rewrite [if_neg g5]
     all_goals rfl
    exact lup_againT (k0 + 1, best0) ⟨e19.symm.trans hI0, hk0, by first | omega | assumption | (simp only [List.length_append, List.length_cons, List.length_nil, List.length_set]; omega) | (simp; omega) | grind⟩ (by show l.length - (k0 + 1) < l.length - k0; omega) (Trans.ren [] (by decide +kernel) (by decide +kernel) rfl ⟨⟨rfl, rfl⟩, ⟨congrArg some counts_h.renN.symm, counts_h.belN⟩, ⟨congrArg some of_h.renN.symm, of_h.belN⟩, ⟨rfl, rfl⟩, ⟨rfl, rfl⟩, ⟨rfl, rfl⟩, ⟨congrArg (fun n => some (I n)) (wrapI (k := k0) (by first | omega | (simp; omega))), rfl⟩, trivial⟩ trivial (by decide))
  ·have g2 : ¬ ((k0 : Int) < l.length) := of_decide_eq_false h2
   have hk0 : k0 = l.length := by omega
   refine sem_exit ?_
   refine seqK_e ?_
   refine lupK_e ?_
   refine blkK_t rfl ?_
   have e20 : mostT_L0 l counts of l 0 (-1) = best0 := by
    rewrite [← hI0, hk0, List.drop_length]
    rewrite [mostT_L0]
    try dsimp only
    all_goals rfl
   exact cutW_n best0 e20 (Trans.ren [] (by decide +kernel) (by decide +kernel) rfl ⟨⟨rfl, rfl⟩, trivial⟩ trivial (by decide))
 ·rintro best_0 (hJ1 : mostT_L0 l counts of l 0 (-1) = best_0)
  show seqK _ _ _ .normal (⟨[(7, I best_0)], [], 0, [], 39, 0⟩ : St)
  refine seqK_n ?_
  refine sem_seq ?_
  refine sem_region rfl ?_
  refine step_r rfl rfl trivial ?_
  refine step_r rfl rfl trivial ?_
  refine step_nil ?_
  refine seqK_n ?_
  refine sem_ret ?_
  have e22 : mostT l counts of = best_0 := by
   unfold mostT
   try dsimp only
   rewrite [hJ1]
   try dsimp only
   all_goals rfl
  rw [e22]
  exact answersR rfl ⟨trivial, trivial⟩ (rfl) rfl

def fadeT_L0 (part : Int) : Nat → Nat → (List GThreat) → List GThreat
  | 0, k0, out0 => out0
  | n_ + 1, k0, out0 => fadeT_L0 part n_ (k0 + 1) (out0.set k0 { (out0.getD k0 default) with Much := (max (partM ((out0.getD k0 default).Much) part 100) 0) })
def fadeT (l : List GThreat) (part : Int) : List GThreat :=
  (let out_0 := fadeT_L0 part (l.length - 0) 0 l; out_0)
theorem fadeT_ok (l : List GThreat) (l_f : Bool) (part : Int) (hl : l.length ≤ 16777215) : Ok Try.prog 20 [.pv (.slc l.length l_f (l.flatMap encGThreat)), I part] [] (.ref 0 3 0 (fadeT l part).length) [.row 40 3 ((fadeT l part).flatMap encGThreat)] [] := by
 refine Ok.len fun hlen => ?_
 have hl_l : l.length ≤ maxLen := hlen _ (by simp [lensL, lens, lensP])
 unfold maxLen at hl_l
 refine ok_of_sem Try.func20 rfl ?_
 show Walks Try.prog _ _ ⟨[(0, .pv (.slc l.length l_f (l.flatMap encGThreat))), (1, I part)], [], 0, [], 28, 0⟩
 refine sem_seq ?_
 refine sem_region rfl ?_
 refine step_n (nx' := 1) rfl rfl rfl trivial ?_
 refine step_nil ?_
 refine seqK_n ?_
 refine sem_seq ?_
 refine sem_region rfl ?_
 refine step_r rfl rfl trivial ?_
 refine step_callJ (Hin := []) (out' := .ref 1 _ _ _) (H' := [(1, .row _ _ _), (0, .row _ _ _)]) (nx' := 2) [] rfl rfl rfl rfl rfl rfl rfl rfl rfl (by (repeat' apply And.intro) <;> first | trivial | rfl | exact flat_len (fun _ => rfl) _ | exact encI_len _ | exact encB_len _ | exact encY_len _ | exact Nat.le_of_ble_eq_true rfl | assumption) (clone_GThreat l false (by first | assumption | omega | (simp; omega) | simp_all)) rfl (by decide) rfl rfl ⟨encGThreat_solid, trivial⟩ rfl rfl rfl rfl ?_
 refine step_r rfl rfl trivial ?_
 refine step_nil ?_
 refine seqK_n ?_
 refine sem_seq ?_
 refine sem_seq ?_
 refine sem_region rfl ?_
 refine step_r rfl rfl trivial ?_
 refine step_r rfl rfl trivial ?_
 refine step_r rfl rfl trivial ?_
 refine step_nil ?_
 refine seqK_n ?_
 refine sem_cutW (fun out_0 : List GThreat => (⟨[(5, .ref 0 3 0 out_0.length)], [(0, .row 40 3 (out_0.flatMap encGThreat))], 1, [], 28, 0⟩ : St)) (fun out_0 : List GThreat => fadeT_L0 part (l.length - 0) 0 l = out_0 ∧ (out_0.length = l.length)) ?_ ?_
 ·refine sem_block ?_
  refine sem_loopT (fun w_ : Nat × (List GThreat) => match w_ with | (k0, out0) => (⟨[(1, I part), (5, .ref 0 3 0 out0.length), (10, .ref 0 3 0 out0.length), (11, I l.length), (12, I k0)], [(0, .row 40 3 (out0.flatMap encGThreat))], 1, [], 28, 0⟩ : St)) (fun w_ : Nat × (List GThreat) => match w_ with | (k0, out0) => fadeT_L0 part (l.length - k0) k0 out0 = fadeT_L0 part (l.length - 0) 0 l ∧ k0 ≤ l.length ∧ out0.length = l.length) (fun w_ : Nat × (List GThreat) => match w_ with | (k0, out0) => l.length - k0) (0, l) (⟨rfl, (by first | omega | (simp; omega)), by first | omega | simp | (simp; omega)⟩) ?_ (fun w_ hh_ => ?_)
  ·exact (Trans.ren [(0, 1), (1, 0)] (by decide +kernel) (by decide +kernel) rfl ⟨⟨rfl, rfl⟩, ⟨rfl, rfl⟩, ⟨rfl, rfl⟩, ⟨rfl, rfl⟩, ⟨rfl, rfl⟩, trivial⟩ ⟨⟨rfl, rfl, rfl⟩, trivial⟩ (by decide))
  obtain ⟨k0, out0⟩ := w_
  obtain ⟨hI0, hb0, hv0⟩ := hh_
  show Walks Try.prog _ _ (⟨[(1, I part), (5, .ref 0 3 0 out0.length), (10, .ref 0 3 0 out0.length), (11, I l.length), (12, I k0)], [(0, .row 40 3 (out0.flatMap encGThreat))], 1, [], 28, 0⟩ : St)
  refine sem_seq ?_
  refine sem_region rfl ?_
  refine step_bin rfl rfl rfl rfl rfl trivial ?_
  refine step_nil ?_
  refine seqK_n ?_
  refine sem_seq ?_
  refine sem_cond rfl (fun h2 => ?_) (fun h2 => ?_)
  ·have g2 : (k0 : Int) < l.length := of_decide_eq_true h2
   have hm0 : l.length - k0 = (l.length - (k0 + 1)) + 1 := by omega
   refine sem_skip ?_
   refine seqK_n ?_
   refine sem_seq ?_
   refine sem_block ?_
   refine sem_seq ?_
   refine sem_region rfl ?_
   refine step_r rfl rfl trivial ?_
   have jk4 : k0 < out0.length := by first | assumption | omega | (simp only [List.length_set, List.length_append]; omega) | (simp only [IntKind.wrap_i64] at *; omega) | (simp; omega) | simp_all
   refine step_idxR (k := k0) rfl rfl rfl rfl jk4 rfl ?_
   refine step_load_rowR rfl rfl rfl rfl (flat_lt (s := 3) (enc := encGThreat) (fun _ => rfl) jk4) (flat_take (s := 3) (enc := encGThreat) (fun _ => rfl) (get_getD jk4)) rfl ?_
   refine step_n (o := .box [_, _, _]) (nx' := 2) rfl rfl rfl trivial ?_
   refine step_r rfl rfl trivial ?_
   refine step_store (H' := [(1, .box [_, _, _]), (0, .row _ _ _)]) rfl rfl rfl rfl rfl rfl (Nat.le_of_ble_eq_true rfl) (.inl rfl) rfl ?_
   refine step_nil ?_
   refine seqK_n ?_
   refine sem_region rfl ?_
   refine step_r rfl rfl trivial ?_
   refine step_r rfl rfl trivial ?_
   refine step_r rfl rfl (by decide) ?_
   refine step_r rfl rfl trivial ?_
   refine step_r rfl rfl trivial ?_
   refine step_call rfl rfl rfl rfl (part_ok ((out0.getD k0 default).Much) part 100) rfl rfl rfl ?_
   refine step_max rfl rfl rfl ?_
   refine step_idxR (k := k0) rfl rfl rfl rfl jk4 rfl ?_
   refine step_r rfl rfl (by decide) ?_
   refine step_storeR rfl rfl rfl rfl (by have := flat_lt (s := 3) (enc := encGThreat) (fun _ => rfl) jk4; show k0 * 3 + 1 < _; omega) (flat_set (enc := encGThreat) (s := 3) (y := { (out0.getD k0 default) with Much := (max (partM ((out0.getD k0 default).Much) part 100) 0) }) (fun _ => rfl) (get_getD jk4) (by decide) rfl) (.inl rfl) rfl ?_
   refine step_nil ?_
   refine blkK_n ?_
   refine seqK_n ?_
   refine sem_region rfl ?_
   refine step_bin rfl rfl rfl rfl rfl trivial ?_
   refine step_r rfl rfl trivial ?_
   refine step_nil ?_
   have e7 : fadeT_L0 part (l.length - k0) k0 out0 = fadeT_L0 part (l.length - (k0 + 1)) (k0 + 1) (out0.set k0 { (out0.getD k0 default) with Much := (max (partM ((out0.getD k0 default).Much) part 100) 0) }) := by
    rewrite [hm0]
    rewrite [fadeT_L0]
    try dsimp only
    all_goals rfl
   exact lup_againT (k0 + 1, (out0.set k0 { (out0.getD k0 default) with Much := (max (partM ((out0.getD k0 default).Much) part 100) 0) })) ⟨e7.symm.trans hI0, (by omega), by first | omega | assumption | (simp only [List.length_append, List.length_cons, List.length_nil, List.length_set]; omega) | (simp; omega) | grind⟩ (by show l.length - (k0 + 1) < l.length - k0; omega) (Trans.ren [] (by decide +kernel) (by decide +kernel) rfl ⟨⟨rfl, rfl⟩, ⟨congrArg (fun n => some (AV.ref 0 3 0 n)) (by first | rfl | simp only [List.length_set] | simp | omega | (simp; omega)), rfl⟩, ⟨congrArg (fun n => some (AV.ref 0 3 0 n)) (by first | rfl | simp only [List.length_set] | simp | omega | (simp; omega)), rfl⟩, ⟨rfl, rfl⟩, ⟨congrArg (fun n => some (I n)) (wrapI (k := k0) (by first | omega | (simp; omega))), rfl⟩, trivial⟩ ⟨⟨rfl, rfl, rfl⟩, trivial⟩ (by decide))
  ·have g2 : ¬ ((k0 : Int) < l.length) := of_decide_eq_false h2
   have hm0 : l.length - k0 = 0 := by omega
   refine sem_exit ?_
   refine seqK_e ?_
   refine lupK_e ?_
   refine blkK_t rfl ?_
   have e8 : fadeT_L0 part (l.length - 0) 0 l = out0 := by
    rewrite [← hI0, hm0]
    rewrite [fadeT_L0]
    try dsimp only
    all_goals rfl
   exact cutW_n out0 ⟨e8, by first | assumption | omega | (simp; omega) | simp_all | grind⟩ (Trans.ren [] (by decide +kernel) (by decide +kernel) rfl ⟨⟨rfl, rfl⟩, trivial⟩ ⟨⟨rfl, rfl, rfl⟩, trivial⟩ (by decide))
 ·rintro out_0 ⟨(hJ1 : fadeT_L0 part (l.length - 0) 0 l = out_0), hE0⟩
  show seqK _ _ _ .normal (⟨[(5, .ref 0 3 0 out_0.length)], [(0, .row 40 3 (out_0.flatMap encGThreat))], 1, [], 28, 0⟩ : St)
  refine seqK_n ?_
  refine sem_seq ?_
  refine sem_region rfl ?_
  refine step_r rfl rfl trivial ?_
  refine step_r rfl rfl trivial ?_
  refine step_nil ?_
  refine seqK_n ?_
  refine sem_ret ?_
  have e9 : fadeT l part = out_0 := by
   unfold fadeT
   try dsimp only
   rewrite [hJ1]
   try dsimp only
   all_goals rfl
  rw [e9]
  exact answersGR [] [0] rfl ⟨trivial, trivial⟩ rfl (by (repeat' apply And.intro) <;> first | trivial | rfl | exact flat_len (fun _ => rfl) _ | exact encI_len _ | exact encB_len _ | exact encY_len _ | assumption) (rfl) rfl rfl rfl (by decide) rfl rfl ⟨⟨rfl, rfl⟩, trivial⟩

theorem fadeT_go (p : Int) : ∀ (n k : Nat) (o : List GThreat), (fadeT_L0 p n k o).length = o.length
  | 0, k, o => by rw [fadeT_L0]
  | n + 1, k, o => by rw [fadeT_L0, fadeT_go p n]; simp
theorem fadeT_len (l : List GThreat) (p : Int) : (fadeT l p).length = l.length := fadeT_go ..
theorem rightT_len {l : List GThreat} (h : rightT l = true) : l.length ≤ 40 := by
  unfold rightT at h
  have key : ∀ (r : List GThreat) (k : Nat) (s : List Int) (b : Bool), rightT_L0 r k s = .inl b → b = false := by
    intro r
    induction r with
    | nil => intro k s b h; simp [rightT_L0] at h
    | cons x r ih =>
      intro k s b h
      rw [rightT_L0] at h
      split at h
      · cases h; rfl
      · split at h
        · cases h; rfl
        · split at h
          · cases h; rfl
          · exact ih _ _ _ h
  split at h
  · rename_i b hb; have := key _ _ _ _ hb; simp [this] at h
  · have := of_decide_eq_true h; omega

def afterT (t : GThreat) (c1 : Int) : Bool :=
  (decide ((t.Taunt : Int) > c1))
theorem afterT_ok (t : GThreat) (c1 : Int) : Ok Try.prog 26 [aGThreat t, .pptr [i64 c1] 0] [] (B (afterT t c1)) [] [] := by
 refine ok_of_sem Try.func26 rfl ?_
 show Walks Try.prog _ _ ⟨[(0, aGThreat t), (1, .pptr [i64 c1] 0)], [], 0, [], 8, 0⟩
 refine sem_seq ?_
 refine sem_region rfl ?_
 refine step_n (o := .box [_, _, _]) (nx' := 1) rfl rfl rfl trivial ?_
 refine step_r rfl rfl trivial ?_
 refine step_nil ?_
 refine seqK_n ?_
 refine sem_seq ?_
 refine sem_region rfl ?_
 refine step_r rfl rfl (by decide) ?_
 refine step_r rfl rfl trivial ?_
 refine step_load_one rfl rfl rfl (rfl) rfl ?_
 refine step_bin rfl rfl rfl rfl rfl trivial ?_
 refine step_r rfl rfl trivial ?_
 refine step_nil ?_
 refine seqK_n ?_
 refine sem_ret ?_
 have e2 : afterT t c1 = (decide ((t.Taunt : Int) > c1)) := by
  unfold afterT
  try dsimp only
  all_goals rfl
 rw [e2]
 exact answersR rfl ⟨trivial, trivial⟩ (rfl) rfl

def aboveB_J6 (t : GThreat) (c1 : List Int) : Int :=
  if t.Unit ∈ c1 then 110 else 130
def aboveB (t : GThreat) (c1 : List Int) (c2 : Int) : Bool :=
  (let more_6 := aboveB_J6 t c1; if (t.Much : Int) > c2 then (decide ((t.Much : Int) ≥ (partM c2 more_6 100))) else false)
theorem aboveB_ok (t : GThreat) (c1 : List Int) (c1_f : Bool) (c2 : Int) : Ok Try.prog 42 [aGThreat t, .pptr [.slc c1.length c1_f (encI c1)] 0, .pptr [i64 c2] 0] [] (B (aboveB t c1 c2)) [] [] := by
 refine ok_of_sem Try.func42 rfl ?_
 show Walks Try.prog _ _ ⟨[(0, aGThreat t), (1, .pptr [.slc c1.length c1_f (encI c1)] 0), (2, .pptr [i64 c2] 0)], [], 0, [], 22, 0⟩
 refine sem_seq ?_
 refine sem_region rfl ?_
 refine step_n (o := .box [_, _, _]) (nx' := 1) rfl rfl rfl trivial ?_
 refine step_r rfl rfl trivial ?_
 refine step_nil ?_
 refine seqK_n ?_
 refine sem_seq ?_
 refine sem_region rfl ?_
 refine step_r rfl rfl trivial ?_
 refine step_nil ?_
 refine seqK_n ?_
 refine sem_seq ?_
 refine sem_cutW (fun more_6 : Int => (⟨[(2, .pptr [i64 c2] 0), (3, .ptr 0 0), (5, I more_6)], [(0, .box [I t.Unit, I t.Much, I t.Taunt])], 1, [], 22, 0⟩ : St)) (fun w_ => aboveB_J6 t c1 = w_) ?_ ?_
 ·refine sem_seq ?_
  refine sem_region rfl ?_
  refine step_load_one rfl rfl rfl (rfl) rfl ?_
  refine step_r rfl rfl (by decide) ?_
  refine step_r rfl rfl trivial ?_
  refine step_call rfl rfl rfl rfl (has_Int c1 c1_f t.Unit) rfl rfl rfl ?_
  refine step_nil ?_
  refine seqK_n ?_
  refine sem_cond rfl (fun h2 => ?_) (fun h2 => ?_)
  ·have g2 : t.Unit ∈ c1 := of_decide_eq_true h2
   refine sem_region rfl ?_
   refine step_r rfl rfl trivial ?_
   refine step_nil ?_
   have e3 : aboveB_J6 t c1 = 110 := by
    unfold aboveB_J6
    try dsimp only
    rewrite [if_pos g2]
    all_goals rfl
   exact cutW_n 110 e3 (Trans.ren [] (by decide +kernel) (by decide +kernel) rfl ⟨⟨rfl, rfl⟩, ⟨rfl, rfl⟩, ⟨rfl, rfl⟩, trivial⟩ ⟨⟨rfl, rfl, rfl⟩, trivial⟩ (by decide))
  ·have g2 : ¬ (t.Unit ∈ c1) := of_decide_eq_false h2
   refine sem_skip ?_
   have e4 : aboveB_J6 t c1 = 130 := by
    unfold aboveB_J6
    try dsimp only
    rewrite [if_neg g2]
    all_goals rfl
   exact cutW_n 130 e4 (Trans.ren [] (by decide +kernel) (by decide +kernel) rfl ⟨⟨rfl, rfl⟩, ⟨rfl, rfl⟩, ⟨rfl, rfl⟩, trivial⟩ ⟨⟨rfl, rfl, rfl⟩, trivial⟩ (by decide))
 ·rintro more_6 (hJ1 : aboveB_J6 t c1 = more_6)
  show seqK _ _ _ .normal (⟨[(2, .pptr [i64 c2] 0), (3, .ptr 0 0), (5, I more_6)], [(0, .box [I t.Unit, I t.Much, I t.Taunt])], 1, [], 22, 0⟩ : St)
  refine seqK_n ?_
  refine sem_seq ?_
  refine sem_drawn rfl (by decide +kernel) rfl ?_
  refine step_r rfl rfl (by decide) ?_
  refine step_r rfl rfl trivial ?_
  refine step_load_one rfl rfl rfl (rfl) rfl ?_
  refine step_bin rfl rfl rfl rfl rfl trivial ?_
  refine step_r rfl rfl trivial ?_
  refine step_gs rfl (fun h6 => ?_) (fun h6 => ?_)
  ·have g6 : (t.Much : Int) > c2 := of_decide_eq_true h6
   refine step_g1 rfl h6 ?_
   refine step_r rfl rfl (by decide) ?_
   refine step_g1 rfl h6 ?_
   refine step_r rfl rfl trivial ?_
   refine step_g1 rfl h6 ?_
   refine step_load_one rfl rfl rfl (rfl) rfl ?_
   refine step_g1 rfl h6 ?_
   refine step_r rfl rfl trivial ?_
   refine step_g1 rfl h6 ?_
   refine step_call rfl rfl rfl rfl (part_ok c2 more_6 100) rfl rfl rfl ?_
   refine step_g1 rfl h6 ?_
   refine step_bin rfl rfl rfl rfl rfl trivial ?_
   refine step_pickT rfl h6 rfl rfl ?_
   refine step_r rfl rfl trivial ?_
   refine step_nil ?_
   refine seqK_n ?_
   refine sem_ret ?_
   have e9 : aboveB t c1 c2 = (decide ((t.Much : Int) ≥ (partM c2 more_6 100))) := by
    unfold aboveB
    try dsimp only
    rewrite [hJ1]
    try dsimp only
    rewrite [if_pos g6]
    all_goals rfl
   rw [e9]
   exact answersR rfl ⟨trivial, trivial⟩ (rfl) rfl
  ·have g6 : ¬ ((t.Much : Int) > c2) := of_decide_eq_false h6
   refine step_g0 rfl h6 rfl ?_
   refine step_g0 rfl h6 rfl ?_
   refine step_g0 rfl h6 rfl ?_
   refine step_g0 rfl h6 rfl ?_
   refine step_g0 rfl h6 rfl ?_
   refine step_g0 rfl h6 rfl ?_
   refine step_pickF rfl h6 rfl rfl ?_
   refine step_r rfl rfl trivial ?_
   refine step_nil ?_
   refine seqK_n ?_
   refine sem_ret ?_
   have e10 : aboveB t c1 c2 = false := by
    unfold aboveB
    try dsimp only
    rewrite [hJ1]
    try dsimp only
    rewrite [if_neg g6]
    all_goals rfl
   rw [e10]
   exact answersR rfl ⟨trivial, trivial⟩ (rfl) rfl

theorem above_ok (much : Int) (near : List Int) (near_f : Bool) : Ok Try.prog 30 [I much, .pv (.slc near.length near_f (encI near))] [] (.fnc 42 [.pptr [(.slc near.length near_f (encI near))] 0, .pptr [i64 much] 0]) [] [] := by
 refine Ok.len fun hlen => ?_
 have hl_near : near.length ≤ maxLen := hlen _ (by simp [lensL, lens, lensP])
 unfold maxLen at hl_near
 refine ok_of_sem Try.func30 rfl ?_
 show Walks Try.prog _ _ ⟨[(0, I much), (1, .pv (.slc near.length near_f (encI near)))], [], 0, [], 6, 0⟩
 refine sem_seq ?_
 refine sem_region rfl ?_
 refine step_n (o := .box [_]) (nx' := 1) rfl rfl rfl trivial ?_
 refine step_n (o := .box [_]) (nx' := 2) rfl rfl rfl trivial ?_
 refine step_r rfl rfl trivial ?_
 refine step_nil ?_
 refine seqK_n ?_
 refine sem_seq ?_
 refine sem_region rfl ?_
 refine step_r rfl rfl trivial ?_
 refine step_r rfl rfl trivial ?_
 refine step_nil ?_
 refine seqK_n ?_
 refine sem_trans (Trans.freezeJ (T' := [(4, .fnc 42 [.pptr [(.slc near.length near_f (encI near))] 0, .pptr [i64 much] 0])]) (H' := []) [1, 0] (by decide) ⟨⟨_, _, rfl, rfl, ⟨trivial, trivial, trivial⟩⟩, trivial⟩ trivial) ?_
 refine sem_ret ?_
 exact answersR rfl ⟨trivial, trivial⟩ (rfl) rfl

theorem mostT_go (l : List GThreat) (c : GThreat → Bool) (o : GThreat → Int) : ∀ (r : List GThreat) (k : Nat) (b : Int), -1 ≤ b → b < k → k + r.length ≤ l.length → -1 ≤ mostT_L0 l c o r k b ∧ (mostT_L0 l c o r k b < 0 ∨ mostT_L0 l c o r k b < l.length) ∧ (0 ≤ b → 0 ≤ mostT_L0 l c o r k b) ∧ ((∃ x ∈ r, c x = true) → 0 ≤ mostT_L0 l c o r k b)
  | [], k, b, h1, h2, h3 => by rw [mostT_L0]; simp at h3 ⊢; omega
  | x :: r, k, b, h1, h2, h3 => by
    simp only [List.length_cons] at h3
    rw [mostT_L0]
    have ha := mostT_go l c o r (k + 1) k (by omega) (by omega) (by omega)
    have hb := mostT_go l c o r (k + 1) b (by omega) (by omega) (by omega)
    by_cases hc : c x = true
    · rw [if_pos hc]
      split
      · exact ⟨ha.1, ha.2.1, fun _ => ha.2.2.1 (by omega), fun _ => ha.2.2.1 (by omega)⟩
      · split
        · exact ⟨ha.1, ha.2.1, fun _ => ha.2.2.1 (by omega), fun _ => ha.2.2.1 (by omega)⟩
        · exact ⟨hb.1, hb.2.1, hb.2.2.1, fun _ => hb.2.2.1 (by omega)⟩
    · rw [if_neg hc]
      exact ⟨hb.1, hb.2.1, hb.2.2.1, fun ⟨y, hy, hcy⟩ => hb.2.2.2 (by rcases List.mem_cons.1 hy with rfl | hy; exact absurd hcy hc; exact ⟨y, hy, hcy⟩)⟩
theorem mostT_lt (l : List GThreat) (c : GThreat → Bool) (o : GThreat → Int) : -1 ≤ mostT l c o ∧ (mostT l c o < 0 ∨ mostT l c o < l.length) := by
  have := mostT_go l c o l 0 (-1) (by omega) (by omega) (by omega)
  exact ⟨this.1, this.2.1⟩
theorem mostT_some {l : List GThreat} {c : GThreat → Bool} (o : GThreat → Int) (h : ∃ x ∈ l, c x = true) : 0 ≤ mostT l c o := (mostT_go l c o l 0 (-1) (by omega) (by omega) (by omega)).2.2.2 h
theorem findT_some {l : List GThreat} {u : Int} (h : ∃ x ∈ l, x.Unit = u) : 0 ≤ findT l u := by
  obtain ⟨x, h1, h2⟩ := h
  unfold findT
  rw [fidx_nonneg]
  exact ⟨x, h1, by simp [matchT, h2]⟩
theorem addT_has {l : List GThreat} {u m : Int} (h : (addT l u m).2 = 0) : ∃ x ∈ (addT l u m).1, x.Unit = u := by
  have hlt := findT_lt l u
  unfold addT at h ⊢
  split at h
  · rename_i h1
    rw [if_pos h1]
    split at h
    · cases h
    · rename_i h2
      rw [if_neg h2]
      split at h
      · rename_i h3
        rw [if_pos h3]
        obtain ⟨k, hk⟩ : ∃ k : Nat, findT l u = k := ⟨(findT l u).toNat, by omega⟩
        refine ⟨_, List.mem_set (by rw [hk]; simp; omega) _, ?_⟩
        unfold findT at hk
        rcases fidx_cases (fun x_ => matchT x_ u) l with ⟨h4, _⟩ | ⟨j, x, h4, h5, h6, _⟩
        · rw [h4] at hk; omega
        · show (l.getD (findT l u).toNat default).Unit = u
          rw [show findT l u = (j : Int) from h4, Int.toNat_natCast, List.getD_eq_getElem?_getD, h5]
          simpa [matchT] using h6
      · rename_i h3
        rw [if_neg h3]
        split at h
        · cases h
        · rename_i h4
          rw [if_neg h4]
          exact ⟨⟨u, max m 0, -9223372036854775808⟩, by simp, rfl⟩
  · cases h

def tauntT (l : List GThreat) (unit : Int) (now : Int) (ticks : Int) : (List GThreat) × Int :=
  if ((addT l unit 0).2 : Int) = 0 then ((((addT l unit 0).1.set (findT ((addT l unit 0).1) unit).toNat { (((addT l unit 0).1).getD ((findT ((addT l unit 0).1) unit).toNat) default) with Much := (((addT l unit 0).1).getD ((mostT ((addT l unit 0).1) (fun x_ => anyT x_) (fun x_ => muchOf x_)).toNat) default).Much }).set (findT ((addT l unit 0).1) unit).toNat { (((addT l unit 0).1.set (findT ((addT l unit 0).1) unit).toNat { (((addT l unit 0).1).getD ((findT ((addT l unit 0).1) unit).toNat) default) with Much := (((addT l unit 0).1).getD ((mostT ((addT l unit 0).1) (fun x_ => anyT x_) (fun x_ => muchOf x_)).toNat) default).Much }).getD ((findT ((addT l unit 0).1) unit).toNat) default) with Taunt := (addM now ticks) }), 0) else ([], (addT l unit 0).2)
theorem tauntT_ok (l : List GThreat) (l_f : Bool) (unit : Int) (now : Int) (ticks : Int) (hl : l.length ≤ 16777215) : Ok Try.prog 15 [.pv (.slc l.length l_f (l.flatMap encGThreat)), I unit, I now, I ticks] [] (.tup [.ref 0 3 0 (tauntT l unit now ticks).1.length, I (tauntT l unit now ticks).2]) [.row 40 3 ((tauntT l unit now ticks).1.flatMap encGThreat)] [] := by
 refine Ok.len fun hlen => ?_
 have hl_l : l.length ≤ maxLen := hlen _ (by simp [lensL, lens, lensP])
 unfold maxLen at hl_l
 refine ok_of_sem Try.func15 rfl ?_
 show Walks Try.prog _ _ ⟨[(0, .pv (.slc l.length l_f (l.flatMap encGThreat))), (1, I unit), (2, I now), (3, I ticks)], [], 0, [], 45, 0⟩
 refine sem_seq ?_
 refine sem_region rfl ?_
 refine step_n (nx' := 1) rfl rfl rfl trivial ?_
 refine step_r rfl rfl trivial ?_
 refine step_nil ?_
 refine seqK_n ?_
 refine sem_seq ?_
 refine sem_region rfl ?_
 refine step_r rfl rfl trivial ?_
 refine step_r rfl rfl trivial ?_
 refine step_callJ (Hin := []) (out' := .tup [.ref 1 _ _ _, _]) (H' := [(1, .row _ _ _), (0, .row _ _ _)]) (nx' := 2) [] rfl rfl rfl rfl rfl rfl rfl rfl rfl (by (repeat' apply And.intro) <;> first | trivial | rfl | exact flat_len (fun _ => rfl) _ | exact encI_len _ | exact encB_len _ | exact encY_len _ | exact Nat.le_of_ble_eq_true rfl | assumption) (addT_ok l false unit 0 (by first | omega | (simp; omega))) rfl (by decide) rfl rfl ⟨encGThreat_solid, trivial⟩ rfl rfl rfl rfl ?_
 have p2 := addT_len l unit 0
 refine step_r rfl rfl trivial ?_
 refine step_r rfl rfl trivial ?_
 refine step_r rfl rfl trivial ?_
 refine step_r rfl rfl trivial ?_
 refine step_r rfl rfl trivial ?_
 refine step_nil ?_
 refine seqK_n ?_
 refine sem_seq ?_
 refine sem_seq ?_
 refine sem_region rfl ?_
 refine step_r rfl rfl trivial ?_
 refine step_bin rfl rfl rfl rfl rfl trivial ?_
 refine step_nil ?_
 refine seqK_n ?_
 refine sem_cond rfl (fun h4 => ?_) (fun h4 => ?_)
 ·have g4 : ¬ (((addT l unit 0).2 : Int) = 0) := bne_t h4
  refine sem_seq ?_
  refine sem_region rfl ?_
  refine step_r rfl rfl trivial ?_
  refine step_n (nx' := 3) rfl rfl rfl trivial ?_
  refine step_r rfl rfl trivial ?_
  refine step_nil ?_
  refine seqK_n ?_
  refine sem_ret ?_
  refine seqK_r ?_
  have e5 : tauntT l unit now ticks = ([], (addT l unit 0).2) := by
   unfold tauntT
   try dsimp only
   rewrite [if_neg g4]
   all_goals rfl
  rw [e5]
  exact answersGR [] [2] rfl ⟨trivial, trivial, trivial⟩ rfl (by (repeat' apply And.intro) <;> first | trivial | rfl | exact flat_len (fun _ => rfl) _ | exact encI_len _ | exact encB_len _ | exact encY_len _ | assumption) (rfl) rfl rfl rfl (by decide) rfl rfl ⟨⟨rfl, rfl⟩, trivial⟩
 ·have g4 : ((addT l unit 0).2 : Int) = 0 := bne_f h4
  have hA := addT_has (l := l) (u := unit) (m := 0) (by omega)
  have hF := findT_some hA
  have hM := mostT_some (l := (addT l unit 0).1) (c := fun x_ => anyT x_) (fun x_ => muchOf x_) (by obtain ⟨x, h1, _⟩ := hA; exact ⟨x, h1, rfl⟩)
  refine sem_skip ?_
  refine seqK_n ?_
  refine sem_seq ?_
  refine sem_region rfl ?_
  refine step_r rfl rfl trivial ?_
  refine step_r rfl rfl trivial ?_
  refine step_callJ (Hin := [.row _ _ _]) (H' := [(1, .row _ _ _), (0, .row _ _ _)]) (nx' := 2) [1] rfl rfl rfl rfl rfl rfl rfl rfl rfl (by (repeat' apply And.intro) <;> first | trivial | rfl | exact flat_len (s := 3) (enc := encGThreat) (fun _ => rfl) _ | exact flat_len (fun _ => rfl) _ | exact encI_len _ | exact encB_len _ | exact encY_len _ | exact Nat.le_of_ble_eq_true rfl | assumption) (findT_ok ((addT l unit 0).1) false unit) rfl (by decide) rfl rfl trivial rfl rfl rfl rfl ?_
  have p6 := findT_lt ((addT l unit 0).1) unit
  refine step_r rfl rfl trivial ?_
  refine step_callJ (Hin := [.row _ _ _]) (H' := [(1, .row _ _ _), (0, .row _ _ _)]) (nx' := 2) [1] rfl rfl rfl rfl rfl rfl rfl rfl rfl (by (repeat' apply And.intro) <;> first | trivial | rfl | exact flat_len (s := 3) (enc := encGThreat) (fun _ => rfl) _ | exact flat_len (fun _ => rfl) _ | exact encI_len _ | exact encB_len _ | exact encY_len _ | exact Nat.le_of_ble_eq_true rfl | assumption) (mostT_ok ((addT l unit 0).1) false 28 [] (fun x_ => anyT x_) ⟨rfl, rfl, fun _ => rfl, fun _ => rfl, fun x_ => anyT_ok x_⟩ 31 [] (fun x_ => muchOf x_) ⟨rfl, rfl, fun _ => rfl, fun _ => rfl, fun x_ => muchOf_ok x_⟩) rfl (by decide) rfl rfl trivial rfl rfl rfl rfl ?_
  have p7 := mostT_lt ((addT l unit 0).1) (fun x_ => anyT x_) (fun x_ => muchOf x_)
  refine step_r rfl rfl trivial ?_
  refine step_r rfl rfl trivial ?_
  refine step_nil ?_
  refine seqK_n ?_
  refine sem_seq ?_
  refine sem_drawnE [(14, 3), (14, 2)] rfl (by decide +kernel) (by decide +kernel) rfl ?_
  refine step_r rfl rfl trivial ?_
  refine step_r rfl rfl trivial ?_
  refine step_r rfl rfl trivial ?_
  refine step_r rfl rfl trivial ?_
  refine step_r rfl rfl trivial ?_
  refine step_r rfl rfl trivial ?_
  have jk10 : (mostT ((addT l unit 0).1) (fun x_ => anyT x_) (fun x_ => muchOf x_)).toNat < ((addT l unit 0).1).length := by first | assumption | omega | (simp only [List.length_set, List.length_append]; omega) | (simp only [IntKind.wrap_i64] at *; omega) | (simp; omega) | simp_all
  refine step_idxR' (k := (mostT ((addT l unit 0).1) (fun x_ => anyT x_) (fun x_ => muchOf x_)).toNat) rfl rfl (Int.toNat_of_nonneg (by first | omega | (simp only [IntKind.wrap_i64]; omega) | (simp only [IntKind.wrap_i64] at *; omega) | (simp; omega))).symm rfl rfl jk10 rfl ?_
  refine step_r rfl rfl (by decide) ?_
  refine step_load_oneR rfl rfl rfl rfl (flat_get (s := 3) (enc := encGThreat) (fun _ => rfl) (get_getD jk10) (o := 1) rfl (by decide)) rfl ?_
  refine step_r rfl rfl trivial ?_
  refine step_r rfl rfl trivial ?_
  refine step_call rfl rfl rfl rfl (add_ok now ticks) rfl rfl rfl ?_
  have jk13 : (findT ((addT l unit 0).1) unit).toNat < ((addT l unit 0).1).length := by first | assumption | omega | (simp only [List.length_set, List.length_append]; omega) | (simp only [IntKind.wrap_i64] at *; omega) | (simp; omega) | simp_all
  refine step_idxR' (k := (findT ((addT l unit 0).1) unit).toNat) rfl rfl (Int.toNat_of_nonneg (by first | omega | (simp only [IntKind.wrap_i64]; omega) | (simp only [IntKind.wrap_i64] at *; omega) | (simp; omega))).symm rfl rfl jk13 rfl ?_
  refine step_r rfl rfl (by decide) ?_
  refine step_storeR rfl rfl rfl rfl (by have := flat_lt (s := 3) (enc := encGThreat) (fun _ => rfl) jk13; show ((findT ((addT l unit 0).1) unit).toNat) * 3 + 1 < _; omega) (flat_set (enc := encGThreat) (s := 3) (y := { (((addT l unit 0).1).getD ((findT ((addT l unit 0).1) unit).toNat) default) with Much := (((addT l unit 0).1).getD ((mostT ((addT l unit 0).1) (fun x_ => anyT x_) (fun x_ => muchOf x_)).toNat) default).Much }) (fun _ => rfl) (get_getD jk13) (by decide) rfl) (.inr (by decide +kernel)) rfl ?_
  have jk14 : (findT ((addT l unit 0).1) unit).toNat < ((addT l unit 0).1.set (findT ((addT l unit 0).1) unit).toNat { (((addT l unit 0).1).getD ((findT ((addT l unit 0).1) unit).toNat) default) with Much := (((addT l unit 0).1).getD ((mostT ((addT l unit 0).1) (fun x_ => anyT x_) (fun x_ => muchOf x_)).toNat) default).Much }).length := by first | assumption | omega | (simp only [List.length_set, List.length_append]; omega) | (simp only [IntKind.wrap_i64] at *; omega) | (simp; omega) | simp_all
  refine step_idxR' (k := (findT ((addT l unit 0).1) unit).toNat) rfl rfl (Int.toNat_of_nonneg (by first | omega | (simp only [IntKind.wrap_i64]; omega) | (simp only [IntKind.wrap_i64] at *; omega) | (simp; omega))).symm rfl rfl (by first | assumption | omega | (have := jk14; simp only [List.length_set] at this ⊢; omega) | (have := jk14; simp at this ⊢; omega)) rfl ?_
  refine step_r rfl rfl (by decide) ?_
  refine step_storeR rfl rfl rfl rfl (by have := flat_lt (s := 3) (enc := encGThreat) (fun _ => rfl) jk14; show ((findT ((addT l unit 0).1) unit).toNat) * 3 + 2 < _; omega) (flat_set (enc := encGThreat) (s := 3) (y := { (((addT l unit 0).1.set (findT ((addT l unit 0).1) unit).toNat { (((addT l unit 0).1).getD ((findT ((addT l unit 0).1) unit).toNat) default) with Much := (((addT l unit 0).1).getD ((mostT ((addT l unit 0).1) (fun x_ => anyT x_) (fun x_ => muchOf x_)).toNat) default).Much }).getD ((findT ((addT l unit 0).1) unit).toNat) default) with Taunt := (addM now ticks) }) (fun _ => rfl) (get_getD jk14) (by decide) rfl) (.inr (by decide +kernel)) rfl ?_
  refine step_nil ?_
  refine seqK_n ?_
  refine sem_seq ?_
  refine sem_region rfl ?_
  refine step_r rfl rfl trivial ?_
  refine step_r rfl rfl trivial ?_
  refine step_r rfl rfl trivial ?_
  refine step_nil ?_
  refine seqK_n ?_
  refine sem_ret ?_
  have e15 : tauntT l unit now ticks = ((((addT l unit 0).1.set (findT ((addT l unit 0).1) unit).toNat { (((addT l unit 0).1).getD ((findT ((addT l unit 0).1) unit).toNat) default) with Much := (((addT l unit 0).1).getD ((mostT ((addT l unit 0).1) (fun x_ => anyT x_) (fun x_ => muchOf x_)).toNat) default).Much }).set (findT ((addT l unit 0).1) unit).toNat { (((addT l unit 0).1.set (findT ((addT l unit 0).1) unit).toNat { (((addT l unit 0).1).getD ((findT ((addT l unit 0).1) unit).toNat) default) with Much := (((addT l unit 0).1).getD ((mostT ((addT l unit 0).1) (fun x_ => anyT x_) (fun x_ => muchOf x_)).toNat) default).Much }).getD ((findT ((addT l unit 0).1) unit).toNat) default) with Taunt := (addM now ticks) }), 0) := by
   unfold tauntT
   try dsimp only
   rewrite [if_pos g4]
   all_goals rfl
  rw [e15]
  try simp only [List.length_set]
  exact answersGR [] [1] rfl ⟨trivial, trivial, trivial⟩ rfl (by (repeat' apply And.intro) <;> first | trivial | rfl | exact flat_len (fun _ => rfl) _ | exact encI_len _ | exact encB_len _ | exact encY_len _ | assumption) (rfl) rfl rfl rfl (by decide) rfl rfl ⟨⟨rfl, rfl⟩, trivial⟩

theorem tauntT_len (l : List GThreat) (u n k : Int) : (tauntT l u n k).1.length ≤ l.length + 1 := by
  have := addT_len l u 0
  unfold tauntT
  dsimp only
  split
  · simpa using this
  · simp

def targetT (l : List GThreat) (now : Int) (target : Int) (near : List Int) : Int :=
  if (mostT l (fun x_ => afterT x_ now) (fun x_ => tauntOf x_) : Int) ≥ 0 then (l.getD ((mostT l (fun x_ => afterT x_ now) (fun x_ => tauntOf x_)).toNat) default).Unit else if (findT l target : Int) ≥ 0 then (if (mostT l (fun x_ => aboveB x_ near ((l.getD ((findT l target).toNat) default).Much)) (fun x_ => muchOf x_) : Int) ≥ 0 then (l.getD ((mostT l (fun x_ => aboveB x_ near ((l.getD ((findT l target).toNat) default).Much)) (fun x_ => muchOf x_)).toNat) default).Unit else if (findT l target : Int) ≥ 0 then target else 0) else if (mostT l (fun x_ => anyT x_) (fun x_ => muchOf x_) : Int) ≥ 0 then (l.getD ((mostT l (fun x_ => anyT x_) (fun x_ => muchOf x_)).toNat) default).Unit else if (findT l target : Int) ≥ 0 then target else 0
theorem targetT_ok (l : List GThreat) (l_f : Bool) (now : Int) (target : Int) (near : List Int) (near_f : Bool) : Ok Try.prog 8 [.pv (.slc l.length l_f (l.flatMap encGThreat)), I now, I target, .pv (.slc near.length near_f (encI near))] [] (I (targetT l now target near)) [] [] := by
 refine Ok.len fun hlen => ?_
 have hl_l : l.length ≤ maxLen := hlen _ (by simp [lensL, lens, lensP])
 have hl_near : near.length ≤ maxLen := hlen _ (by simp [lensL, lens, lensP])
 unfold maxLen at hl_l hl_near
 refine ok_of_sem Try.func8 rfl ?_
 show Walks Try.prog _ _ ⟨[(0, .pv (.slc l.length l_f (l.flatMap encGThreat))), (1, I now), (2, I target), (3, .pv (.slc near.length near_f (encI near)))], [], 0, [], 50, 0⟩
 refine sem_seq ?_
 refine sem_region rfl ?_
 refine step_n (o := .box [_]) (nx' := 1) rfl rfl rfl trivial ?_
 refine step_r rfl rfl trivial ?_
 refine step_nil ?_
 refine seqK_n ?_
 refine sem_seq ?_
 refine sem_seq ?_
 refine sem_region rfl ?_
 refine step_r rfl rfl trivial ?_
 refine step_r rfl rfl trivial ?_
 refine step_callJ (Hin := [.box [.pv _]]) (H' := [(0, .box [_])]) (nx' := 1) [0] rfl rfl rfl rfl rfl rfl rfl rfl rfl (by (repeat' apply And.intro) <;> first | trivial | rfl | exact flat_len (fun _ => rfl) _ | exact encI_len _ | exact encB_len _ | exact encY_len _ | exact Nat.le_of_ble_eq_true rfl | assumption) (mostT_ok l false 26 [.pptr [i64 now] 0] (fun x_ => afterT x_ now) ⟨rfl, rfl, fun _ => rfl, fun _ => rfl, fun x_ => afterT_ok x_ now⟩ 27 [] (fun x_ => tauntOf x_) ⟨rfl, rfl, fun _ => rfl, fun _ => rfl, fun x_ => tauntOf_ok x_⟩) rfl (by decide) rfl rfl trivial rfl rfl rfl rfl ?_
 have p1 := mostT_lt l (fun x_ => afterT x_ now) (fun x_ => tauntOf x_)
 refine step_r rfl rfl trivial ?_
 refine step_nil ?_
 refine seqK_n ?_
 refine sem_seq ?_
 refine sem_region rfl ?_
 refine step_r rfl rfl trivial ?_
 refine step_bin rfl rfl rfl rfl rfl trivial ?_
 refine step_nil ?_
 refine seqK_n ?_
 refine sem_cond rfl (fun h3 => ?_) (fun h3 => ?_)
 ·have g3 : (mostT l (fun x_ => afterT x_ now) (fun x_ => tauntOf x_) : Int) ≥ 0 := of_decide_eq_true h3
  refine sem_seq ?_
  refine sem_region rfl ?_
  refine step_r rfl rfl trivial ?_
  refine step_r rfl rfl trivial ?_
  have jk4 : (mostT l (fun x_ => afterT x_ now) (fun x_ => tauntOf x_)).toNat < l.length := by first | assumption | omega | (simp only [List.length_set, List.length_append]; omega) | (simp only [IntKind.wrap_i64] at *; omega) | (simp; omega) | simp_all
  refine step_idxS' (k := (mostT l (fun x_ => afterT x_ now) (fun x_ => tauntOf x_)).toNat) rfl rfl (Int.toNat_of_nonneg (by first | omega | (simp only [IntKind.wrap_i64]; omega) | (simp only [IntKind.wrap_i64] at *; omega) | (simp; omega))).symm rfl rfl jk4 (flat_ne (s := 3) (enc := encGThreat) (fun _ => rfl) (by decide) jk4) rfl ?_
  refine step_r rfl rfl (by decide) ?_
  refine step_load_one rfl rfl rfl (flat_get (s := 3) (enc := encGThreat) (fun _ => rfl) (get_getD jk4) (o := 0) rfl (by decide)) rfl ?_
  refine step_r rfl rfl trivial ?_
  refine step_nil ?_
  refine seqK_n ?_
  refine sem_ret ?_
  refine seqK_r ?_
  have e6 : targetT l now target near = (l.getD ((mostT l (fun x_ => afterT x_ now) (fun x_ => tauntOf x_)).toNat) default).Unit := by
   unfold targetT
   try dsimp only
   rewrite [if_pos g3]
   all_goals rfl
  rw [e6]
  exact answersR rfl ⟨trivial, trivial⟩ (rfl) rfl
 ·have g3 : ¬ ((mostT l (fun x_ => afterT x_ now) (fun x_ => tauntOf x_) : Int) ≥ 0) := of_decide_eq_false h3
  refine sem_skip ?_
  refine seqK_n ?_
  refine sem_seq ?_
  refine sem_region rfl ?_
  refine step_r rfl rfl trivial ?_
  refine step_nil ?_
  refine seqK_n ?_
  refine sem_seq ?_
  refine sem_region rfl ?_
  refine step_r rfl rfl trivial ?_
  refine step_r rfl rfl trivial ?_
  refine step_call rfl rfl rfl rfl (findT_ok l l_f target) rfl rfl rfl ?_
  have p8 := findT_lt l target
  refine step_r rfl rfl trivial ?_
  refine step_nil ?_
  refine seqK_n ?_
  refine sem_seq ?_
  refine sem_seq ?_
  refine sem_region rfl ?_
  refine step_r rfl rfl trivial ?_
  refine step_bin rfl rfl rfl rfl rfl trivial ?_
  refine step_nil ?_
  refine seqK_n ?_
  refine sem_cond rfl (fun h10 => ?_) (fun h10 => ?_)
  ·have g10 : (findT l target : Int) ≥ 0 := of_decide_eq_true h10
   refine sem_region rfl ?_
   refine step_r rfl rfl trivial ?_
   refine step_r rfl rfl trivial ?_
   have jk11 : (findT l target).toNat < l.length := by first | assumption | omega | (simp only [List.length_set, List.length_append]; omega) | (simp only [IntKind.wrap_i64] at *; omega) | (simp; omega) | simp_all
   refine step_idxS' (k := (findT l target).toNat) rfl rfl (Int.toNat_of_nonneg (by first | omega | (simp only [IntKind.wrap_i64]; omega) | (simp only [IntKind.wrap_i64] at *; omega) | (simp; omega))).symm rfl rfl jk11 (flat_ne (s := 3) (enc := encGThreat) (fun _ => rfl) (by decide) jk11) rfl ?_
   refine step_r rfl rfl (by decide) ?_
   refine step_load_one rfl rfl rfl (flat_get (s := 3) (enc := encGThreat) (fun _ => rfl) (get_getD jk11) (o := 1) rfl (by decide)) rfl ?_
   refine step_r rfl rfl trivial ?_
   refine step_call rfl rfl rfl rfl (above_ok ((l.getD ((findT l target).toNat) default).Much) near near_f) rfl rfl rfl ?_
   refine step_r rfl rfl trivial ?_
   refine step_nil ?_
   refine seqK_n ?_
   refine sem_seq ?_
   refine sem_region rfl ?_
   refine step_r rfl rfl trivial ?_
   refine step_r rfl rfl trivial ?_
   refine step_call rfl rfl rfl rfl (mostT_ok l l_f 42 [.pptr [(.slc near.length near_f (encI near))] 0, .pptr [i64 ((l.getD ((findT l target).toNat) default).Much)] 0] (fun x_ => aboveB x_ near ((l.getD ((findT l target).toNat) default).Much)) ⟨rfl, rfl, fun _ => rfl, fun _ => rfl, fun x_ => aboveB_ok x_ near near_f ((l.getD ((findT l target).toNat) default).Much)⟩ 31 [] (fun x_ => muchOf x_) ⟨rfl, rfl, fun _ => rfl, fun _ => rfl, fun x_ => muchOf_ok x_⟩) rfl rfl rfl ?_
   have p12 := mostT_lt l (fun x_ => aboveB x_ near ((l.getD ((findT l target).toNat) default).Much)) (fun x_ => muchOf x_)
   refine step_r rfl rfl trivial ?_
   refine step_nil ?_
   refine seqK_n ?_
   refine sem_seq ?_
   refine sem_block ?_
   refine sem_seq ?_
   refine sem_region rfl ?_
   refine step_r rfl rfl trivial ?_
   refine step_bin rfl rfl rfl rfl rfl trivial ?_
   refine step_r rfl rfl trivial ?_
   refine step_nil ?_
   refine seqK_n ?_
   refine sem_cond rfl (fun h15 => ?_) (fun h15 => ?_)
   ·have g15 : (mostT l (fun x_ => aboveB x_ near ((l.getD ((findT l target).toNat) default).Much)) (fun x_ => muchOf x_) : Int) ≥ 0 := of_decide_eq_true h15
    refine sem_seq ?_
    refine sem_region rfl ?_
    refine step_r rfl rfl trivial ?_
    refine step_r rfl rfl trivial ?_
    have jk16 : (mostT l (fun x_ => aboveB x_ near ((l.getD ((findT l target).toNat) default).Much)) (fun x_ => muchOf x_)).toNat < l.length := by first | assumption | omega | (simp only [List.length_set, List.length_append]; omega) | (simp only [IntKind.wrap_i64] at *; omega) | (simp; omega) | simp_all
    refine step_idxS' (k := (mostT l (fun x_ => aboveB x_ near ((l.getD ((findT l target).toNat) default).Much)) (fun x_ => muchOf x_)).toNat) rfl rfl (Int.toNat_of_nonneg (by first | omega | (simp only [IntKind.wrap_i64]; omega) | (simp only [IntKind.wrap_i64] at *; omega) | (simp; omega))).symm rfl rfl jk16 (flat_ne (s := 3) (enc := encGThreat) (fun _ => rfl) (by decide) jk16) rfl ?_
    refine step_r rfl rfl (by decide) ?_
    refine step_load_one rfl rfl rfl (flat_get (s := 3) (enc := encGThreat) (fun _ => rfl) (get_getD jk16) (o := 0) rfl (by decide)) rfl ?_
    refine step_r rfl rfl trivial ?_
    refine step_nil ?_
    refine seqK_n ?_
    refine sem_ret ?_
    refine blkK_r ?_
    refine seqK_r ?_
    have e18 : targetT l now target near = (l.getD ((mostT l (fun x_ => aboveB x_ near ((l.getD ((findT l target).toNat) default).Much)) (fun x_ => muchOf x_)).toNat) default).Unit := by
     unfold targetT
     try dsimp only
     rewrite [if_neg g3, if_pos g10, if_pos g15]
     all_goals rfl
    rw [e18]
    exact answersR rfl ⟨trivial, trivial⟩ (rfl) rfl
   ·have g15 : ¬ ((mostT l (fun x_ => aboveB x_ near ((l.getD ((findT l target).toNat) default).Much)) (fun x_ => muchOf x_) : Int) ≥ 0) := of_decide_eq_false h15
    refine sem_seq ?_
    refine sem_region rfl ?_
    refine step_r rfl rfl trivial ?_
    refine step_bin rfl rfl rfl rfl rfl trivial ?_
    refine step_r rfl rfl trivial ?_
    refine step_nil ?_
    refine seqK_n ?_
    refine sem_cond rfl (fun h20 => ?_) (fun h20 => ?_)
    ·have g20 : (findT l target : Int) ≥ 0 := of_decide_eq_true h20
     refine sem_seq ?_
     refine sem_region rfl ?_
     refine step_r rfl rfl trivial ?_
     refine step_r rfl rfl trivial ?_
     refine step_nil ?_
     refine seqK_n ?_
     refine sem_ret ?_
     refine blkK_r ?_
     refine seqK_r ?_
     have e21 : targetT l now target near = target := by
      unfold targetT
      try dsimp only
      rewrite [if_neg g3, if_pos g10, if_neg g15, if_pos g20]
      all_goals rfl
     rw [e21]
     exact answersR rfl ⟨trivial, trivial⟩ (rfl) rfl
    ·have g20 : ¬ ((findT l target : Int) ≥ 0) := of_decide_eq_false h20
     refine sem_skip ?_
     refine blkK_n ?_
     refine seqK_n ?_
     refine sem_seq ?_
     refine sem_region rfl ?_
     refine step_r rfl rfl trivial ?_
     refine step_nil ?_
     refine seqK_n ?_
     refine sem_ret ?_
     have e22 : targetT l now target near = 0 := by
      unfold targetT
      try dsimp only
      rewrite [if_neg g3, if_pos g10, if_neg g15, if_neg g20]
      all_goals rfl
     rw [e22]
     exact answersR rfl ⟨trivial, trivial⟩ (rfl) rfl
  ·have g10 : ¬ ((findT l target : Int) ≥ 0) := of_decide_eq_false h10
   refine sem_skip ?_
   refine seqK_n ?_
   refine sem_seq ?_
   refine sem_region rfl ?_
   refine step_r rfl rfl trivial ?_
   refine step_r rfl rfl trivial ?_
   refine step_call rfl rfl rfl rfl (mostT_ok l l_f 28 [] (fun x_ => anyT x_) ⟨rfl, rfl, fun _ => rfl, fun _ => rfl, fun x_ => anyT_ok x_⟩ 31 [] (fun x_ => muchOf x_) ⟨rfl, rfl, fun _ => rfl, fun _ => rfl, fun x_ => muchOf_ok x_⟩) rfl rfl rfl ?_
   have p23 := mostT_lt l (fun x_ => anyT x_) (fun x_ => muchOf x_)
   refine step_r rfl rfl trivial ?_
   refine step_nil ?_
   refine seqK_n ?_
   refine sem_seq ?_
   refine sem_block ?_
   refine sem_seq ?_
   refine sem_region rfl ?_
   refine step_r rfl rfl trivial ?_
   refine step_bin rfl rfl rfl rfl rfl trivial ?_
   refine step_r rfl rfl trivial ?_
   refine step_nil ?_
   refine seqK_n ?_
   refine sem_cond rfl (fun h26 => ?_) (fun h26 => ?_)
   ·have g26 : (mostT l (fun x_ => anyT x_) (fun x_ => muchOf x_) : Int) ≥ 0 := of_decide_eq_true h26
    refine sem_seq ?_
    refine sem_region rfl ?_
    refine step_r rfl rfl trivial ?_
    refine step_r rfl rfl trivial ?_
    have jk27 : (mostT l (fun x_ => anyT x_) (fun x_ => muchOf x_)).toNat < l.length := by first | assumption | omega | (simp only [List.length_set, List.length_append]; omega) | (simp only [IntKind.wrap_i64] at *; omega) | (simp; omega) | simp_all
    refine step_idxS' (k := (mostT l (fun x_ => anyT x_) (fun x_ => muchOf x_)).toNat) rfl rfl (Int.toNat_of_nonneg (by first | omega | (simp only [IntKind.wrap_i64]; omega) | (simp only [IntKind.wrap_i64] at *; omega) | (simp; omega))).symm rfl rfl jk27 (flat_ne (s := 3) (enc := encGThreat) (fun _ => rfl) (by decide) jk27) rfl ?_
    refine step_r rfl rfl (by decide) ?_
    refine step_load_one rfl rfl rfl (flat_get (s := 3) (enc := encGThreat) (fun _ => rfl) (get_getD jk27) (o := 0) rfl (by decide)) rfl ?_
    refine step_r rfl rfl trivial ?_
    refine step_nil ?_
    refine seqK_n ?_
    refine sem_ret ?_
    refine blkK_r ?_
    refine seqK_r ?_
    have e29 : targetT l now target near = (l.getD ((mostT l (fun x_ => anyT x_) (fun x_ => muchOf x_)).toNat) default).Unit := by
     unfold targetT
     try dsimp only
     rewrite [if_neg g3, if_neg g10, if_pos g26]
     all_goals rfl
    rw [e29]
    exact answersR rfl ⟨trivial, trivial⟩ (rfl) rfl
   ·have g26 : ¬ ((mostT l (fun x_ => anyT x_) (fun x_ => muchOf x_) : Int) ≥ 0) := of_decide_eq_false h26
    refine sem_seq ?_
    refine sem_region rfl ?_
    refine step_r rfl rfl trivial ?_
    refine step_bin rfl rfl rfl rfl rfl trivial ?_
    refine step_r rfl rfl trivial ?_
    refine step_nil ?_
    refine seqK_n ?_
    refine sem_cond rfl (fun h31 => ?_) (fun h31 => ?_)
    ·have g31 : (findT l target : Int) ≥ 0 := of_decide_eq_true h31
     refine sem_seq ?_
     refine sem_region rfl ?_
     refine step_r rfl rfl trivial ?_
     refine step_r rfl rfl trivial ?_
     refine step_nil ?_
     refine seqK_n ?_
     refine sem_ret ?_
     refine blkK_r ?_
     refine seqK_r ?_
     have e32 : targetT l now target near = target := by
      unfold targetT
      try dsimp only
      rewrite [if_neg g3, if_neg g10, if_neg g26, if_pos g31]
      all_goals rfl
     rw [e32]
     exact answersR rfl ⟨trivial, trivial⟩ (rfl) rfl
    ·have g31 : ¬ ((findT l target : Int) ≥ 0) := of_decide_eq_false h31
     refine sem_skip ?_
     refine blkK_n ?_
     refine seqK_n ?_
     refine sem_seq ?_
     refine sem_region rfl ?_
     refine step_r rfl rfl trivial ?_
     refine step_nil ?_
     refine seqK_n ?_
     refine sem_ret ?_
     have e33 : targetT l now target near = 0 := by
      unfold targetT
      try dsimp only
      rewrite [if_neg g3, if_neg g10, if_neg g26, if_neg g31]
      all_goals rfl
     rw [e33]
     exact answersR rfl ⟨trivial, trivial⟩ (rfl) rfl
end Go.Proofs.Ytcahldiaeamgaaa

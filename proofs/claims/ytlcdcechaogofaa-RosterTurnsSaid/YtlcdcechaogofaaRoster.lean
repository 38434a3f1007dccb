import Derived.Test.YtlcdcechaogofaaSl
namespace Go.Proofs.Ytlcdcechaogofaa
open Go Go.RowKit Go.Proofs.YtlcdcechaogofaaVm
attribute [local irreducible] opsWp AnswersE OpsS
set_option maxHeartbeats 400000
set_option maxRecDepth 100000
set_option linter.all false
def matchU (m : GMember) (c1 : Int) : Bool :=
  ((m.Unit : Int) == c1)
theorem matchU_ok (m : GMember) (c1 : Int) : Ok Try.prog 35 [aGMember m, .pptr [i64 c1] 0] [] (B (matchU m c1)) [] [] := by
 refine ok_of_sem Try.func35 rfl ?_
 show Walks Try.prog _ _ ⟨[(0, aGMember m), (1, .pptr [i64 c1] 0)], [], 0, [], 8, 0⟩
 refine sem_seq ?_
 refine sem_region rfl ?_
 refine step_n (o := .box [_, _]) (nx' := 1) rfl rfl rfl trivial ?_
 refine step_r rfl rfl trivial ?_
 refine step_nil ?_
 refine seqK_n ?_
 refine sem_seq ?_
 refine sem_region rfl ?_
 refine step_r rfl rfl (by decide) ?_
 refine step_r rfl rfl trivial ?_
 refine step_load_one rfl rfl rfl (rfl) rfl ?_
 refine step_bin rfl rfl rfl rfl rfl trivial ?_
 refine step_r rfl rfl trivial ?_
 refine step_nil ?_
 refine seqK_n ?_
 refine sem_ret ?_
 have e2 : matchU m c1 = ((m.Unit : Int) == c1) := by
  unfold matchU
  try dsimp only
  all_goals rfl
 rw [e2]
 exact answersR rfl ⟨trivial, trivial⟩ (rfl) rfl

def findM (l : List GMember) (unit : Int) : Int :=
  (fidx (fun x_ => matchU x_ unit) l)
theorem findM_ok (l : List GMember) (l_f : Bool) (unit : Int) : Ok Try.prog 25 [.pv (.slc l.length l_f (l.flatMap encGMember)), I unit] [] (I (findM l unit)) [] [] := by
 refine Ok.len fun hlen => ?_
 have hl_l : l.length ≤ maxLen := hlen _ (by simp [lensL, lens, lensP])
 unfold maxLen at hl_l
 refine ok_of_sem Try.func25 rfl ?_
 show Walks Try.prog _ _ ⟨[(0, .pv (.slc l.length l_f (l.flatMap encGMember))), (1, I unit)], [], 0, [], 8, 0⟩
 refine sem_seq ?_
 refine sem_region rfl ?_
 refine step_n (o := .box [_]) (nx' := 1) rfl rfl rfl trivial ?_
 refine step_r rfl rfl trivial ?_
 refine step_nil ?_
 refine seqK_n ?_
 refine sem_seq ?_
 refine sem_region rfl ?_
 refine step_r rfl rfl trivial ?_
 refine step_r rfl rfl trivial ?_
 refine step_callJ (Hin := [.box [.pv _]]) (H' := [(0, .box [_])]) (nx' := 1) [0] rfl rfl rfl rfl rfl rfl rfl rfl rfl (by (repeat' apply And.intro) <;> first | trivial | rfl | exact flat_len (fun _ => rfl) _ | exact encI_len _ | exact encB_len _ | exact encY_len _ | exact Nat.le_of_ble_eq_true rfl | assumption) (ixf_GMember l false 35 [.pptr [i64 unit] 0] (fun x_ => matchU x_ unit) ⟨rfl, rfl, fun _ => rfl, fun _ => rfl, fun x_ => matchU_ok x_ unit⟩) rfl (by decide) rfl rfl trivial rfl rfl rfl rfl ?_
 refine step_r rfl rfl trivial ?_
 refine step_nil ?_
 refine seqK_n ?_
 refine sem_ret ?_
 have e2 : findM l unit = (fidx (fun x_ => matchU x_ unit) l) := by
  unfold findM
  try dsimp only
  all_goals rfl
 rw [e2]
 exact answersR rfl ⟨trivial, trivial⟩ (rfl) rfl

theorem findM_lt (l : List GMember) (unit : Int) : -1 ≤ findM l unit ∧ findM l unit < l.length := by
  unfold findM
  rcases fidx_cases (fun x_ => matchU x_ unit) l with ⟨h, _⟩ | ⟨k, x, h, h2, _⟩
  · rw [h]; omega
  · rw [h]; have := (List.getElem?_eq_some_iff.1 h2).1; omega

def groupB (n : Int) : Bool :=
  if (n : Int) ≥ 1 then (decide ((n : Int) ≤ 8)) else false
theorem groupB_ok (n : Int) : Ok Try.prog 31 [I n] [] (B (groupB n)) [] [] := by
 refine ok_of_sem Try.func31 rfl ?_
 show Walks Try.prog _ _ ⟨[(0, I n)], [], 0, [], 9, 0⟩
 refine sem_seq ?_
 refine sem_region rfl ?_
 refine step_r rfl rfl trivial ?_
 refine step_nil ?_
 refine seqK_n ?_
 refine sem_seq ?_
 refine sem_region rfl ?_
 refine step_r rfl rfl trivial ?_
 refine step_bin rfl rfl rfl rfl rfl trivial ?_
 refine step_r rfl rfl trivial ?_
 refine step_gs rfl (fun h3 => ?_) (fun h3 => ?_)
 ·have g3 : (n : Int) ≥ 1 := of_decide_eq_true h3
  refine step_g1 rfl h3 ?_
  refine step_r rfl rfl trivial ?_
  refine step_g1 rfl h3 ?_
  refine step_bin rfl rfl rfl rfl rfl trivial ?_
  refine step_pickT rfl h3 rfl rfl ?_
  refine step_r rfl rfl trivial ?_
  refine step_nil ?_
  refine seqK_n ?_
  refine sem_ret ?_
  have e5 : groupB n = (decide ((n : Int) ≤ 8)) := by
   unfold groupB
   try dsimp only
   rewrite [if_pos g3]
   all_goals rfl
  rw [e5]
  exact answersR rfl ⟨trivial, trivial⟩ (rfl) rfl
 ·have g3 : ¬ ((n : Int) ≥ 1) := of_decide_eq_false h3
  refine step_g0 rfl h3 rfl ?_
  refine step_g0 rfl h3 rfl ?_
  refine step_pickF rfl h3 rfl rfl ?_
  refine step_r rfl rfl trivial ?_
  refine step_nil ?_
  refine seqK_n ?_
  refine sem_ret ?_
  have e6 : groupB n = false := by
   unfold groupB
   try dsimp only
   rewrite [if_neg g3]
   all_goals rfl
  rw [e6]
  exact answersR rfl ⟨trivial, trivial⟩ (rfl) rfl

theorem groupB_iff {n : Int} : groupB n = true ↔ 1 ≤ n ∧ n ≤ 8 := by
  unfold groupB
  split <;> simp_all <;> omega

def groupM (l : List GMember) (unit : Int) : Int :=
  if (findM l unit : Int) < 0 then 0 else (l.getD ((findM l unit).toNat) default).Group
theorem groupM_ok (l : List GMember) (l_f : Bool) (unit : Int) : Ok Try.prog 18 [.pv (.slc l.length l_f (l.flatMap encGMember)), I unit] [] (I (groupM l unit)) [] [] := by
 refine Ok.len fun hlen => ?_
 have hl_l : l.length ≤ maxLen := hlen _ (by simp [lensL, lens, lensP])
 unfold maxLen at hl_l
 refine ok_of_sem Try.func18 rfl ?_
 show Walks Try.prog _ _ ⟨[(0, .pv (.slc l.length l_f (l.flatMap encGMember))), (1, I unit)], [], 0, [], 16, 0⟩
 refine sem_seq ?_
 refine sem_region rfl ?_
 refine step_r rfl rfl trivial ?_
 refine step_nil ?_
 refine seqK_n ?_
 refine sem_seq ?_
 refine sem_region rfl ?_
 refine step_r rfl rfl trivial ?_
 refine step_r rfl rfl trivial ?_
 refine step_call rfl rfl rfl rfl (findM_ok l l_f unit) rfl rfl rfl ?_
 have p2 := findM_lt l unit
 refine step_r rfl rfl trivial ?_
 refine step_nil ?_
 refine seqK_n ?_
 refine sem_seq ?_
 refine sem_seq ?_
 refine sem_region rfl ?_
 refine step_r rfl rfl trivial ?_
 refine step_bin rfl rfl rfl rfl rfl trivial ?_
 refine step_nil ?_
 refine seqK_n ?_
 refine sem_cond rfl (fun h4 => ?_) (fun h4 => ?_)
 ·have g4 : (findM l unit : Int) < 0 := of_decide_eq_true h4
  refine sem_seq ?_
  refine sem_region rfl ?_
  refine step_r rfl rfl trivial ?_
  refine step_nil ?_
  refine seqK_n ?_
  refine sem_ret ?_
  refine seqK_r ?_
  have e5 : groupM l unit = 0 := by
   unfold groupM
   try dsimp only
   rewrite [if_pos g4]
   all_goals rfl
  rw [e5]
  exact answersR rfl ⟨trivial, trivial⟩ (rfl) rfl
 ·have g4 : ¬ ((findM l unit : Int) < 0) := of_decide_eq_false h4
  refine sem_skip ?_
  refine seqK_n ?_
  refine sem_seq ?_
  refine sem_region rfl ?_
  refine step_r rfl rfl trivial ?_
  refine step_r rfl rfl trivial ?_
  have jk6 : (findM l unit).toNat < l.length := by first | assumption | omega | (simp only [List.length_set, List.length_append]; omega) | (simp only [IntKind.wrap_i64] at *; omega) | (simp; omega) | simp_all
  refine step_idxS' (k := (findM l unit).toNat) rfl rfl (Int.toNat_of_nonneg (by first | omega | (simp only [IntKind.wrap_i64]; omega) | (simp only [IntKind.wrap_i64] at *; omega) | (simp; omega))).symm rfl rfl jk6 (flat_ne (s := 2) (enc := encGMember) (fun _ => rfl) (by decide) jk6) rfl ?_
  refine step_r rfl rfl (by decide) ?_
  refine step_load_one rfl rfl rfl (flat_get (s := 2) (enc := encGMember) (fun _ => rfl) (get_getD jk6) (o := 1) rfl (by decide)) rfl ?_
  refine step_r rfl rfl trivial ?_
  refine step_nil ?_
  refine seqK_n ?_
  refine sem_ret ?_
  have e8 : groupM l unit = (l.getD ((findM l unit).toNat) default).Group := by
   unfold groupM
   try dsimp only
   rewrite [if_neg g4]
   all_goals rfl
  rw [e8]
  exact answersR rfl ⟨trivial, trivial⟩ (rfl) rfl

def inM_L0 (n : Int) : List GMember → Nat → (List Int) → List Int
  | [], k0, out0 => out0
  | x0 :: l_, k0, out0 => if (x0.Group : Int) = n then inM_L0 n l_ (k0 + 1) (out0 ++ [x0.Unit]) else inM_L0 n l_ (k0 + 1) out0
def inM (l : List GMember) (n : Int) : List Int :=
  (let out_0 := inM_L0 n l 0 ([]); out_0)
theorem inM_ok (l : List GMember) (l_f : Bool) (n : Int) (hl : l.length ≤ 16777215) : Ok Try.prog 21 [.pv (.slc l.length l_f (l.flatMap encGMember)), I n] [] (.ref 0 1 0 (inM l n).length) [.row 3 1 (encI (inM l n))] [] := by
 refine Ok.len fun hlen => ?_
 have hl_l : l.length ≤ maxLen := hlen _ (by simp [lensL, lens, lensP])
 unfold maxLen at hl_l
 refine ok_of_sem Try.func21 rfl ?_
 show Walks Try.prog _ _ ⟨[(0, .pv (.slc l.length l_f (l.flatMap encGMember))), (1, I n)], [], 0, [], 25, 0⟩
 refine sem_seq ?_
 refine sem_region rfl ?_
 refine step_n (nx' := 1) rfl rfl rfl trivial ?_
 refine step_nil ?_
 refine seqK_n ?_
 refine sem_seq ?_
 refine sem_region rfl ?_
 refine step_n (nx' := 2) rfl rfl rfl trivial ?_
 refine step_nil ?_
 refine seqK_n ?_
 refine sem_seq ?_
 refine sem_seq ?_
 refine sem_region rfl ?_
 refine step_r rfl rfl trivial ?_
 refine step_r rfl rfl trivial ?_
 refine step_r rfl rfl trivial ?_
 refine step_nil ?_
 refine seqK_n ?_
 refine sem_cutW (fun out_0 : List Int => (⟨[(5, .ref 0 1 0 out_0.length)], [(0, .row 3 1 (encI out_0))], 1, [], 25, 0⟩ : St)) (fun w_ => inM_L0 n l 0 ([]) = w_) ?_ ?_
 ·refine sem_block ?_
  refine sem_loopT (fun w_ : Nat × (List Int) => match w_ with | (k0, out0) => (⟨[(1, I n), (5, .ref 0 1 0 out0.length), (8, .pv (.slc l.length l_f (l.flatMap encGMember))), (9, I l.length), (10, I k0)], [(0, .row 3 1 (encI out0))], 1, [], 25, 0⟩ : St)) (fun w_ : Nat × (List Int) => match w_ with | (k0, out0) => inM_L0 n (l.drop k0) k0 out0 = inM_L0 n l 0 ([]) ∧ k0 ≤ l.length ∧ out0.length ≤ k0) (fun w_ : Nat × (List Int) => match w_ with | (k0, out0) => l.length - k0) (0, []) (⟨rfl, Nat.zero_le _, by first | omega | simp | (simp; omega)⟩) ?_ (fun w_ hh_ => ?_)
  ·exact (Trans.ren [(0, 1), (1, 0)] (by decide +kernel) (by decide +kernel) rfl ⟨⟨rfl, rfl⟩, ⟨congrArg (fun n => some (AV.ref 1 1 0 n)) (by first | rfl | simp only [List.length_set] | simp | omega | (simp; omega)), rfl⟩, ⟨rfl, rfl⟩, ⟨rfl, rfl⟩, ⟨rfl, rfl⟩, trivial⟩ ⟨⟨rfl, rfl, rfl⟩, trivial⟩ (by decide))
  obtain ⟨k0, out0⟩ := w_
  obtain ⟨hI0, hb0, hv0⟩ := hh_
  show Walks Try.prog _ _ (⟨[(1, I n), (5, .ref 0 1 0 out0.length), (8, .pv (.slc l.length l_f (l.flatMap encGMember))), (9, I l.length), (10, I k0)], [(0, .row 3 1 (encI out0))], 1, [], 25, 0⟩ : St)
  refine sem_seq ?_
  refine sem_region rfl ?_
  refine step_bin rfl rfl rfl rfl rfl trivial ?_
  refine step_nil ?_
  refine seqK_n ?_
  refine sem_seq ?_
  refine sem_cond rfl (fun h2 => ?_) (fun h2 => ?_)
  ·have g2 : (k0 : Int) < l.length := of_decide_eq_true h2
   have hk0 : k0 < l.length := by omega
   obtain ⟨x0, hx0⟩ : ∃ z_, l[k0]? = some z_ := ⟨_, List.getElem?_eq_getElem hk0⟩
   refine sem_skip ?_
   refine seqK_n ?_
   refine sem_seq ?_
   refine sem_block ?_
   refine sem_seq ?_
   refine sem_region rfl ?_
   refine step_idxS (k := k0) rfl rfl rfl rfl hk0 (flat_ne (s := 2) (enc := encGMember) (fun _ => rfl) (by decide) hk0) rfl ?_
   refine step_load_row rfl rfl rfl (flat_lt (s := 2) (enc := encGMember) (fun _ => rfl) hk0) (flat_take (s := 2) (enc := encGMember) (fun _ => rfl) hx0) rfl ?_
   refine step_n (o := .box [_, _]) (nx' := 2) rfl rfl rfl trivial ?_
   refine step_store (H' := [(1, .box [_, _]), (0, .row _ _ _)]) rfl rfl rfl rfl rfl rfl (Nat.le_of_ble_eq_true rfl) (.inl rfl) rfl ?_
   refine step_nil ?_
   refine seqK_n ?_
   refine sem_seq ?_
   refine sem_region rfl ?_
   refine step_r rfl rfl (by decide) ?_
   refine step_r rfl rfl trivial ?_
   refine step_r rfl rfl trivial ?_
   refine step_bin rfl rfl rfl rfl rfl trivial ?_
   refine step_nil ?_
   refine seqK_n ?_
   refine sem_cond rfl (fun h4 => ?_) (fun h4 => ?_)
   ·have g4 : (x0.Group : Int) = n := beq_t h4
    refine sem_region rfl ?_
    refine step_r rfl rfl trivial ?_
    refine step_r rfl rfl (by decide) ?_
    refine step_r rfl rfl trivial ?_
    refine step_n (o := .row _ _ [_]) (nx' := 3) rfl rfl rfl (by decide) ?_
    refine step_appendC (m := 1) (new := [_]) (cs' := encI (out0 ++ [x0.Unit])) (n' := (out0 ++ [x0.Unit]).length) (H' := [(2, .row _ _ _), (1, .box [_, _]), (0, .row _ _ _)]) rfl rfl rfl (rfl) rfl rfl rfl rfl rfl rfl (encI_len out0) (rfl) (by first | decide | (unfold maxGrow; omega) | (unfold maxGrow; simp; omega) | (unfold maxGrow; simp only [List.length_append, List.length_take, List.length_drop, List.length_cons, List.length_nil, IntKind.wrap_i64] at *; omega)) (len_snoc out0 _) (((encI_snoc out0 x0.Unit)).symm) (.inl rfl) rfl rfl (.keep rfl (.keep rfl (.keep rfl .nil))) (.keep rfl (.keep rfl (.keep rfl (.lose (v' := .undef) rfl (.keep rfl (.keep rfl (.keep rfl (.keep rfl (.keep rfl (.keep rfl (.keep rfl (.keep rfl (.keep rfl (.lose (v' := .undef) rfl (.keep rfl (.keep rfl (.keep rfl .nil))))))))))))))))) ?_
    refine step_r rfl rfl trivial ?_
    refine step_nil ?_
    refine blkK_n ?_
    refine seqK_n ?_
    refine sem_region rfl ?_
    refine step_bin rfl rfl rfl rfl rfl trivial ?_
    refine step_r rfl rfl trivial ?_
    refine step_nil ?_
    have e6 : inM_L0 n (l.drop k0) k0 out0 = inM_L0 n (l.drop (k0 + 1)) (k0 + 1) (out0 ++ [x0.Unit]) := by
     rewrite [drop_cons hx0]
     rewrite [inM_L0]
     try dsimp only
     rewrite [if_pos g4]
     all_goals rfl
    exact lup_againT (k0 + 1, (out0 ++ [x0.Unit])) ⟨e6.symm.trans hI0, hk0, by first | omega | assumption | (simp only [List.length_append, List.length_cons, List.length_nil, List.length_set]; omega) | (simp; omega) | grind⟩ (by show l.length - (k0 + 1) < l.length - k0; omega) (Trans.ren [] (by decide +kernel) (by decide +kernel) rfl ⟨⟨rfl, rfl⟩, ⟨rfl, rfl⟩, ⟨rfl, rfl⟩, ⟨rfl, rfl⟩, ⟨congrArg (fun n => some (I n)) (wrapI (k := k0) (by first | omega | (simp; omega))), rfl⟩, trivial⟩ ⟨⟨rfl, rfl, rfl⟩, trivial⟩ (by decide))
   ·have g4 : ¬ ((x0.Group : Int) = n) := beq_f h4
    refine sem_skip ?_
    refine blkK_n ?_
    refine seqK_n ?_
    refine sem_region rfl ?_
    refine step_bin rfl rfl rfl rfl rfl trivial ?_
    refine step_r rfl rfl trivial ?_
    refine step_nil ?_
    have e8 : inM_L0 n (l.drop k0) k0 out0 = inM_L0 n (l.drop (k0 + 1)) (k0 + 1) out0 := by
     rewrite [drop_cons hx0]
     rewrite [inM_L0]
     try dsimp only
     rewrite [if_neg g4]
     all_goals rfl
    exact lup_againT (k0 + 1, out0) ⟨e8.symm.trans hI0, hk0, by first | omega | assumption | (simp only [List.length_append, List.length_cons, List.length_nil, List.length_set]; omega) | (simp; omega) | grind⟩ (by show l.length - (k0 + 1) < l.length - k0; omega) (Trans.ren [] (by decide +kernel) (by decide +kernel) rfl ⟨⟨rfl, rfl⟩, ⟨rfl, rfl⟩, ⟨rfl, rfl⟩, ⟨rfl, rfl⟩, ⟨congrArg (fun n => some (I n)) (wrapI (k := k0) (by first | omega | (simp; omega))), rfl⟩, trivial⟩ ⟨⟨rfl, rfl, rfl⟩, trivial⟩ (by decide))
  ·have g2 : ¬ ((k0 : Int) < l.length) := of_decide_eq_false h2
   have hk0 : k0 = l.length := by omega
   refine sem_exit ?_
   refine seqK_e ?_
   refine lupK_e ?_
   refine blkK_t rfl ?_
   have e9 : inM_L0 n l 0 ([]) = out0 := by
    rewrite [← hI0, hk0, List.drop_length]
    rewrite [inM_L0]
    try dsimp only
    all_goals rfl
   exact cutW_n out0 e9 (Trans.ren [] (by decide +kernel) (by decide +kernel) rfl ⟨⟨rfl, rfl⟩, trivial⟩ ⟨⟨rfl, rfl, rfl⟩, trivial⟩ (by decide))
 ·rintro out_0 (hJ1 : inM_L0 n l 0 ([]) = out_0)
  show seqK _ _ _ .normal (⟨[(5, .ref 0 1 0 out_0.length)], [(0, .row 3 1 (encI out_0))], 1, [], 25, 0⟩ : St)
  refine seqK_n ?_
  refine sem_seq ?_
  refine sem_region rfl ?_
  refine step_r rfl rfl trivial ?_
  refine step_r rfl rfl trivial ?_
  refine step_nil ?_
  refine seqK_n ?_
  refine sem_ret ?_
  have e10 : inM l n = out_0 := by
   unfold inM
   try dsimp only
   rewrite [hJ1]
   try dsimp only
   all_goals rfl
  rw [e10]
  exact answersGR [] [0] rfl ⟨trivial, trivial⟩ rfl (by (repeat' apply And.intro) <;> first | trivial | rfl | exact flat_len (fun _ => rfl) _ | exact encI_len _ | exact encB_len _ | exact encY_len _ | assumption) (rfl) rfl rfl rfl (by decide) rfl rfl ⟨⟨rfl, rfl⟩, trivial⟩

def leadM (l : List GMember) : Int :=
  if (l.length : Int) = 0 then 0 else (l.getD 0 default).Unit
theorem leadM_ok (l : List GMember) (l_f : Bool) : Ok Try.prog 23 [.pv (.slc l.length l_f (l.flatMap encGMember))] [] (I (leadM l)) [] [] := by
 refine Ok.len fun hlen => ?_
 have hl_l : l.length ≤ maxLen := hlen _ (by simp [lensL, lens, lensP])
 unfold maxLen at hl_l
 refine ok_of_sem Try.func23 rfl ?_
 show Walks Try.prog _ _ ⟨[(0, .pv (.slc l.length l_f (l.flatMap encGMember)))], [], 0, [], 10, 0⟩
 refine sem_seq ?_
 refine sem_region rfl ?_
 refine step_r rfl rfl trivial ?_
 refine step_nil ?_
 refine seqK_n ?_
 refine sem_seq ?_
 refine sem_seq ?_
 refine sem_region rfl ?_
 refine step_r rfl rfl trivial ?_
 refine step_r rfl rfl trivial ?_
 refine step_bin rfl rfl rfl rfl rfl trivial ?_
 refine step_nil ?_
 refine seqK_n ?_
 refine sem_cond rfl (fun h1 => ?_) (fun h1 => ?_)
 ·have g1 : (l.length : Int) = 0 := beq_t h1
  refine sem_seq ?_
  refine sem_region rfl ?_
  refine step_r rfl rfl trivial ?_
  refine step_nil ?_
  refine seqK_n ?_
  refine sem_ret ?_
  refine seqK_r ?_
  have e2 : leadM l = 0 := by
   unfold leadM
   try dsimp only
   rewrite [if_pos g1]
   all_goals rfl
  rw [e2]
  exact answersR rfl ⟨trivial, trivial⟩ (rfl) rfl
 ·have g1 : ¬ ((l.length : Int) = 0) := beq_f h1
  refine sem_skip ?_
  refine seqK_n ?_
  refine sem_seq ?_
  refine sem_region rfl ?_
  refine step_r rfl rfl trivial ?_
  have jk3 : 0 < l.length := by first | assumption | omega | (simp only [List.length_set, List.length_append]; omega) | (simp only [IntKind.wrap_i64] at *; omega) | (simp; omega) | simp_all
  refine step_idxS (k := 0) rfl rfl rfl rfl jk3 (flat_ne (s := 2) (enc := encGMember) (fun _ => rfl) (by decide) jk3) rfl ?_
  refine step_r rfl rfl (by decide) ?_
  refine step_load_one rfl rfl rfl (flat_get (s := 2) (enc := encGMember) (fun _ => rfl) (get_getD jk3) (o := 0) rfl (by decide)) rfl ?_
  refine step_r rfl rfl trivial ?_
  refine step_nil ?_
  refine seqK_n ?_
  refine sem_ret ?_
  have e5 : leadM l = (l.getD 0 default).Unit := by
   unfold leadM
   try dsimp only
   rewrite [if_neg g1]
   all_goals rfl
  rw [e5]
  exact answersR rfl ⟨trivial, trivial⟩ (rfl) rfl

def findR_L0 (unit : Int) : List GMember → Nat → Sum Int Unit
  | [], k0 => .inr ()
  | x0 :: l_, k0 => if (x0.Unit : Int) = unit then .inl (k0 : Int) else findR_L0 unit l_ (k0 + 1)
def findR (l : List GMember) (unit : Int) : Int :=
  (match findR_L0 unit l 0 with
    | .inl r_ => r_
    | .inr () => (-1))
theorem findR_ok (l : List GMember) (l_f : Bool) (unit : Int) : Ok Try.prog 28 [.pv (.slc l.length l_f (l.flatMap encGMember)), I unit] [] (I (findR l unit)) [] [] := by
 refine Ok.len fun hlen => ?_
 have hl_l : l.length ≤ maxLen := hlen _ (by simp [lensL, lens, lensP])
 unfold maxLen at hl_l
 refine ok_of_sem Try.func28 rfl ?_
 show Walks Try.prog _ _ ⟨[(0, .pv (.slc l.length l_f (l.flatMap encGMember))), (1, I unit)], [], 0, [], 20, 0⟩
 refine sem_seq ?_
 refine sem_region rfl ?_
 refine step_r rfl rfl trivial ?_
 refine step_nil ?_
 refine seqK_n ?_
 refine sem_seq ?_
 refine sem_seq ?_
 refine sem_region rfl ?_
 refine step_r rfl rfl trivial ?_
 refine step_nil ?_
 refine seqK_n ?_
 refine sem_cutW (fun w_ : Unit => match w_ with | () => (⟨[], [], 0, [], 20, 0⟩ : St)) (fun w_ => findR_L0 unit l 0 = .inr w_) ?_ ?_
 ·refine sem_block ?_
  refine sem_loopT (fun k0 : Nat => (⟨[(0, .pv (.slc l.length l_f (l.flatMap encGMember))), (1, I unit), (5, I k0)], [], 0, [], 20, 0⟩ : St)) (fun k0 : Nat => findR_L0 unit (l.drop k0) k0 = findR_L0 unit l 0 ∧ k0 ≤ l.length) (fun k0 : Nat => l.length - k0) 0 (⟨rfl, Nat.zero_le _⟩) ?_ (fun k0 hh_ => ?_)
  ·exact (Trans.ren [] (by decide +kernel) (by decide +kernel) rfl ⟨⟨rfl, rfl⟩, ⟨rfl, rfl⟩, ⟨rfl, rfl⟩, trivial⟩ trivial (by decide))
  obtain ⟨hI0, hb0⟩ := hh_
  show Walks Try.prog _ _ (⟨[(0, .pv (.slc l.length l_f (l.flatMap encGMember))), (1, I unit), (5, I k0)], [], 0, [], 20, 0⟩ : St)
  refine sem_seq ?_
  refine sem_seq ?_
  refine sem_region rfl ?_
  refine step_r rfl rfl trivial ?_
  refine step_r rfl rfl trivial ?_
  refine step_r rfl rfl trivial ?_
  refine step_bin rfl rfl rfl rfl rfl trivial ?_
  refine step_nil ?_
  refine seqK_n ?_
  refine sem_cond rfl (fun h3 => ?_) (fun h3 => ?_)
  ·have g3 : (k0 : Int) < l.length := of_decide_eq_true h3
   have hk0 : k0 < l.length := by omega
   obtain ⟨x0, hx0⟩ : ∃ z_, l[k0]? = some z_ := ⟨_, List.getElem?_eq_getElem hk0⟩
   refine sem_skip ?_
   refine seqK_n ?_
   refine sem_seq ?_
   refine sem_block ?_
   refine sem_seq ?_
   refine sem_region rfl ?_
   refine step_r rfl rfl trivial ?_
   refine step_r rfl rfl trivial ?_
   refine step_idxS (k := k0) rfl rfl rfl rfl hk0 (flat_ne (s := 2) (enc := encGMember) (fun _ => rfl) (by decide) hk0) rfl ?_
   refine step_r rfl rfl (by decide) ?_
   refine step_load_one rfl rfl rfl (flat_get (s := 2) (enc := encGMember) (fun _ => rfl) hx0 (o := 0) rfl (by decide)) rfl ?_
   refine step_r rfl rfl trivial ?_
   refine step_bin rfl rfl rfl rfl rfl trivial ?_
   refine step_nil ?_
   refine seqK_n ?_
   refine sem_cond rfl (fun h5 => ?_) (fun h5 => ?_)
   ·have g5 : (x0.Unit : Int) = unit := beq_t h5
    refine sem_seq ?_
    refine sem_region rfl ?_
    refine step_r rfl rfl trivial ?_
    refine step_r rfl rfl trivial ?_
    refine step_nil ?_
    refine seqK_n ?_
    refine sem_ret ?_
    refine blkK_r ?_
    refine seqK_r ?_
    refine lupK_r ?_
    refine blkK_r ?_
    refine cutW_r ?_
    refine seqK_r ?_
    have e6 : findR_L0 unit l 0 = .inl (k0 : Int) := by
     rewrite [← hI0, drop_cons hx0]
     rewrite [findR_L0]
     try dsimp only
     rewrite [if_pos g5]
     all_goals rfl
    have e7 : findR l unit = (k0 : Int) := by
     unfold findR
     try dsimp only
     rewrite [e6]
     try dsimp only
     all_goals rfl
    rw [e7]
    exact answersR rfl ⟨trivial, trivial⟩ (rfl) rfl
   ·have g5 : ¬ ((x0.Unit : Int) = unit) := beq_f h5
    refine sem_skip ?_
    refine blkK_n ?_
    refine seqK_n ?_
    refine sem_region rfl ?_
    refine step_r rfl rfl trivial ?_
    refine step_bin rfl rfl rfl rfl rfl trivial ?_
    refine step_r rfl rfl trivial ?_
    refine step_nil ?_
    have e9 : findR_L0 unit (l.drop k0) k0 = findR_L0 unit (l.drop (k0 + 1)) (k0 + 1) := by
     rewrite [drop_cons hx0]
     rewrite [findR_L0]
     try dsimp only
     rewrite [if_neg g5]
     all_goals rfl
    exact lup_againT (k0 + 1) ⟨e9.symm.trans hI0, hk0⟩ (by show l.length - (k0 + 1) < l.length - k0; omega) (Trans.ren [] (by decide +kernel) (by decide +kernel) rfl ⟨⟨rfl, rfl⟩, ⟨rfl, rfl⟩, ⟨congrArg (fun n => some (I n)) (wrapI (k := k0) (by first | omega | (simp; omega))), rfl⟩, trivial⟩ trivial (by decide))
  ·have g3 : ¬ ((k0 : Int) < l.length) := of_decide_eq_false h3
   have hk0 : k0 = l.length := by omega
   refine sem_exit ?_
   refine seqK_e ?_
   refine lupK_e ?_
   refine blkK_t rfl ?_
   have e10 : findR_L0 unit l 0 = .inr () := by
    rewrite [← hI0, hk0, List.drop_length]
    rewrite [findR_L0]
    try dsimp only
    all_goals rfl
   exact cutW_n () e10 (Trans.ren [] (by decide +kernel) (by decide +kernel) rfl trivial trivial (by decide))
 ·rintro ⟨⟩ (hJ1 : findR_L0 unit l 0 = .inr ())
  show seqK _ _ _ .normal (⟨[], [], 0, [], 20, 0⟩ : St)
  refine seqK_n ?_
  refine sem_seq ?_
  refine sem_region rfl ?_
  refine step_r rfl rfl trivial ?_
  refine step_nil ?_
  refine seqK_n ?_
  refine sem_ret ?_
  have e11 : findR l unit = (-1) := by
   unfold findR
   try dsimp only
   rewrite [hJ1]
   try dsimp only
   all_goals rfl
  rw [e11]
  exact answersR rfl ⟨trivial, trivial⟩ (rfl) rfl

theorem findR_go (unit : Int) : ∀ (l : List GMember) (k : Nat), findR_L0 unit l k = match l.findIdx? (fun x => matchU x unit) with | none => .inr () | some i => .inl ((i + k : Nat) : Int)
  | [], k => by simp [findR_L0]
  | x :: l, k => by
    rw [findR_L0, findR_go unit l (k + 1), List.findIdx?_cons]
    by_cases h : x.Unit = unit
    · simp [h, matchU]
    · have h2 : matchU x unit = false := by simpa [matchU] using h
      rw [if_neg h, h2]
      cases l.findIdx? (fun x => matchU x unit) with
      | none => rfl
      | some i =>
        show Sum.inl (((i + (k + 1) : Nat)) : Int) = Sum.inl (((i + 1 + k : Nat)) : Int)
        congr 1; omega
theorem findR_eq (l : List GMember) (unit : Int) : findR l unit = findM l unit := by
  unfold findR findM fidx
  rw [findR_go]
  cases l.findIdx? (fun x => matchU x unit) <;> simp
theorem findR_lt (l : List GMember) (unit : Int) : -1 ≤ findR l unit ∧ findR l unit < l.length := findR_eq l unit ▸ findM_lt l unit

def inR_L0 (group : Int) : List GMember → Nat → (List Int) → List Int
  | [], k0, out0 => out0
  | x0 :: l_, k0, out0 => if (x0.Group : Int) = group then inR_L0 group l_ (k0 + 1) (out0 ++ [x0.Unit]) else inR_L0 group l_ (k0 + 1) out0
def inR (l : List GMember) (group : Int) : List Int :=
  (let out_0 := inR_L0 group l 0 ([]); out_0)
theorem inR_ok (l : List GMember) (l_f : Bool) (group : Int) (hl : l.length ≤ 16777215) : Ok Try.prog 22 [.pv (.slc l.length l_f (l.flatMap encGMember)), I group] [] (.ref 0 1 0 (inR l group).length) [.row 3 1 (encI (inR l group))] [] := by
 refine Ok.len fun hlen => ?_
 have hl_l : l.length ≤ maxLen := hlen _ (by simp [lensL, lens, lensP])
 unfold maxLen at hl_l
 refine ok_of_sem Try.func22 rfl ?_
 show Walks Try.prog _ _ ⟨[(0, .pv (.slc l.length l_f (l.flatMap encGMember))), (1, I group)], [], 0, [], 29, 0⟩
 refine sem_seq ?_
 refine sem_region rfl ?_
 refine step_n (nx' := 1) rfl rfl rfl trivial ?_
 refine step_nil ?_
 refine seqK_n ?_
 refine sem_seq ?_
 refine sem_region rfl ?_
 refine step_n (nx' := 2) rfl rfl rfl trivial ?_
 refine step_nil ?_
 refine seqK_n ?_
 refine sem_seq ?_
 refine sem_seq ?_
 refine sem_region rfl ?_
 refine step_r rfl rfl trivial ?_
 refine step_nil ?_
 refine seqK_n ?_
 refine sem_cutW (fun out_0 : List Int => (⟨[(5, .ref 0 1 0 out_0.length)], [(0, .row 3 1 (encI out_0))], 1, [], 29, 0⟩ : St)) (fun w_ => inR_L0 group l 0 ([]) = w_) ?_ ?_
 ·refine sem_block ?_
  refine sem_loopT (fun w_ : Nat × (List Int) => match w_ with | (k0, out0) => (⟨[(0, .pv (.slc l.length l_f (l.flatMap encGMember))), (1, I group), (5, .ref 0 1 0 out0.length), (6, I k0)], [(0, .row 3 1 (encI out0))], 1, [], 29, 0⟩ : St)) (fun w_ : Nat × (List Int) => match w_ with | (k0, out0) => inR_L0 group (l.drop k0) k0 out0 = inR_L0 group l 0 ([]) ∧ k0 ≤ l.length ∧ out0.length ≤ k0) (fun w_ : Nat × (List Int) => match w_ with | (k0, out0) => l.length - k0) (0, []) (⟨rfl, Nat.zero_le _, by first | omega | simp | (simp; omega)⟩) ?_ (fun w_ hh_ => ?_)
  ·exact (Trans.ren [(0, 1), (1, 0)] (by decide +kernel) (by decide +kernel) rfl ⟨⟨rfl, rfl⟩, ⟨rfl, rfl⟩, ⟨congrArg (fun n => some (AV.ref 1 1 0 n)) (by first | rfl | simp only [List.length_set] | simp | omega | (simp; omega)), rfl⟩, ⟨rfl, rfl⟩, trivial⟩ ⟨⟨rfl, rfl, rfl⟩, trivial⟩ (by decide))
  obtain ⟨k0, out0⟩ := w_
  obtain ⟨hI0, hb0, hv0⟩ := hh_
  show Walks Try.prog _ _ (⟨[(0, .pv (.slc l.length l_f (l.flatMap encGMember))), (1, I group), (5, .ref 0 1 0 out0.length), (6, I k0)], [(0, .row 3 1 (encI out0))], 1, [], 29, 0⟩ : St)
  refine sem_seq ?_
  refine sem_seq ?_
  refine sem_region rfl ?_
  refine step_r rfl rfl trivial ?_
  refine step_r rfl rfl trivial ?_
  refine step_r rfl rfl trivial ?_
  refine step_bin rfl rfl rfl rfl rfl trivial ?_
  refine step_nil ?_
  refine seqK_n ?_
  refine sem_cond rfl (fun h3 => ?_) (fun h3 => ?_)
  ·have g3 : (k0 : Int) < l.length := of_decide_eq_true h3
   have hk0 : k0 < l.length := by omega
   obtain ⟨x0, hx0⟩ : ∃ z_, l[k0]? = some z_ := ⟨_, List.getElem?_eq_getElem hk0⟩
   refine sem_skip ?_
   refine seqK_n ?_
   refine sem_seq ?_
   refine sem_block ?_
   refine sem_seq ?_
   refine sem_region rfl ?_
   refine step_r rfl rfl trivial ?_
   refine step_r rfl rfl trivial ?_
   refine step_idxS (k := k0) rfl rfl rfl rfl hk0 (flat_ne (s := 2) (enc := encGMember) (fun _ => rfl) (by decide) hk0) rfl ?_
   refine step_r rfl rfl (by decide) ?_
   refine step_load_one rfl rfl rfl (flat_get (s := 2) (enc := encGMember) (fun _ => rfl) hx0 (o := 1) rfl (by decide)) rfl ?_
   refine step_r rfl rfl trivial ?_
   refine step_bin rfl rfl rfl rfl rfl trivial ?_
   refine step_nil ?_
   refine seqK_n ?_
   refine sem_cond rfl (fun h5 => ?_) (fun h5 => ?_)
   ·have g5 : (x0.Group : Int) = group := beq_t h5
    refine sem_region rfl ?_
    refine step_r rfl rfl trivial ?_
    refine step_r rfl rfl trivial ?_
    refine step_r rfl rfl trivial ?_
    refine step_idxS (k := k0) rfl rfl rfl rfl hk0 (flat_ne (s := 2) (enc := encGMember) (fun _ => rfl) (by decide) hk0) rfl ?_
    refine step_r rfl rfl (by decide) ?_
    refine step_load_one rfl rfl rfl (flat_get (s := 2) (enc := encGMember) (fun _ => rfl) hx0 (o := 0) rfl (by decide)) rfl ?_
    refine step_n (o := .row _ _ [_]) (nx' := 2) rfl rfl rfl (by decide) ?_
    refine step_appendC (m := 1) (new := [_]) (cs' := encI (out0 ++ [x0.Unit])) (n' := (out0 ++ [x0.Unit]).length) (H' := [(1, .row _ _ _), (0, .row _ _ _)]) rfl rfl rfl (rfl) rfl rfl rfl rfl rfl rfl (encI_len out0) (rfl) (by first | decide | (unfold maxGrow; omega) | (unfold maxGrow; simp; omega) | (unfold maxGrow; simp only [List.length_append, List.length_take, List.length_drop, List.length_cons, List.length_nil, IntKind.wrap_i64] at *; omega)) (len_snoc out0 _) (((encI_snoc out0 x0.Unit)).symm) (.inl rfl) rfl rfl (.keep rfl (.keep rfl .nil)) (.keep rfl (.keep rfl (.keep rfl (.keep rfl (.keep rfl (.keep rfl (.lose (v' := .undef) rfl (.keep rfl (.keep rfl (.keep rfl (.keep rfl (.keep rfl (.keep rfl (.keep rfl (.keep rfl (.keep rfl (.keep rfl (.keep rfl (.keep rfl (.keep rfl (.lose (v' := .undef) rfl (.keep rfl .nil)))))))))))))))))))))) ?_
    refine step_r rfl rfl trivial ?_
    refine step_nil ?_
    refine blkK_n ?_
    refine seqK_n ?_
    refine sem_region rfl ?_
    refine step_r rfl rfl trivial ?_
    refine step_bin rfl rfl rfl rfl rfl trivial ?_
    refine step_r rfl rfl trivial ?_
    refine step_nil ?_
    have e7 : inR_L0 group (l.drop k0) k0 out0 = inR_L0 group (l.drop (k0 + 1)) (k0 + 1) (out0 ++ [x0.Unit]) := by
     rewrite [drop_cons hx0]
     rewrite [inR_L0]
     try dsimp only
     rewrite [if_pos g5]
     all_goals rfl
    exact lup_againT (k0 + 1, (out0 ++ [x0.Unit])) ⟨e7.symm.trans hI0, hk0, by first | omega | assumption | (simp only [List.length_append, List.length_cons, List.length_nil, List.length_set]; omega) | (simp; omega) | grind⟩ (by show l.length - (k0 + 1) < l.length - k0; omega) (Trans.ren [] (by decide +kernel) (by decide +kernel) rfl ⟨⟨rfl, rfl⟩, ⟨rfl, rfl⟩, ⟨rfl, rfl⟩, ⟨congrArg (fun n => some (I n)) (wrapI (k := k0) (by first | omega | (simp; omega))), rfl⟩, trivial⟩ ⟨⟨rfl, rfl, rfl⟩, trivial⟩ (by decide))
   ·have g5 : ¬ ((x0.Group : Int) = group) := beq_f h5
    refine sem_skip ?_
    refine blkK_n ?_
    refine seqK_n ?_
    refine sem_region rfl ?_
    refine step_r rfl rfl trivial ?_
    refine step_bin rfl rfl rfl rfl rfl trivial ?_
    refine step_r rfl rfl trivial ?_
    refine step_nil ?_
    have e9 : inR_L0 group (l.drop k0) k0 out0 = inR_L0 group (l.drop (k0 + 1)) (k0 + 1) out0 := by
     rewrite [drop_cons hx0]
     rewrite [inR_L0]
     try dsimp only
     rewrite [if_neg g5]
     all_goals rfl
    exact lup_againT (k0 + 1, out0) ⟨e9.symm.trans hI0, hk0, by first | omega | assumption | (simp only [List.length_append, List.length_cons, List.length_nil, List.length_set]; omega) | (simp; omega) | grind⟩ (by show l.length - (k0 + 1) < l.length - k0; omega) (Trans.ren [] (by decide +kernel) (by decide +kernel) rfl ⟨⟨rfl, rfl⟩, ⟨rfl, rfl⟩, ⟨rfl, rfl⟩, ⟨congrArg (fun n => some (I n)) (wrapI (k := k0) (by first | omega | (simp; omega))), rfl⟩, trivial⟩ ⟨⟨rfl, rfl, rfl⟩, trivial⟩ (by decide))
  ·have g3 : ¬ ((k0 : Int) < l.length) := of_decide_eq_false h3
   have hk0 : k0 = l.length := by omega
   refine sem_exit ?_
   refine seqK_e ?_
   refine lupK_e ?_
   refine blkK_t rfl ?_
   have e10 : inR_L0 group l 0 ([]) = out0 := by
    rewrite [← hI0, hk0, List.drop_length]
    rewrite [inR_L0]
    try dsimp only
    all_goals rfl
   exact cutW_n out0 e10 (Trans.ren [] (by decide +kernel) (by decide +kernel) rfl ⟨⟨rfl, rfl⟩, trivial⟩ ⟨⟨rfl, rfl, rfl⟩, trivial⟩ (by decide))
 ·rintro out_0 (hJ1 : inR_L0 group l 0 ([]) = out_0)
  show seqK _ _ _ .normal (⟨[(5, .ref 0 1 0 out_0.length)], [(0, .row 3 1 (encI out_0))], 1, [], 29, 0⟩ : St)
  refine seqK_n ?_
  refine sem_seq ?_
  refine sem_region rfl ?_
  refine step_r rfl rfl trivial ?_
  refine step_r rfl rfl trivial ?_
  refine step_nil ?_
  refine seqK_n ?_
  refine sem_ret ?_
  have e11 : inR l group = out_0 := by
   unfold inR
   try dsimp only
   rewrite [hJ1]
   try dsimp only
   all_goals rfl
  rw [e11]
  exact answersGR [] [0] rfl ⟨trivial, trivial⟩ rfl (by (repeat' apply And.intro) <;> first | trivial | rfl | exact flat_len (fun _ => rfl) _ | exact encI_len _ | exact encB_len _ | exact encY_len _ | assumption) (rfl) rfl rfl rfl (by decide) rfl rfl ⟨⟨rfl, rfl⟩, trivial⟩

structure A9int where
  (f0 : Int)
  (f1 : Int)
  (f2 : Int)
  (f3 : Int)
  (f4 : Int)
  (f5 : Int)
  (f6 : Int)
  (f7 : Int)
  (f8 : Int)
  deriving DecidableEq, Inhabited
def encA9int (x : A9int) : List PV := [i64 x.f0, i64 x.f1, i64 x.f2, i64 x.f3, i64 x.f4, i64 x.f5, i64 x.f6, i64 x.f7, i64 x.f8]
abbrev aA9int (x : A9int) : AV := .agg [I x.f0, I x.f1, I x.f2, I x.f3, I x.f4, I x.f5, I x.f6, I x.f7, I x.f8]
def wfA9int (x : A9int) : Prop := (InR x.f0) ∧ (InR x.f1) ∧ (InR x.f2) ∧ (InR x.f3) ∧ (InR x.f4) ∧ (InR x.f5) ∧ (InR x.f6) ∧ (InR x.f7) ∧ (InR x.f8)
theorem encA9int_solid {l : List A9int} : ∀ p ∈ l.flatMap encA9int, solidP p = true := flat_solid (fun x p h => by simp only [encA9int, List.mem_cons, List.mem_nil_iff, or_false] at h; rcases h with rfl | rfl | rfl | rfl | rfl | rfl | rfl | rfl | rfl <;> rfl)

def A9int.get (x : A9int) (k : Nat) : Int := match k with | 0 => x.f0 | 1 => x.f1 | 2 => x.f2 | 3 => x.f3 | 4 => x.f4 | 5 => x.f5 | 6 => x.f6 | 7 => x.f7 | _ => x.f8
def A9int.set (x : A9int) (k : Nat) (v : Int) : A9int := match k with | 0 => { x with f0 := v } | 1 => { x with f1 := v } | 2 => { x with f2 := v } | 3 => { x with f3 := v } | 4 => { x with f4 := v } | 5 => { x with f5 := v } | 6 => { x with f6 := v } | 7 => { x with f7 := v } | _ => { x with f8 := v }
abbrev A9int.list (x : A9int) : List Int := [x.f0, x.f1, x.f2, x.f3, x.f4, x.f5, x.f6, x.f7, x.f8]
theorem A9int.get_cell (x : A9int) {k : Nat} (h : k < 9) : ([I x.f0, I x.f1, I x.f2, I x.f3, I x.f4, I x.f5, I x.f6, I x.f7, I x.f8] : List AV)[0 + k * 1]? = some (I (x.get k)) := by
  match k, h with | 0, _ => rfl | 1, _ => rfl | 2, _ => rfl | 3, _ => rfl | 4, _ => rfl | 5, _ => rfl | 6, _ => rfl | 7, _ => rfl | 8, _ => rfl | k + 9, h => exact absurd h (by omega)
theorem A9int.set_cell (x : A9int) {k : Nat} (h : k < 9) (v : Int) : ([I x.f0, I x.f1, I x.f2, I x.f3, I x.f4, I x.f5, I x.f6, I x.f7, I x.f8] : List AV).set (0 + k * 1) (I v) = [I (x.set k v).f0, I (x.set k v).f1, I (x.set k v).f2, I (x.set k v).f3, I (x.set k v).f4, I (x.set k v).f5, I (x.set k v).f6, I (x.set k v).f7, I (x.set k v).f8] := by
  match k, h with | 0, _ => rfl | 1, _ => rfl | 2, _ => rfl | 3, _ => rfl | 4, _ => rfl | 5, _ => rfl | 6, _ => rfl | 7, _ => rfl | 8, _ => rfl | k + 9, h => exact absurd h (by omega)
theorem A9int.get_list (x : A9int) {k : Nat} (h : k < 9) : x.list[k]? = some (x.get k) := by
  match k, h with | 0, _ => rfl | 1, _ => rfl | 2, _ => rfl | 3, _ => rfl | 4, _ => rfl | 5, _ => rfl | 6, _ => rfl | 7, _ => rfl | 8, _ => rfl | k + 9, h => exact absurd h (by omega)
theorem A9int.set_list (x : A9int) {k : Nat} (h : k < 9) (v : Int) : (x.set k v).list = x.list.set k v := by
  match k, h with | 0, _ => rfl | 1, _ => rfl | 2, _ => rfl | 3, _ => rfl | 4, _ => rfl | 5, _ => rfl | 6, _ => rfl | 7, _ => rfl | 8, _ => rfl | k + 9, h => exact absurd h (by omega)

def countM_L0 : List GMember → Nat → A9int → Sum (A9int × Bool) A9int
  | [], k0, all0 => .inr all0
  | x0 :: l_, k0, all0 => if groupB x0.Group = true then countM_L0 l_ (k0 + 1) (all0.set x0.Group.toNat (IntKind.i64.wrap ((all0.get x0.Group.toNat) + 1))) else .inl (all0, false)
def countM (l : List GMember) : A9int × Bool :=
  (match countM_L0 l 0 (⟨0, 0, 0, 0, 0, 0, 0, 0, 0⟩ : A9int) with
    | .inl r_ => r_
    | .inr all_0 => (all_0, true))
theorem countM_ok (l : List GMember) (l_f : Bool) : Ok Try.prog 32 [.pv (.slc l.length l_f (l.flatMap encGMember))] [] (.tup [aA9int (countM l).1, B (countM l).2]) [] [] := by
 refine Ok.len fun hlen => ?_
 have hl_l : l.length ≤ maxLen := hlen _ (by simp [lensL, lens, lensP])
 unfold maxLen at hl_l
 refine ok_of_sem Try.func32 rfl ?_
 show Walks Try.prog _ _ ⟨[(0, .pv (.slc l.length l_f (l.flatMap encGMember)))], [], 0, [], 25, 0⟩
 refine sem_seq ?_
 refine sem_region rfl ?_
 refine step_n (o := .box [_, _, _, _, _, _, _, _, _]) (nx' := 1) rfl rfl rfl trivial ?_
 refine step_r rfl rfl trivial ?_
 refine step_nil ?_
 refine seqK_n ?_
 refine sem_seq ?_
 refine sem_seq ?_
 refine sem_region rfl ?_
 refine step_r rfl rfl trivial ?_
 refine step_r rfl rfl trivial ?_
 refine step_r rfl rfl trivial ?_
 refine step_nil ?_
 refine seqK_n ?_
 refine sem_cutW (fun all_0 : A9int => (⟨[(2, .ptr 0 0)], [(0, .box [I all_0.f0, I all_0.f1, I all_0.f2, I all_0.f3, I all_0.f4, I all_0.f5, I all_0.f6, I all_0.f7, I all_0.f8])], 1, [], 25, 0⟩ : St)) (fun w_ => countM_L0 l 0 (⟨0, 0, 0, 0, 0, 0, 0, 0, 0⟩ : A9int) = .inr w_) ?_ ?_
 ·refine sem_block ?_
  refine sem_loopT (fun w_ : Nat × A9int => match w_ with | (k0, all0) => (⟨[(2, .ptr 0 0), (6, .pv (.slc l.length l_f (l.flatMap encGMember))), (7, I l.length), (8, I k0)], [(0, .box [I all0.f0, I all0.f1, I all0.f2, I all0.f3, I all0.f4, I all0.f5, I all0.f6, I all0.f7, I all0.f8])], 1, [], 25, 0⟩ : St)) (fun w_ : Nat × A9int => match w_ with | (k0, all0) => countM_L0 (l.drop k0) k0 all0 = countM_L0 l 0 (⟨0, 0, 0, 0, 0, 0, 0, 0, 0⟩ : A9int) ∧ k0 ≤ l.length) (fun w_ : Nat × A9int => match w_ with | (k0, all0) => l.length - k0) (0, (⟨0, 0, 0, 0, 0, 0, 0, 0, 0⟩ : A9int)) (⟨rfl, Nat.zero_le _⟩) ?_ (fun w_ hh_ => ?_)
  ·exact (Trans.ren [] (by decide +kernel) (by decide +kernel) rfl ⟨⟨rfl, rfl⟩, ⟨rfl, rfl⟩, ⟨rfl, rfl⟩, ⟨rfl, rfl⟩, trivial⟩ ⟨⟨rfl, rfl, rfl⟩, trivial⟩ (by decide))
  obtain ⟨k0, all0⟩ := w_
  obtain ⟨hI0, hb0⟩ := hh_
  show Walks Try.prog _ _ (⟨[(2, .ptr 0 0), (6, .pv (.slc l.length l_f (l.flatMap encGMember))), (7, I l.length), (8, I k0)], [(0, .box [I all0.f0, I all0.f1, I all0.f2, I all0.f3, I all0.f4, I all0.f5, I all0.f6, I all0.f7, I all0.f8])], 1, [], 25, 0⟩ : St)
  refine sem_seq ?_
  refine sem_region rfl ?_
  refine step_bin rfl rfl rfl rfl rfl trivial ?_
  refine step_nil ?_
  refine seqK_n ?_
  refine sem_seq ?_
  refine sem_cond rfl (fun h2 => ?_) (fun h2 => ?_)
  ·have g2 : (k0 : Int) < l.length := of_decide_eq_true h2
   have hk0 : k0 < l.length := by omega
   obtain ⟨x0, hx0⟩ : ∃ z_, l[k0]? = some z_ := ⟨_, List.getElem?_eq_getElem hk0⟩
   refine sem_skip ?_
   refine seqK_n ?_
   refine sem_seq ?_
   refine sem_block ?_
   refine sem_seq ?_
   refine sem_region rfl ?_
   refine step_idxS (k := k0) rfl rfl rfl rfl hk0 (flat_ne (s := 2) (enc := encGMember) (fun _ => rfl) (by decide) hk0) rfl ?_
   refine step_load_row rfl rfl rfl (flat_lt (s := 2) (enc := encGMember) (fun _ => rfl) hk0) (flat_take (s := 2) (enc := encGMember) (fun _ => rfl) hx0) rfl ?_
   refine step_n (o := .box [_, _]) (nx' := 2) rfl rfl rfl trivial ?_
   refine step_store (H' := [(1, .box [_, _]), (0, .box [_, _, _, _, _, _, _, _, _])]) rfl rfl rfl rfl rfl rfl (Nat.le_of_ble_eq_true rfl) (.inl rfl) rfl ?_
   refine step_nil ?_
   refine seqK_n ?_
   refine sem_seq ?_
   refine sem_seq ?_
   refine sem_region rfl ?_
   refine step_r rfl rfl (by decide) ?_
   refine step_r rfl rfl trivial ?_
   refine step_call rfl rfl rfl rfl (groupB_ok x0.Group) rfl rfl rfl ?_
   refine step_r rfl rfl trivial ?_
   refine step_nil ?_
   refine seqK_n ?_
   refine sem_cond rfl (fun h3 => ?_) (fun h3 => ?_)
   ·have g3 : ¬ (groupB x0.Group = true) := boo_f (not_t h3)
    refine sem_seq ?_
    refine sem_region rfl ?_
    refine step_r (v := (.agg [_, _, _, _, _, _, _, _, _])) rfl rfl (Nat.le_of_ble_eq_true rfl) ?_
    refine step_store (H' := [(1, .box [_, _]), (0, .box [_, _, _, _, _, _, _, _, _])]) rfl rfl rfl rfl rfl rfl (Nat.le_of_ble_eq_true rfl) (.inl rfl) rfl ?_
    refine step_r rfl rfl trivial ?_
    refine step_nil ?_
    refine seqK_n ?_
    refine sem_ret ?_
    refine seqK_r ?_
    refine blkK_r ?_
    refine seqK_r ?_
    refine lupK_r ?_
    refine blkK_r ?_
    refine cutW_r ?_
    refine seqK_r ?_
    have e4 : countM_L0 l 0 (⟨0, 0, 0, 0, 0, 0, 0, 0, 0⟩ : A9int) = .inl (all0, false) := by
     rewrite [← hI0, drop_cons hx0]
     rewrite [countM_L0]
     try dsimp only
     rewrite [if_neg g3]
     all_goals rfl
    have e5 : countM l = (all0, false) := by
     unfold countM
     try dsimp only
     rewrite [e4]
     try dsimp only
     all_goals rfl
    rw [e5]
    exact answersR rfl ⟨Nat.le_of_ble_eq_true rfl, trivial, trivial⟩ (rfl) rfl
   ·have g3 : groupB x0.Group = true := (not_f h3)
    have qg3 := groupB_iff.1 g3
    have gg := groupB_iff.1 (not_f (by simpa using h3))
    refine sem_skip ?_
    refine seqK_n ?_
    refine sem_region rfl ?_
    refine step_r rfl rfl (by decide) ?_
    refine step_r rfl rfl trivial ?_
    have jk6 : x0.Group.toNat < 9 := by first | assumption | omega | (simp; omega) | simp_all
    refine step_idxA (k := x0.Group.toNat) rfl rfl (Int.toNat_of_nonneg (by first | omega | (simp only [IntKind.wrap_i64]; omega) | (simp only [IntKind.wrap_i64] at *; omega) | (simp; omega))).symm rfl rfl jk6 rfl ?_
    refine step_load_boxA rfl rfl rfl rfl (A9int.get_cell all0 jk6) rfl ?_
    refine step_bin rfl rfl rfl rfl rfl trivial ?_
    have jk7 : x0.Group.toNat < 9 := by first | assumption | omega | (simp; omega) | simp_all
    refine step_idxA (k := x0.Group.toNat) rfl rfl (Int.toNat_of_nonneg (by first | omega | (simp only [IntKind.wrap_i64]; omega) | (simp only [IntKind.wrap_i64] at *; omega) | (simp; omega))).symm rfl rfl jk7 rfl ?_
    refine step_store_boxA (cs' := [I (all0.set x0.Group.toNat (IntKind.i64.wrap ((all0.get x0.Group.toNat) + 1))).f0, I (all0.set x0.Group.toNat (IntKind.i64.wrap ((all0.get x0.Group.toNat) + 1))).f1, I (all0.set x0.Group.toNat (IntKind.i64.wrap ((all0.get x0.Group.toNat) + 1))).f2, I (all0.set x0.Group.toNat (IntKind.i64.wrap ((all0.get x0.Group.toNat) + 1))).f3, I (all0.set x0.Group.toNat (IntKind.i64.wrap ((all0.get x0.Group.toNat) + 1))).f4, I (all0.set x0.Group.toNat (IntKind.i64.wrap ((all0.get x0.Group.toNat) + 1))).f5, I (all0.set x0.Group.toNat (IntKind.i64.wrap ((all0.get x0.Group.toNat) + 1))).f6, I (all0.set x0.Group.toNat (IntKind.i64.wrap ((all0.get x0.Group.toNat) + 1))).f7, I (all0.set x0.Group.toNat (IntKind.i64.wrap ((all0.get x0.Group.toNat) + 1))).f8]) (H' := [(1, .box [_, _]), (0, .box [_, _, _, _, _, _, _, _, _])]) rfl rfl rfl rfl rfl rfl (by show 0 + x0.Group.toNat * 1 < 9; omega) (A9int.set_cell all0 jk7 _) (.inl rfl) rfl ?_
    refine step_nil ?_
    refine blkK_n ?_
    refine seqK_n ?_
    refine sem_region rfl ?_
    refine step_bin rfl rfl rfl rfl rfl trivial ?_
    refine step_r rfl rfl trivial ?_
    refine step_nil ?_
    have e9 : countM_L0 (l.drop k0) k0 all0 = countM_L0 (l.drop (k0 + 1)) (k0 + 1) (all0.set x0.Group.toNat (IntKind.i64.wrap ((all0.get x0.Group.toNat) + 1))) := by
     rewrite [drop_cons hx0]
     rewrite [countM_L0]
     try dsimp only
     rewrite [if_pos g3]
     all_goals rfl
    exact lup_againT (k0 + 1, (all0.set x0.Group.toNat (IntKind.i64.wrap ((all0.get x0.Group.toNat) + 1)))) ⟨e9.symm.trans hI0, hk0⟩ (by show l.length - (k0 + 1) < l.length - k0; omega) (Trans.ren [] (by decide +kernel) (by decide +kernel) rfl ⟨⟨rfl, rfl⟩, ⟨rfl, rfl⟩, ⟨rfl, rfl⟩, ⟨congrArg (fun n => some (I n)) (wrapI (k := k0) (by first | omega | (simp; omega))), rfl⟩, trivial⟩ ⟨⟨rfl, rfl, rfl⟩, trivial⟩ (by decide))
  ·have g2 : ¬ ((k0 : Int) < l.length) := of_decide_eq_false h2
   have hk0 : k0 = l.length := by omega
   refine sem_exit ?_
   refine seqK_e ?_
   refine lupK_e ?_
   refine blkK_t rfl ?_
   have e10 : countM_L0 l 0 (⟨0, 0, 0, 0, 0, 0, 0, 0, 0⟩ : A9int) = .inr all0 := by
    rewrite [← hI0, hk0, List.drop_length]
    rewrite [countM_L0]
    try dsimp only
    all_goals rfl
   exact cutW_n all0 e10 (Trans.ren [] (by decide +kernel) (by decide +kernel) rfl ⟨⟨rfl, rfl⟩, trivial⟩ ⟨⟨rfl, rfl, rfl⟩, trivial⟩ (by decide))
 ·rintro all_0 (hJ1 : countM_L0 l 0 (⟨0, 0, 0, 0, 0, 0, 0, 0, 0⟩ : A9int) = .inr all_0)
  show seqK _ _ _ .normal (⟨[(2, .ptr 0 0)], [(0, .box [I all_0.f0, I all_0.f1, I all_0.f2, I all_0.f3, I all_0.f4, I all_0.f5, I all_0.f6, I all_0.f7, I all_0.f8])], 1, [], 25, 0⟩ : St)
  refine seqK_n ?_
  refine sem_seq ?_
  refine sem_region rfl ?_
  refine step_r (v := (.agg [_, _, _, _, _, _, _, _, _])) rfl rfl (Nat.le_of_ble_eq_true rfl) ?_
  refine step_store (H' := [(0, .box [_, _, _, _, _, _, _, _, _])]) rfl rfl rfl rfl rfl rfl (Nat.le_of_ble_eq_true rfl) (.inl rfl) rfl ?_
  refine step_r rfl rfl trivial ?_
  refine step_nil ?_
  refine seqK_n ?_
  refine sem_ret ?_
  have e11 : countM l = (all_0, true) := by
   unfold countM
   try dsimp only
   rewrite [hJ1]
   try dsimp only
   all_goals rfl
  rw [e11]
  exact answersR rfl ⟨Nat.le_of_ble_eq_true rfl, trivial, trivial⟩ (rfl) rfl

def rightM_L0 (l : List GMember) : List GMember → Nat → Sum Bool Unit
  | [], k0 => .inr ()
  | x0 :: l_, k0 => if (x0.Unit : Int) < 1 then .inl false else if (findM l x0.Unit : Int) = k0 then rightM_L0 l l_ (k0 + 1) else .inl false
def rightM (l : List GMember) : Bool :=
  if (countM l).2 = true then (if (maxL (((countM l).1).list) : Int) > 5 then false else (match rightM_L0 l l 0 with
    | .inl r_ => r_
    | .inr () => true)) else false
theorem rightM_ok (l : List GMember) (l_f : Bool) : Ok Try.prog 16 [.pv (.slc l.length l_f (l.flatMap encGMember))] [] (B (rightM l)) [] [] := by
 refine Ok.len fun hlen => ?_
 have hl_l : l.length ≤ maxLen := hlen _ (by simp [lensL, lens, lensP])
 unfold maxLen at hl_l
 refine ok_of_sem Try.func16 rfl ?_
 show Walks Try.prog _ _ ⟨[(0, .pv (.slc l.length l_f (l.flatMap encGMember)))], [], 0, [], 38, 0⟩
 refine sem_seq ?_
 refine sem_region rfl ?_
 refine step_r rfl rfl trivial ?_
 refine step_nil ?_
 refine seqK_n ?_
 refine sem_seq ?_
 refine sem_region rfl ?_
 refine step_r rfl rfl trivial ?_
 refine step_call rfl rfl rfl rfl (countM_ok l l_f) rfl rfl rfl ?_
 refine step_r rfl rfl trivial ?_
 refine step_r rfl rfl trivial ?_
 refine step_r rfl rfl trivial ?_
 refine step_n (o := .box [_, _, _, _, _, _, _, _, _]) (nx' := 1) rfl rfl rfl trivial ?_
 refine step_store (H' := [(0, .box [_, _, _, _, _, _, _, _, _])]) rfl rfl rfl rfl rfl rfl (Nat.le_of_ble_eq_true rfl) (.inl rfl) rfl ?_
 refine step_r rfl rfl trivial ?_
 refine step_nil ?_
 refine seqK_n ?_
 refine sem_seq ?_
 refine sem_seq ?_
 refine sem_region rfl ?_
 refine step_r rfl rfl trivial ?_
 refine step_r rfl rfl trivial ?_
 refine step_r rfl rfl trivial ?_
 refine step_gs rfl (fun h3 => ?_) (fun h3 => ?_)
 ·have g3 : ¬ ((countM l).2 = true) := boo_f (not_t h3)
  refine step_g0 rfl h3 rfl ?_
  refine step_g0 rfl h3 rfl ?_
  refine step_g0 rfl h3 rfl ?_
  refine step_pickT rfl h3 rfl rfl ?_
  refine step_nil ?_
  refine seqK_n ?_
  refine sem_condT rfl ?_
  refine sem_seq ?_
  refine sem_region rfl ?_
  refine step_r rfl rfl trivial ?_
  refine step_nil ?_
  refine seqK_n ?_
  refine sem_ret ?_
  refine seqK_r ?_
  have e4 : rightM l = false := by
   unfold rightM
   try dsimp only
   rewrite [if_neg g3]
   all_goals rfl
  rw [e4]
  exact answersR rfl ⟨trivial, trivial⟩ (rfl) rfl
 ·have g3 : (countM l).2 = true := (not_f h3)
  refine step_g1 rfl h3 ?_
  refine step_r rfl rfl ⟨by decide, by decide, by decide, by decide⟩ ?_
  refine step_g1 rfl h3 ?_
  refine step_callJ (Hin := [.box [.pv _, .pv _, .pv _, .pv _, .pv _, .pv _, .pv _, .pv _, .pv _]]) (H' := [(0, .box [_, _, _, _, _, _, _, _, _])]) (nx' := 1) [0] rfl rfl rfl rfl rfl rfl rfl rfl rfl (by (repeat' apply And.intro) <;> first | trivial | rfl | exact flat_len (fun _ => rfl) _ | exact encI_len _ | exact encB_len _ | exact encY_len _ | exact Nat.le_of_ble_eq_true rfl | assumption) (max_Int (((countM l).1).list) false (by first | assumption | exact List.cons_ne_nil _ _ | (intro h; simp_all))) rfl (by decide) rfl rfl trivial rfl rfl rfl rfl ?_
  refine step_g1 rfl h3 ?_
  refine step_bin rfl rfl rfl rfl rfl trivial ?_
  refine step_pickF rfl h3 rfl rfl ?_
  refine step_nil ?_
  refine seqK_n ?_
  refine sem_cond rfl (fun h6 => ?_) (fun h6 => ?_)
  ·have g6 : (maxL (((countM l).1).list) : Int) > 5 := of_decide_eq_true h6
   refine sem_seq ?_
   refine sem_region rfl ?_
   refine step_r rfl rfl trivial ?_
   refine step_nil ?_
   refine seqK_n ?_
   refine sem_ret ?_
   refine seqK_r ?_
   have e7 : rightM l = false := by
    unfold rightM
    try dsimp only
    rewrite [if_pos g3, if_pos g6]
    all_goals rfl
   rw [e7]
   exact answersR rfl ⟨trivial, trivial⟩ (rfl) rfl
  ·have g6 : ¬ ((maxL (((countM l).1).list) : Int) > 5) := of_decide_eq_false h6
   refine sem_skip ?_
   refine seqK_n ?_
   refine sem_seq ?_
   refine sem_seq ?_
   refine sem_region rfl ?_
   refine step_r rfl rfl trivial ?_
   refine step_r rfl rfl trivial ?_
   refine step_r rfl rfl trivial ?_
   refine step_nil ?_
   refine seqK_n ?_
   refine sem_cutW (fun w_ : Unit => match w_ with | () => (⟨[], [], 0, [], 38, 0⟩ : St)) (fun w_ => rightM_L0 l l 0 = .inr w_) ?_ ?_
   ·refine sem_block ?_
    refine sem_loopT (fun k0 : Nat => (⟨[(0, .pv (.slc l.length l_f (l.flatMap encGMember))), (19, .pv (.slc l.length l_f (l.flatMap encGMember))), (20, I l.length), (21, I k0)], [], 0, [], 38, 0⟩ : St)) (fun k0 : Nat => rightM_L0 l (l.drop k0) k0 = rightM_L0 l l 0 ∧ k0 ≤ l.length) (fun k0 : Nat => l.length - k0) 0 (⟨rfl, Nat.zero_le _⟩) ?_ (fun k0 hh_ => ?_)
    ·exact (Trans.ren [] (by decide +kernel) (by decide +kernel) rfl ⟨⟨rfl, rfl⟩, ⟨rfl, rfl⟩, ⟨rfl, rfl⟩, ⟨rfl, rfl⟩, trivial⟩ trivial (by decide))
    obtain ⟨hI0, hb0⟩ := hh_
    show Walks Try.prog _ _ (⟨[(0, .pv (.slc l.length l_f (l.flatMap encGMember))), (19, .pv (.slc l.length l_f (l.flatMap encGMember))), (20, I l.length), (21, I k0)], [], 0, [], 38, 0⟩ : St)
    refine sem_seq ?_
    refine sem_region rfl ?_
    refine step_bin rfl rfl rfl rfl rfl trivial ?_
    refine step_nil ?_
    refine seqK_n ?_
    refine sem_seq ?_
    refine sem_cond rfl (fun h9 => ?_) (fun h9 => ?_)
    ·have g9 : (k0 : Int) < l.length := of_decide_eq_true h9
     have hk0 : k0 < l.length := by omega
     obtain ⟨x0, hx0⟩ : ∃ z_, l[k0]? = some z_ := ⟨_, List.getElem?_eq_getElem hk0⟩
     refine sem_skip ?_
     refine seqK_n ?_
     refine sem_seq ?_
     refine sem_block ?_
     refine sem_seq ?_
     refine sem_region rfl ?_
     refine step_r rfl rfl trivial ?_
     refine step_idxS (k := k0) rfl rfl rfl rfl hk0 (flat_ne (s := 2) (enc := encGMember) (fun _ => rfl) (by decide) hk0) rfl ?_
     refine step_load_row rfl rfl rfl (flat_lt (s := 2) (enc := encGMember) (fun _ => rfl) hk0) (flat_take (s := 2) (enc := encGMember) (fun _ => rfl) hx0) rfl ?_
     refine step_n (o := .box [_, _]) (nx' := 1) rfl rfl rfl trivial ?_
     refine step_r rfl rfl trivial ?_
     refine step_store (H' := [(0, .box [_, _])]) rfl rfl rfl rfl rfl rfl (Nat.le_of_ble_eq_true rfl) (.inl rfl) rfl ?_
     refine step_nil ?_
     refine seqK_n ?_
     refine sem_seq ?_
     refine sem_region rfl ?_
     refine step_r rfl rfl (by decide) ?_
     refine step_r rfl rfl trivial ?_
     refine step_bin rfl rfl rfl rfl rfl trivial ?_
     refine step_r rfl rfl trivial ?_
     refine step_gs rfl (fun h12 => ?_) (fun h12 => ?_)
     ·have g12 : (x0.Unit : Int) < 1 := of_decide_eq_true h12
      refine step_g0 rfl h12 rfl ?_
      refine step_g0 rfl h12 rfl ?_
      refine step_g0 rfl h12 rfl ?_
      refine step_g0 rfl h12 rfl ?_
      refine step_g0 rfl h12 rfl ?_
      refine step_g0 rfl h12 rfl ?_
      refine step_pickT rfl h12 rfl rfl ?_
      refine step_nil ?_
      refine seqK_n ?_
      refine sem_condT rfl ?_
      refine sem_seq ?_
      refine sem_region rfl ?_
      refine step_r rfl rfl trivial ?_
      refine step_nil ?_
      refine seqK_n ?_
      refine sem_ret ?_
      refine blkK_r ?_
      refine seqK_r ?_
      refine lupK_r ?_
      refine blkK_r ?_
      refine cutW_r ?_
      refine seqK_r ?_
      have e13 : rightM_L0 l l 0 = .inl false := by
       rewrite [← hI0, drop_cons hx0]
       rewrite [rightM_L0]
       try dsimp only
       rewrite [if_pos g12]
       all_goals rfl
      have e14 : rightM l = false := by
       unfold rightM
       try dsimp only
       rewrite [if_pos g3, if_neg g6, e13]
       try dsimp only
       all_goals rfl
      rw [e14]
      exact answersR rfl ⟨trivial, trivial⟩ (rfl) rfl
     ·have g12 : ¬ ((x0.Unit : Int) < 1) := of_decide_eq_false h12
      refine step_g1 rfl h12 ?_
      refine step_r rfl rfl trivial ?_
      refine step_g1 rfl h12 ?_
      refine step_r rfl rfl (by decide) ?_
      refine step_g1 rfl h12 ?_
      refine step_r rfl rfl trivial ?_
      refine step_g1 rfl h12 ?_
      refine step_call rfl rfl rfl rfl (findM_ok l l_f x0.Unit) rfl rfl rfl ?_
      have p15 := findM_lt l x0.Unit
      refine step_g1 rfl h12 ?_
      refine step_r rfl rfl trivial ?_
      refine step_g1 rfl h12 ?_
      refine step_bin rfl rfl rfl rfl rfl trivial ?_
      refine step_pickF rfl h12 rfl rfl ?_
      refine step_nil ?_
      refine seqK_n ?_
      refine sem_cond rfl (fun h17 => ?_) (fun h17 => ?_)
      ·have g17 : ¬ ((findM l x0.Unit : Int) = k0) := bne_t h17
       refine sem_seq ?_
       refine sem_region rfl ?_
       refine step_r rfl rfl trivial ?_
       refine step_nil ?_
       refine seqK_n ?_
       refine sem_ret ?_
       refine blkK_r ?_
       refine seqK_r ?_
       refine lupK_r ?_
       refine blkK_r ?_
       refine cutW_r ?_
       refine seqK_r ?_
       have e18 : rightM_L0 l l 0 = .inl false := by
        rewrite [← hI0, drop_cons hx0]
        rewrite [rightM_L0]
        try dsimp only
        rewrite [if_neg g12, if_neg g17]
        all_goals rfl
       have e19 : rightM l = false := by
        unfold rightM
        try dsimp only
        rewrite [if_pos g3, if_neg g6, e18]
        try dsimp only
        all_goals rfl
       rw [e19]
       exact answersR rfl ⟨trivial, trivial⟩ (rfl) rfl
      ·have g17 : (findM l x0.Unit : Int) = k0 := bne_f h17
       refine sem_skip ?_
       refine blkK_n ?_
       refine seqK_n ?_
       refine sem_region rfl ?_
       refine step_bin rfl rfl rfl rfl rfl trivial ?_
       refine step_r rfl rfl trivial ?_
       refine step_nil ?_
       have e21 : rightM_L0 l (l.drop k0) k0 = rightM_L0 l (l.drop (k0 + 1)) (k0 + 1) := by
        rewrite [drop_cons hx0]
        rewrite [rightM_L0]
        try dsimp only
        rewrite [if_neg g12, if_pos g17]
        all_goals rfl
       exact lup_againT (k0 + 1) ⟨e21.symm.trans hI0, hk0⟩ (by show l.length - (k0 + 1) < l.length - k0; omega) (Trans.ren [] (by decide +kernel) (by decide +kernel) rfl ⟨⟨rfl, rfl⟩, ⟨rfl, rfl⟩, ⟨rfl, rfl⟩, ⟨congrArg (fun n => some (I n)) (wrapI (k := k0) (by first | omega | (simp; omega))), rfl⟩, trivial⟩ trivial (by decide))
    ·have g9 : ¬ ((k0 : Int) < l.length) := of_decide_eq_false h9
     have hk0 : k0 = l.length := by omega
     refine sem_exit ?_
     refine seqK_e ?_
     refine lupK_e ?_
     refine blkK_t rfl ?_
     have e22 : rightM_L0 l l 0 = .inr () := by
      rewrite [← hI0, hk0, List.drop_length]
      rewrite [rightM_L0]
      try dsimp only
      all_goals rfl
     exact cutW_n () e22 (Trans.ren [] (by decide +kernel) (by decide +kernel) rfl trivial trivial (by decide))
   ·rintro ⟨⟩ (hJ8 : rightM_L0 l l 0 = .inr ())
    show seqK _ _ _ .normal (⟨[], [], 0, [], 38, 0⟩ : St)
    refine seqK_n ?_
    refine sem_seq ?_
    refine sem_region rfl ?_
    refine step_r rfl rfl trivial ?_
    refine step_nil ?_
    refine seqK_n ?_
    refine sem_ret ?_
    have e23 : rightM l = true := by
     unfold rightM
     try dsimp only
     rewrite [if_pos g3, if_neg g6, hJ8]
     try dsimp only
     all_goals rfl
    rw [e23]
    exact answersR rfl ⟨trivial, trivial⟩ (rfl) rfl

def roomM_L0 (l : List GMember) : Nat → Nat → Sum Int Unit
  | 0, k0 => .inr ()
  | n_ + 1, k0 => if (((countM l).1).get k0 : Int) < 5 then .inl (k0 : Int) else roomM_L0 l n_ (k0 + 1)
def roomM (l : List GMember) : Int :=
  (match roomM_L0 l (9 - 1) 1 with
    | .inl r_ => r_
    | .inr () => 0)
theorem roomM_ok (l : List GMember) (l_f : Bool) : Ok Try.prog 26 [.pv (.slc l.length l_f (l.flatMap encGMember))] [] (I (roomM l)) [] [] := by
 refine Ok.len fun hlen => ?_
 have hl_l : l.length ≤ maxLen := hlen _ (by simp [lensL, lens, lensP])
 unfold maxLen at hl_l
 refine ok_of_sem Try.func26 rfl ?_
 show Walks Try.prog _ _ ⟨[(0, .pv (.slc l.length l_f (l.flatMap encGMember)))], [], 0, [], 20, 0⟩
 refine sem_seq ?_
 refine sem_region rfl ?_
 refine step_r rfl rfl trivial ?_
 refine step_nil ?_
 refine seqK_n ?_
 refine sem_seq ?_
 refine sem_region rfl ?_
 refine step_r rfl rfl trivial ?_
 refine step_call rfl rfl rfl rfl (countM_ok l l_f) rfl rfl rfl ?_
 refine step_r rfl rfl trivial ?_
 refine step_r rfl rfl trivial ?_
 refine step_r rfl rfl trivial ?_
 refine step_n (o := .box [_, _, _, _, _, _, _, _, _]) (nx' := 1) rfl rfl rfl trivial ?_
 refine step_store (H' := [(0, .box [_, _, _, _, _, _, _, _, _])]) rfl rfl rfl rfl rfl rfl (Nat.le_of_ble_eq_true rfl) (.inl rfl) rfl ?_
 refine step_r rfl rfl trivial ?_
 refine step_nil ?_
 refine seqK_n ?_
 refine sem_seq ?_
 refine sem_seq ?_
 refine sem_region rfl ?_
 refine step_r rfl rfl trivial ?_
 refine step_nil ?_
 refine seqK_n ?_
 refine sem_cutW (fun w_ : Unit => match w_ with | () => (⟨[], [], 0, [], 20, 0⟩ : St)) (fun w_ => roomM_L0 l (9 - 1) 1 = .inr w_) ?_ ?_
 ·refine sem_block ?_
  refine sem_loopT (fun k0 : Nat => (⟨[(3, .ptr 0 0), (5, I k0)], [(0, .box [I ((countM l).1).f0, I ((countM l).1).f1, I ((countM l).1).f2, I ((countM l).1).f3, I ((countM l).1).f4, I ((countM l).1).f5, I ((countM l).1).f6, I ((countM l).1).f7, I ((countM l).1).f8])], 1, [], 20, 0⟩ : St)) (fun k0 : Nat => roomM_L0 l (9 - k0) k0 = roomM_L0 l (9 - 1) 1 ∧ k0 ≤ 9) (fun k0 : Nat => 9 - k0) 1 (⟨rfl, (by first | omega | (simp; omega))⟩) ?_ (fun k0 hh_ => ?_)
  ·exact (Trans.ren [] (by decide +kernel) (by decide +kernel) rfl ⟨⟨rfl, rfl⟩, ⟨rfl, rfl⟩, trivial⟩ ⟨⟨rfl, rfl, rfl⟩, trivial⟩ (by decide))
  obtain ⟨hI0, hb0⟩ := hh_
  show Walks Try.prog _ _ (⟨[(3, .ptr 0 0), (5, I k0)], [(0, .box [I ((countM l).1).f0, I ((countM l).1).f1, I ((countM l).1).f2, I ((countM l).1).f3, I ((countM l).1).f4, I ((countM l).1).f5, I ((countM l).1).f6, I ((countM l).1).f7, I ((countM l).1).f8])], 1, [], 20, 0⟩ : St)
  refine sem_seq ?_
  refine sem_seq ?_
  refine sem_region rfl ?_
  refine step_r rfl rfl trivial ?_
  refine step_bin rfl rfl rfl rfl rfl trivial ?_
  refine step_nil ?_
  refine seqK_n ?_
  refine sem_cond rfl (fun h4 => ?_) (fun h4 => ?_)
  ·have g4 : (k0 : Int) ≤ 8 := of_decide_eq_true h4
   have hm0 : 9 - k0 = (9 - (k0 + 1)) + 1 := by omega
   refine sem_skip ?_
   refine seqK_n ?_
   refine sem_seq ?_
   refine sem_block ?_
   refine sem_seq ?_
   refine sem_region rfl ?_
   refine step_r rfl rfl trivial ?_
   have jk5 : k0 < 9 := by first | assumption | omega | (simp; omega) | simp_all
   refine step_idxA (k := k0) rfl rfl rfl rfl rfl jk5 rfl ?_
   refine step_load_boxA rfl rfl rfl rfl (A9int.get_cell ((countM l).1) jk5) rfl ?_
   refine step_bin rfl rfl rfl rfl rfl trivial ?_
   refine step_nil ?_
   refine seqK_n ?_
   refine sem_cond rfl (fun h6 => ?_) (fun h6 => ?_)
   ·have g6 : (((countM l).1).get k0 : Int) < 5 := of_decide_eq_true h6
    refine sem_seq ?_
    refine sem_region rfl ?_
    refine step_r rfl rfl trivial ?_
    refine step_r rfl rfl trivial ?_
    refine step_nil ?_
    refine seqK_n ?_
    refine sem_ret ?_
    refine blkK_r ?_
    refine seqK_r ?_
    refine lupK_r ?_
    refine blkK_r ?_
    refine cutW_r ?_
    refine seqK_r ?_
    have e7 : roomM_L0 l (9 - 1) 1 = .inl (k0 : Int) := by
     rewrite [← hI0, hm0]
     rewrite [roomM_L0]
     try dsimp only
     rewrite [if_pos g6]
     all_goals rfl
    have e8 : roomM l = (k0 : Int) := by
     unfold roomM
     try dsimp only
     rewrite [e7]
     try dsimp only
     all_goals rfl
    rw [e8]
    exact answersR rfl ⟨trivial, trivial⟩ (rfl) rfl
   ·have g6 : ¬ ((((countM l).1).get k0 : Int) < 5) := of_decide_eq_false h6
    refine sem_skip ?_
    refine blkK_n ?_
    refine seqK_n ?_
    refine sem_region rfl ?_
    refine step_r rfl rfl trivial ?_
    refine step_bin rfl rfl rfl rfl rfl trivial ?_
    refine step_r rfl rfl trivial ?_
    refine step_nil ?_
    have e10 : roomM_L0 l (9 - k0) k0 = roomM_L0 l (9 - (k0 + 1)) (k0 + 1) := by
     rewrite [hm0]
     rewrite [roomM_L0]
     try dsimp only
     rewrite [if_neg g6]
     all_goals rfl
    exact lup_againT (k0 + 1) ⟨e10.symm.trans hI0, (by omega)⟩ (by show 9 - (k0 + 1) < 9 - k0; omega) (Trans.ren [] (by decide +kernel) (by decide +kernel) rfl ⟨⟨rfl, rfl⟩, ⟨congrArg (fun n => some (I n)) (wrapI (k := k0) (by first | omega | (simp; omega))), rfl⟩, trivial⟩ ⟨⟨rfl, rfl, rfl⟩, trivial⟩ (by decide))
  ·have g4 : ¬ ((k0 : Int) ≤ 8) := of_decide_eq_false h4
   have hm0 : 9 - k0 = 0 := by omega
   refine sem_exit ?_
   refine seqK_e ?_
   refine lupK_e ?_
   refine blkK_t rfl ?_
   have e11 : roomM_L0 l (9 - 1) 1 = .inr () := by
    rewrite [← hI0, hm0]
    rewrite [roomM_L0]
    try dsimp only
    all_goals rfl
   exact cutW_n () e11 (Trans.ren [] (by decide +kernel) (by decide +kernel) rfl trivial trivial (by decide))
 ·rintro ⟨⟩ (hJ2 : roomM_L0 l (9 - 1) 1 = .inr ())
  show seqK _ _ _ .normal (⟨[], [], 0, [], 20, 0⟩ : St)
  refine seqK_n ?_
  refine sem_seq ?_
  refine sem_region rfl ?_
  refine step_r rfl rfl trivial ?_
  refine step_nil ?_
  refine seqK_n ?_
  refine sem_ret ?_
  have e12 : roomM l = 0 := by
   unfold roomM
   try dsimp only
   rewrite [hJ2]
   try dsimp only
   all_goals rfl
  rw [e12]
  exact answersR rfl ⟨trivial, trivial⟩ (rfl) rfl

def joinM_J9 (l : List GMember) (unit : Int) : Bool :=
  if rightM l = true then (decide ((unit : Int) < 1)) else (!(rightM l))
def joinM (l : List GMember) (unit : Int) : (List GMember) × Int × Int :=
  (let t8_9 := joinM_J9 l unit; if t8_9 = true then ([], 0, 1) else if (findM l unit : Int) ≥ 0 then ([], 0, 7) else if (roomM l : Int) = 0 then ([], 0, 4) else ((l ++ [(⟨unit, (roomM l)⟩ : GMember)]), (roomM l), 0))
theorem joinM_ok (l : List GMember) (l_f : Bool) (unit : Int) (hl : l.length ≤ 16777215) : Ok Try.prog 7 [.pv (.slc l.length l_f (l.flatMap encGMember)), I unit] [] (.tup [.ref 0 2 0 (joinM l unit).1.length, I (joinM l unit).2.1, I (joinM l unit).2.2]) [.row 31 2 ((joinM l unit).1.flatMap encGMember)] [] := by
 refine Ok.len fun hlen => ?_
 have hl_l : l.length ≤ maxLen := hlen _ (by simp [lensL, lens, lensP])
 unfold maxLen at hl_l
 refine ok_of_sem Try.func7 rfl ?_
 show Walks Try.prog _ _ ⟨[(0, .pv (.slc l.length l_f (l.flatMap encGMember))), (1, I unit)], [], 0, [], 31, 0⟩
 refine sem_seq ?_
 refine sem_region rfl ?_
 refine step_n (nx' := 1) rfl rfl rfl trivial ?_
 refine step_r rfl rfl trivial ?_
 refine step_r rfl rfl trivial ?_
 refine step_nil ?_
 refine seqK_n ?_
 refine sem_seq ?_
 refine sem_block ?_
 refine sem_seq ?_
 refine sem_cutW (fun t8_9 : Bool => (⟨[(0, .pv (.slc l.length l_f (l.flatMap encGMember))), (1, I unit), (8, B t8_9)], [], 0, [], 31, 0⟩ : St)) (fun w_ => joinM_J9 l unit = w_) ?_ ?_
 ·refine sem_seq ?_
  refine sem_region rfl ?_
  refine step_r rfl rfl trivial ?_
  refine step_call rfl rfl rfl rfl (rightM_ok l l_f) rfl rfl rfl ?_
  refine step_r rfl rfl trivial ?_
  refine step_r rfl rfl trivial ?_
  refine step_nil ?_
  refine seqK_n ?_
  refine sem_cond rfl (fun h3 => ?_) (fun h3 => ?_)
  ·have g3 : ¬ (rightM l = true) := boo_f (not_t h3)
   refine sem_skip ?_
   have e4 : joinM_J9 l unit = (!(rightM l)) := by
    unfold joinM_J9
    try dsimp only
    rewrite [if_neg g3]
    all_goals rfl
   exact cutW_n (!(rightM l)) e4 (Trans.ren [] (by decide +kernel) (by decide +kernel) rfl ⟨⟨rfl, rfl⟩, ⟨rfl, rfl⟩, ⟨rfl, rfl⟩, trivial⟩ trivial (by decide))
  ·have g3 : rightM l = true := (not_f h3)
   refine sem_region rfl ?_
   refine step_r rfl rfl trivial ?_
   refine step_bin rfl rfl rfl rfl rfl trivial ?_
   refine step_r rfl rfl trivial ?_
   refine step_nil ?_
   have e7 : joinM_J9 l unit = (decide ((unit : Int) < 1)) := by
    unfold joinM_J9
    try dsimp only
    rewrite [if_pos g3]
    all_goals rfl
   exact cutW_n (decide ((unit : Int) < 1)) e7 (Trans.ren [] (by decide +kernel) (by decide +kernel) rfl ⟨⟨rfl, rfl⟩, ⟨rfl, rfl⟩, ⟨rfl, rfl⟩, trivial⟩ trivial (by decide))
 ·rintro t8_9 (hJ1 : joinM_J9 l unit = t8_9)
  show seqK _ _ _ .normal (⟨[(0, .pv (.slc l.length l_f (l.flatMap encGMember))), (1, I unit), (8, B t8_9)], [], 0, [], 31, 0⟩ : St)
  refine seqK_n ?_
  refine sem_cond rfl (fun h8 => ?_) (fun h8 => ?_)
  ·have g8 : t8_9 = true := h8
   refine sem_seq ?_
   refine sem_region rfl ?_
   refine step_n (nx' := 1) rfl rfl rfl trivial ?_
   refine step_r rfl rfl trivial ?_
   refine step_r rfl rfl trivial ?_
   refine step_nil ?_
   refine seqK_n ?_
   refine sem_ret ?_
   refine blkK_r ?_
   refine seqK_r ?_
   have e9 : joinM l unit = ([], 0, 1) := by
    unfold joinM
    try dsimp only
    rewrite [hJ1]
    try dsimp only
    rewrite [if_pos g8]
    all_goals rfl
   rw [e9]
   exact answersGR [] [0] rfl ⟨trivial, trivial, trivial, trivial⟩ rfl (by (repeat' apply And.intro) <;> first | trivial | rfl | exact flat_len (fun _ => rfl) _ | exact encI_len _ | exact encB_len _ | exact encY_len _ | assumption) (rfl) rfl rfl rfl (by decide) rfl rfl ⟨⟨rfl, rfl⟩, trivial⟩
  ·have g8 : ¬ (t8_9 = true) := boo_f h8
   refine sem_seq ?_
   refine sem_region rfl ?_
   refine step_r rfl rfl trivial ?_
   refine step_r rfl rfl trivial ?_
   refine step_call rfl rfl rfl rfl (findM_ok l l_f unit) rfl rfl rfl ?_
   have p11 := findM_lt l unit
   refine step_bin rfl rfl rfl rfl rfl trivial ?_
   refine step_r rfl rfl trivial ?_
   refine step_nil ?_
   refine seqK_n ?_
   refine sem_cond rfl (fun h13 => ?_) (fun h13 => ?_)
   ·have g13 : (findM l unit : Int) ≥ 0 := of_decide_eq_true h13
    refine sem_seq ?_
    refine sem_region rfl ?_
    refine step_n (nx' := 1) rfl rfl rfl trivial ?_
    refine step_r rfl rfl trivial ?_
    refine step_r rfl rfl trivial ?_
    refine step_nil ?_
    refine seqK_n ?_
    refine sem_ret ?_
    refine blkK_r ?_
    refine seqK_r ?_
    have e14 : joinM l unit = ([], 0, 7) := by
     unfold joinM
     try dsimp only
     rewrite [hJ1]
     try dsimp only
     rewrite [if_neg g8, if_pos g13]
     all_goals rfl
    rw [e14]
    exact answersGR [] [0] rfl ⟨trivial, trivial, trivial, trivial⟩ rfl (by (repeat' apply And.intro) <;> first | trivial | rfl | exact flat_len (fun _ => rfl) _ | exact encI_len _ | exact encB_len _ | exact encY_len _ | assumption) (rfl) rfl rfl rfl (by decide) rfl rfl ⟨⟨rfl, rfl⟩, trivial⟩
   ·have g13 : ¬ ((findM l unit : Int) ≥ 0) := of_decide_eq_false h13
    refine sem_skip ?_
    refine blkK_n ?_
    refine seqK_n ?_
    refine sem_seq ?_
    refine sem_region rfl ?_
    refine step_r rfl rfl trivial ?_
    refine step_call rfl rfl rfl rfl (roomM_ok l l_f) rfl rfl rfl ?_
    refine step_r rfl rfl trivial ?_
    refine step_nil ?_
    refine seqK_n ?_
    refine sem_seq ?_
    refine sem_seq ?_
    refine sem_region rfl ?_
    refine step_r rfl rfl trivial ?_
    refine step_bin rfl rfl rfl rfl rfl trivial ?_
    refine step_nil ?_
    refine seqK_n ?_
    refine sem_cond rfl (fun h16 => ?_) (fun h16 => ?_)
    ·have g16 : (roomM l : Int) = 0 := beq_t h16
     refine sem_seq ?_
     refine sem_region rfl ?_
     refine step_n (nx' := 1) rfl rfl rfl trivial ?_
     refine step_r rfl rfl trivial ?_
     refine step_r rfl rfl trivial ?_
     refine step_nil ?_
     refine seqK_n ?_
     refine sem_ret ?_
     refine seqK_r ?_
     have e17 : joinM l unit = ([], 0, 4) := by
      unfold joinM
      try dsimp only
      rewrite [hJ1]
      try dsimp only
      rewrite [if_neg g8, if_neg g13, if_pos g16]
      all_goals rfl
     rw [e17]
     exact answersGR [] [0] rfl ⟨trivial, trivial, trivial, trivial⟩ rfl (by (repeat' apply And.intro) <;> first | trivial | rfl | exact flat_len (fun _ => rfl) _ | exact encI_len _ | exact encB_len _ | exact encY_len _ | assumption) (rfl) rfl rfl rfl (by decide) rfl rfl ⟨⟨rfl, rfl⟩, trivial⟩
    ·have g16 : ¬ ((roomM l : Int) = 0) := beq_f h16
     refine sem_skip ?_
     refine seqK_n ?_
     refine sem_seq ?_
     refine sem_region rfl ?_
     refine step_r rfl rfl trivial ?_
     refine step_callJ (Hin := []) (out' := .ref 0 _ _ _) (H' := [(0, .row _ _ _)]) (nx' := 1) [] rfl rfl rfl rfl rfl rfl rfl rfl rfl (by (repeat' apply And.intro) <;> first | trivial | rfl | exact flat_len (fun _ => rfl) _ | exact encI_len _ | exact encB_len _ | exact encY_len _ | exact Nat.le_of_ble_eq_true rfl | assumption) (clone_GMember l false (by first | assumption | omega | (simp; omega) | simp_all)) rfl (by decide) rfl rfl ⟨encGMember_solid, trivial⟩ rfl rfl rfl rfl ?_
     refine step_r rfl rfl trivial ?_
     refine step_r rfl rfl trivial ?_
     refine step_r (v := (.agg [_, _])) rfl rfl trivial ?_
     refine step_n (o := .row _ _ [_, _]) (nx' := 2) rfl rfl rfl (by decide) ?_
     refine step_appendC (m := 1) (new := [_, _]) (cs' := (l ++ [(⟨unit, (roomM l)⟩ : GMember)]).flatMap encGMember) (n' := (l ++ [(⟨unit, (roomM l)⟩ : GMember)]).length) (H' := [(1, .row _ _ _), (0, .row _ _ _)]) rfl rfl rfl (rfl) rfl rfl rfl rfl rfl rfl (flat_len (s := 2) (enc := encGMember) (fun _ => rfl) l) (rfl) (by first | decide | (unfold maxGrow; omega) | (unfold maxGrow; simp; omega) | (unfold maxGrow; simp only [List.length_append, List.length_take, List.length_drop, List.length_cons, List.length_nil, IntKind.wrap_i64] at *; omega)) (len_snoc l _) (((flat_snoc (enc := encGMember) (l := l) (⟨unit, (roomM l)⟩ : GMember))).symm) (.inl rfl) rfl rfl (.keep rfl (.keep rfl .nil)) (.keep rfl (.keep rfl (.keep rfl (.keep rfl (.lose (v' := .undef) rfl (.keep rfl (.keep rfl (.keep rfl (.keep rfl (.keep rfl (.keep rfl (.keep rfl (.keep rfl (.keep rfl (.keep rfl (.keep rfl (.keep rfl (.keep rfl (.keep rfl .nil))))))))))))))))))) ?_
     refine step_r rfl rfl trivial ?_
     refine step_r rfl rfl trivial ?_
     refine step_r rfl rfl trivial ?_
     refine step_r rfl rfl trivial ?_
     refine step_nil ?_
     refine seqK_n ?_
     refine sem_ret ?_
     have e18 : joinM l unit = ((l ++ [(⟨unit, (roomM l)⟩ : GMember)]), (roomM l), 0) := by
      unfold joinM
      try dsimp only
      rewrite [hJ1]
      try dsimp only
      rewrite [if_neg g8, if_neg g13, if_neg g16]
      all_goals rfl
     rw [e18]
     exact answersGR [] [0] rfl ⟨trivial, trivial, trivial, trivial⟩ rfl (by (repeat' apply And.intro) <;> first | trivial | rfl | exact flat_len (fun _ => rfl) _ | exact encI_len _ | exact encB_len _ | exact encY_len _ | assumption) (rfl) rfl rfl rfl (by decide) rfl rfl ⟨⟨rfl, rfl⟩, trivial⟩

def leaveM (l : List GMember) (unit : Int) : (List GMember) × Bool :=
  if (findM l unit : Int) < 0 then (l, false) else ((l.take (findM l unit).toNat ++ l.drop (IntKind.i64.wrap ((findM l unit) + 1)).toNat), true)
theorem leaveM_ok (l : List GMember) (l_f : Bool) (unit : Int) (hl : l.length ≤ 16777215) : Ok Try.prog 10 [.pv (.slc l.length l_f (l.flatMap encGMember)), I unit] [] (.tup [.ref 0 2 0 (leaveM l unit).1.length, B (leaveM l unit).2]) [.row 31 2 ((leaveM l unit).1.flatMap encGMember)] [] := by
 refine Ok.len fun hlen => ?_
 have hl_l : l.length ≤ maxLen := hlen _ (by simp [lensL, lens, lensP])
 unfold maxLen at hl_l
 refine ok_of_sem Try.func10 rfl ?_
 show Walks Try.prog _ _ ⟨[(0, .pv (.slc l.length l_f (l.flatMap encGMember))), (1, I unit)], [], 0, [], 21, 0⟩
 refine sem_seq ?_
 refine sem_region rfl ?_
 refine step_n (nx' := 1) rfl rfl rfl trivial ?_
 refine step_r rfl rfl trivial ?_
 refine step_nil ?_
 refine seqK_n ?_
 refine sem_seq ?_
 refine sem_region rfl ?_
 refine step_r rfl rfl trivial ?_
 refine step_callJ (Hin := []) (out' := .ref 1 _ _ _) (H' := [(1, .row _ _ _), (0, .row _ _ _)]) (nx' := 2) [] rfl rfl rfl rfl rfl rfl rfl rfl rfl (by (repeat' apply And.intro) <;> first | trivial | rfl | exact flat_len (fun _ => rfl) _ | exact encI_len _ | exact encB_len _ | exact encY_len _ | exact Nat.le_of_ble_eq_true rfl | assumption) (clone_GMember l false (by first | assumption | omega | (simp; omega) | simp_all)) rfl (by decide) rfl rfl ⟨encGMember_solid, trivial⟩ rfl rfl rfl rfl ?_
 refine step_r rfl rfl trivial ?_
 refine step_nil ?_
 refine seqK_n ?_
 refine sem_seq ?_
 refine sem_region rfl ?_
 refine step_r rfl rfl trivial ?_
 refine step_r rfl rfl trivial ?_
 refine step_callJ (Hin := [.row _ _ _]) (H' := [(1, .row _ _ _), (0, .row _ _ _)]) (nx' := 2) [1] rfl rfl rfl rfl rfl rfl rfl rfl rfl (by (repeat' apply And.intro) <;> first | trivial | rfl | exact flat_len (s := 2) (enc := encGMember) (fun _ => rfl) _ | exact flat_len (fun _ => rfl) _ | exact encI_len _ | exact encB_len _ | exact encY_len _ | exact Nat.le_of_ble_eq_true rfl | assumption) (findM_ok l false unit) rfl (by decide) rfl rfl trivial rfl rfl rfl rfl ?_
 have p2 := findM_lt l unit
 refine step_r rfl rfl trivial ?_
 refine step_nil ?_
 refine seqK_n ?_
 refine sem_seq ?_
 refine sem_seq ?_
 refine sem_region rfl ?_
 refine step_r rfl rfl trivial ?_
 refine step_bin rfl rfl rfl rfl rfl trivial ?_
 refine step_nil ?_
 refine seqK_n ?_
 refine sem_cond rfl (fun h4 => ?_) (fun h4 => ?_)
 ·have g4 : (findM l unit : Int) < 0 := of_decide_eq_true h4
  refine sem_seq ?_
  refine sem_region rfl ?_
  refine step_r rfl rfl trivial ?_
  refine step_r rfl rfl trivial ?_
  refine step_r rfl rfl trivial ?_
  refine step_nil ?_
  refine seqK_n ?_
  refine sem_ret ?_
  refine seqK_r ?_
  have e5 : leaveM l unit = (l, false) := by
   unfold leaveM
   try dsimp only
   rewrite [if_pos g4]
   all_goals rfl
  rw [e5]
  exact answersGR [] [1] rfl ⟨trivial, trivial, trivial⟩ rfl (by (repeat' apply And.intro) <;> first | trivial | rfl | exact flat_len (fun _ => rfl) _ | exact encI_len _ | exact encB_len _ | exact encY_len _ | assumption) (rfl) rfl rfl rfl (by decide) rfl rfl ⟨⟨rfl, rfl⟩, trivial⟩
 ·have g4 : ¬ ((findM l unit : Int) < 0) := of_decide_eq_false h4
  refine sem_skip ?_
  refine seqK_n ?_
  refine sem_seq ?_
  refine sem_region rfl ?_
  refine step_r rfl rfl trivial ?_
  refine step_r rfl rfl trivial ?_
  refine step_r rfl rfl trivial ?_
  refine step_bin rfl rfl rfl rfl rfl trivial ?_
  refine step_callM (Hin := [.row _ _ _]) (out' := .ref 1 _ _ _) (H' := [(1, .row _ _ _), (0, .row _ _ _)]) (nx' := 2) [1] rfl rfl rfl rfl (.inl rfl) rfl rfl rfl rfl (delete_GMember l (findM l unit) (IntKind.i64.wrap ((findM l unit) + 1)) (by first | omega | (simp only [IntKind.wrap_i64]; omega) | (simp only [IntKind.wrap_i64] at *; omega) | (simp; omega)) (by first | omega | (simp only [IntKind.wrap_i64]; omega) | (simp only [IntKind.wrap_i64] at *; omega) | (simp; omega)) (by first | omega | (simp only [IntKind.wrap_i64]; omega) | (simp only [IntKind.wrap_i64] at *; omega) | (simp; omega)) (by first | omega | (simp only [IntKind.wrap_i64]; omega) | (simp only [IntKind.wrap_i64] at *; omega) | (simp; omega))) rfl (by decide) rfl rfl rfl rfl rfl ?_
  refine step_r rfl rfl trivial ?_
  refine step_r rfl rfl trivial ?_
  refine step_nil ?_
  refine seqK_n ?_
  refine sem_ret ?_
  have e6 : leaveM l unit = ((l.take (findM l unit).toNat ++ l.drop (IntKind.i64.wrap ((findM l unit) + 1)).toNat), true) := by
   unfold leaveM
   try dsimp only
   rewrite [if_neg g4]
   all_goals rfl
  rw [e6]
  exact answersGR [] [1] rfl ⟨trivial, trivial, trivial⟩ rfl (by (repeat' apply And.intro) <;> first | trivial | rfl | exact flat_len (fun _ => rfl) _ | exact encI_len _ | exact encB_len _ | exact encY_len _ | assumption) (rfl) rfl rfl rfl (by decide) rfl rfl ⟨⟨rfl, rfl⟩, trivial⟩

theorem joinM_len (l : List GMember) (u : Int) : (joinM l u).1.length ≤ l.length + 1 := by
  unfold joinM
  dsimp only
  repeat' split
  all_goals simp
theorem leaveM_len (l : List GMember) (u : Int) (hl : l.length ≤ 16777215) : (leaveM l u).1.length ≤ l.length := by
  unfold leaveM
  have := findM_lt l u
  split
  · simp
  · simp only [IntKind.wrap_i64, List.length_append, List.length_take, List.length_drop]; omega

def moveM (l : List GMember) (unit : Int) (to : Int) : (List GMember) × Int :=
  if rightM l = true then (if groupB to = true then (if (findM l unit : Int) < 0 then ([], 5) else if ((l.getD ((findM l unit).toNat) default).Group : Int) = to then ([], 7) else if (((countM l).1).get to.toNat : Int) ≥ 5 then ([], 4) else ((l.set (findM l unit).toNat { (l.getD ((findM l unit).toNat) default) with Group := to }), 0)) else ([], 1)) else ([], 1)
theorem moveM_ok (l : List GMember) (l_f : Bool) (unit : Int) (to : Int) (hl : l.length ≤ 16777215) : Ok Try.prog 12 [.pv (.slc l.length l_f (l.flatMap encGMember)), I unit, I to] [] (.tup [.ref 0 2 0 (moveM l unit to).1.length, I (moveM l unit to).2]) [.row 31 2 ((moveM l unit to).1.flatMap encGMember)] [] := by
 refine Ok.len fun hlen => ?_
 have hl_l : l.length ≤ maxLen := hlen _ (by simp [lensL, lens, lensP])
 unfold maxLen at hl_l
 refine ok_of_sem Try.func12 rfl ?_
 show Walks Try.prog _ _ ⟨[(0, .pv (.slc l.length l_f (l.flatMap encGMember))), (1, I unit), (2, I to)], [], 0, [], 52, 0⟩
 refine sem_seq ?_
 refine sem_region rfl ?_
 refine step_n (nx' := 1) rfl rfl rfl trivial ?_
 refine step_r rfl rfl trivial ?_
 refine step_nil ?_
 refine seqK_n ?_
 refine sem_seq ?_
 refine sem_seq ?_
 refine sem_region rfl ?_
 refine step_r rfl rfl trivial ?_
 refine step_call rfl rfl rfl rfl (rightM_ok l l_f) rfl rfl rfl ?_
 refine step_r rfl rfl trivial ?_
 refine step_r rfl rfl trivial ?_
 refine step_gs rfl (fun h2 => ?_) (fun h2 => ?_)
 ·have g2 : ¬ (rightM l = true) := boo_f (not_t h2)
  refine step_g0 rfl h2 rfl ?_
  refine step_g0 rfl h2 rfl ?_
  refine step_g0 rfl h2 rfl ?_
  refine step_pickT rfl h2 rfl rfl ?_
  refine step_nil ?_
  refine seqK_n ?_
  refine sem_condT rfl ?_
  refine sem_seq ?_
  refine sem_region rfl ?_
  refine step_n (nx' := 2) rfl rfl rfl trivial ?_
  refine step_r rfl rfl trivial ?_
  refine step_nil ?_
  refine seqK_n ?_
  refine sem_ret ?_
  refine seqK_r ?_
  have e3 : moveM l unit to = ([], 1) := by
   unfold moveM
   try dsimp only
   rewrite [if_neg g2]
   all_goals rfl
  rw [e3]
  exact answersGR [] [1] rfl ⟨trivial, trivial, trivial⟩ rfl (by (repeat' apply And.intro) <;> first | trivial | rfl | exact flat_len (fun _ => rfl) _ | exact encI_len _ | exact encB_len _ | exact encY_len _ | assumption) (rfl) rfl rfl rfl (by decide) rfl rfl ⟨⟨rfl, rfl⟩, trivial⟩
 ·have g2 : rightM l = true := (not_f h2)
  refine step_g1 rfl h2 ?_
  refine step_r rfl rfl trivial ?_
  refine step_g1 rfl h2 ?_
  refine step_call rfl rfl rfl rfl (groupB_ok to) rfl rfl rfl ?_
  refine step_g1 rfl h2 ?_
  refine step_r rfl rfl trivial ?_
  refine step_pickF rfl h2 rfl rfl ?_
  refine step_nil ?_
  refine seqK_n ?_
  refine sem_cond rfl (fun h6 => ?_) (fun h6 => ?_)
  ·have g6 : ¬ (groupB to = true) := boo_f (not_t h6)
   refine sem_seq ?_
   refine sem_region rfl ?_
   refine step_n (nx' := 2) rfl rfl rfl trivial ?_
   refine step_r rfl rfl trivial ?_
   refine step_nil ?_
   refine seqK_n ?_
   refine sem_ret ?_
   refine seqK_r ?_
   have e7 : moveM l unit to = ([], 1) := by
    unfold moveM
    try dsimp only
    rewrite [if_pos g2, if_neg g6]
    all_goals rfl
   rw [e7]
   exact answersGR [] [1] rfl ⟨trivial, trivial, trivial⟩ rfl (by (repeat' apply And.intro) <;> first | trivial | rfl | exact flat_len (fun _ => rfl) _ | exact encI_len _ | exact encB_len _ | exact encY_len _ | assumption) (rfl) rfl rfl rfl (by decide) rfl rfl ⟨⟨rfl, rfl⟩, trivial⟩
  ·have g6 : groupB to = true := (not_f h6)
   have qg6 := groupB_iff.1 g6
   refine sem_skip ?_
   refine seqK_n ?_
   refine sem_seq ?_
   refine sem_region rfl ?_
   refine step_r rfl rfl trivial ?_
   refine step_r rfl rfl trivial ?_
   refine step_call rfl rfl rfl rfl (findM_ok l l_f unit) rfl rfl rfl ?_
   have p9 := findM_lt l unit
   refine step_r rfl rfl trivial ?_
   refine step_nil ?_
   refine seqK_n ?_
   refine sem_seq ?_
   refine sem_region rfl ?_
   refine step_r rfl rfl trivial ?_
   refine step_call rfl rfl rfl rfl (countM_ok l l_f) rfl rfl rfl ?_
   refine step_r rfl rfl trivial ?_
   refine step_r rfl rfl trivial ?_
   refine step_r rfl rfl trivial ?_
   refine step_n (o := .box [_, _, _, _, _, _, _, _, _]) (nx' := 2) rfl rfl rfl trivial ?_
   refine step_store (H' := [(1, .box [_, _, _, _, _, _, _, _, _]), (0, .row _ _ _)]) rfl rfl rfl rfl rfl rfl (Nat.le_of_ble_eq_true rfl) (.inl rfl) rfl ?_
   refine step_r rfl rfl trivial ?_
   refine step_nil ?_
   refine seqK_n ?_
   refine sem_seq ?_
   refine sem_block ?_
   refine sem_seq ?_
   refine sem_region rfl ?_
   refine step_r rfl rfl trivial ?_
   refine step_bin rfl rfl rfl rfl rfl trivial ?_
   refine step_r rfl rfl trivial ?_
   refine step_nil ?_
   refine seqK_n ?_
   refine sem_cond rfl (fun h13 => ?_) (fun h13 => ?_)
   ·have g13 : (findM l unit : Int) < 0 := of_decide_eq_true h13
    refine sem_seq ?_
    refine sem_region rfl ?_
    refine step_n (nx' := 3) rfl rfl rfl trivial ?_
    refine step_r rfl rfl trivial ?_
    refine step_nil ?_
    refine seqK_n ?_
    refine sem_ret ?_
    refine blkK_r ?_
    refine seqK_r ?_
    have e14 : moveM l unit to = ([], 5) := by
     unfold moveM
     try dsimp only
     rewrite [if_pos g2, if_pos g6, if_pos g13]
     all_goals rfl
    rw [e14]
    exact answersGR [] [2] rfl ⟨trivial, trivial, trivial⟩ rfl (by (repeat' apply And.intro) <;> first | trivial | rfl | exact flat_len (fun _ => rfl) _ | exact encI_len _ | exact encB_len _ | exact encY_len _ | assumption) (rfl) rfl rfl rfl (by decide) rfl rfl ⟨⟨rfl, rfl⟩, trivial⟩
   ·have g13 : ¬ ((findM l unit : Int) < 0) := of_decide_eq_false h13
    refine sem_seq ?_
    refine sem_region rfl ?_
    refine step_r rfl rfl trivial ?_
    refine step_r rfl rfl trivial ?_
    have jk15 : (findM l unit).toNat < l.length := by first | assumption | omega | (simp only [List.length_set, List.length_append]; omega) | (simp only [IntKind.wrap_i64] at *; omega) | (simp; omega) | simp_all
    refine step_idxS' (k := (findM l unit).toNat) rfl rfl (Int.toNat_of_nonneg (by first | omega | (simp only [IntKind.wrap_i64]; omega) | (simp only [IntKind.wrap_i64] at *; omega) | (simp; omega))).symm rfl rfl jk15 (flat_ne (s := 2) (enc := encGMember) (fun _ => rfl) (by decide) jk15) rfl ?_
    refine step_r rfl rfl (by decide) ?_
    refine step_load_one rfl rfl rfl (flat_get (s := 2) (enc := encGMember) (fun _ => rfl) (get_getD jk15) (o := 1) rfl (by decide)) rfl ?_
    refine step_r rfl rfl trivial ?_
    refine step_bin rfl rfl rfl rfl rfl trivial ?_
    refine step_r rfl rfl trivial ?_
    refine step_nil ?_
    refine seqK_n ?_
    refine sem_cond rfl (fun h17 => ?_) (fun h17 => ?_)
    ·have g17 : ((l.getD ((findM l unit).toNat) default).Group : Int) = to := beq_t h17
     refine sem_seq ?_
     refine sem_region rfl ?_
     refine step_n (nx' := 3) rfl rfl rfl trivial ?_
     refine step_r rfl rfl trivial ?_
     refine step_nil ?_
     refine seqK_n ?_
     refine sem_ret ?_
     refine blkK_r ?_
     refine seqK_r ?_
     have e18 : moveM l unit to = ([], 7) := by
      unfold moveM
      try dsimp only
      rewrite [if_pos g2, if_pos g6, if_neg g13, if_pos g17]
      all_goals rfl
     rw [e18]
     exact answersGR [] [2] rfl ⟨trivial, trivial, trivial⟩ rfl (by (repeat' apply And.intro) <;> first | trivial | rfl | exact flat_len (fun _ => rfl) _ | exact encI_len _ | exact encB_len _ | exact encY_len _ | assumption) (rfl) rfl rfl rfl (by decide) rfl rfl ⟨⟨rfl, rfl⟩, trivial⟩
    ·have g17 : ¬ (((l.getD ((findM l unit).toNat) default).Group : Int) = to) := beq_f h17
     refine sem_seq ?_
     refine sem_region rfl ?_
     refine step_r rfl rfl trivial ?_
     have jk19 : to.toNat < 9 := by first | assumption | omega | (simp; omega) | simp_all
     refine step_idxA (k := to.toNat) rfl rfl (Int.toNat_of_nonneg (by first | omega | (simp only [IntKind.wrap_i64]; omega) | (simp only [IntKind.wrap_i64] at *; omega) | (simp; omega))).symm rfl rfl jk19 rfl ?_
     refine step_load_boxA rfl rfl rfl rfl (A9int.get_cell ((countM l).1) jk19) rfl ?_
     refine step_bin rfl rfl rfl rfl rfl trivial ?_
     refine step_r rfl rfl trivial ?_
     refine step_nil ?_
     refine seqK_n ?_
     refine sem_cond rfl (fun h21 => ?_) (fun h21 => ?_)
     ·have g21 : (((countM l).1).get to.toNat : Int) ≥ 5 := of_decide_eq_true h21
      refine sem_seq ?_
      refine sem_region rfl ?_
      refine step_n (nx' := 3) rfl rfl rfl trivial ?_
      refine step_r rfl rfl trivial ?_
      refine step_nil ?_
      refine seqK_n ?_
      refine sem_ret ?_
      refine blkK_r ?_
      refine seqK_r ?_
      have e22 : moveM l unit to = ([], 4) := by
       unfold moveM
       try dsimp only
       rewrite [if_pos g2, if_pos g6, if_neg g13, if_neg g17, if_pos g21]
       all_goals rfl
      rw [e22]
      exact answersGR [] [2] rfl ⟨trivial, trivial, trivial⟩ rfl (by (repeat' apply And.intro) <;> first | trivial | rfl | exact flat_len (fun _ => rfl) _ | exact encI_len _ | exact encB_len _ | exact encY_len _ | assumption) (rfl) rfl rfl rfl (by decide) rfl rfl ⟨⟨rfl, rfl⟩, trivial⟩
     ·have g21 : ¬ ((((countM l).1).get to.toNat : Int) ≥ 5) := of_decide_eq_false h21
      refine sem_skip ?_
      refine blkK_n ?_
      refine seqK_n ?_
      refine sem_seq ?_
      refine sem_region rfl ?_
      refine step_r rfl rfl trivial ?_
      refine step_callJ (Hin := []) (out' := .ref 2 _ _ _) (H' := [(2, .row _ _ _), (1, .box [_, _, _, _, _, _, _, _, _]), (0, .row _ _ _)]) (nx' := 3) [] rfl rfl rfl rfl rfl rfl rfl rfl rfl (by (repeat' apply And.intro) <;> first | trivial | rfl | exact flat_len (fun _ => rfl) _ | exact encI_len _ | exact encB_len _ | exact encY_len _ | exact Nat.le_of_ble_eq_true rfl | assumption) (clone_GMember l false (by first | assumption | omega | (simp; omega) | simp_all)) rfl (by decide) rfl rfl ⟨encGMember_solid, trivial⟩ rfl rfl rfl rfl ?_
      refine step_r rfl rfl trivial ?_
      refine step_nil ?_
      refine seqK_n ?_
      refine sem_seq ?_
      refine sem_region rfl ?_
      refine step_r rfl rfl trivial ?_
      refine step_r rfl rfl trivial ?_
      refine step_r rfl rfl trivial ?_
      refine step_idxR' (k := (findM l unit).toNat) rfl rfl (Int.toNat_of_nonneg (by first | omega | (simp only [IntKind.wrap_i64]; omega) | (simp only [IntKind.wrap_i64] at *; omega) | (simp; omega))).symm rfl rfl jk15 rfl ?_
      refine step_r rfl rfl (by decide) ?_
      refine step_storeR rfl rfl rfl rfl (by have := flat_lt (s := 2) (enc := encGMember) (fun _ => rfl) jk15; show ((findM l unit).toNat) * 2 + 1 < _; omega) (flat_set (enc := encGMember) (s := 2) (y := { (l.getD ((findM l unit).toNat) default) with Group := to }) (fun _ => rfl) (get_getD jk15) (by decide) rfl) (.inl rfl) rfl ?_
      refine step_nil ?_
      refine seqK_n ?_
      refine sem_seq ?_
      refine sem_region rfl ?_
      refine step_r rfl rfl trivial ?_
      refine step_r rfl rfl trivial ?_
      refine step_r rfl rfl trivial ?_
      refine step_nil ?_
      refine seqK_n ?_
      refine sem_ret ?_
      have e23 : moveM l unit to = ((l.set (findM l unit).toNat { (l.getD ((findM l unit).toNat) default) with Group := to }), 0) := by
       unfold moveM
       try dsimp only
       rewrite [if_pos g2, if_pos g6, if_neg g13, if_neg g17, if_neg g21]
       all_goals rfl
      rw [e23]
      try simp only [List.length_set]
      exact answersGR [] [2] rfl ⟨trivial, trivial, trivial⟩ rfl (by (repeat' apply And.intro) <;> first | trivial | rfl | exact flat_len (fun _ => rfl) _ | exact encI_len _ | exact encB_len _ | exact encY_len _ | assumption) (rfl) rfl rfl rfl (by decide) rfl rfl ⟨⟨rfl, rfl⟩, trivial⟩

def swapM (l : List GMember) (a : Int) (b : Int) : (List GMember) × Int :=
  if rightM l = true then (if (findM l a : Int) < 0 then ([], 5) else if (findM l b : Int) < 0 then ([], 5) else if ((l.getD ((findM l a).toNat) default).Group : Int) = ((l.getD ((findM l b).toNat) default).Group) then ([], 7) else (((l.set (findM l a).toNat { (l.getD ((findM l a).toNat) default) with Group := (l.getD ((findM l b).toNat) default).Group }).set (findM l b).toNat { ((l.set (findM l a).toNat { (l.getD ((findM l a).toNat) default) with Group := (l.getD ((findM l b).toNat) default).Group }).getD ((findM l b).toNat) default) with Group := (l.getD ((findM l a).toNat) default).Group }), 0)) else ([], 1)
theorem swapM_ok (l : List GMember) (l_f : Bool) (a : Int) (b : Int) (hl : l.length ≤ 16777215) : Ok Try.prog 14 [.pv (.slc l.length l_f (l.flatMap encGMember)), I a, I b] [] (.tup [.ref 0 2 0 (swapM l a b).1.length, I (swapM l a b).2]) [.row 31 2 ((swapM l a b).1.flatMap encGMember)] [] := by
 refine Ok.len fun hlen => ?_
 have hl_l : l.length ≤ maxLen := hlen _ (by simp [lensL, lens, lensP])
 unfold maxLen at hl_l
 refine ok_of_sem Try.func14 rfl ?_
 show Walks Try.prog _ _ ⟨[(0, .pv (.slc l.length l_f (l.flatMap encGMember))), (1, I a), (2, I b)], [], 0, [], 60, 0⟩
 refine sem_seq ?_
 refine sem_region rfl ?_
 refine step_n (nx' := 1) rfl rfl rfl trivial ?_
 refine step_r rfl rfl trivial ?_
 refine step_nil ?_
 refine seqK_n ?_
 refine sem_seq ?_
 refine sem_seq ?_
 refine sem_region rfl ?_
 refine step_r rfl rfl trivial ?_
 refine step_call rfl rfl rfl rfl (rightM_ok l l_f) rfl rfl rfl ?_
 refine step_r rfl rfl trivial ?_
 refine step_nil ?_
 refine seqK_n ?_
 refine sem_cond rfl (fun h1 => ?_) (fun h1 => ?_)
 ·have g1 : ¬ (rightM l = true) := boo_f (not_t h1)
  refine sem_seq ?_
  refine sem_region rfl ?_
  refine step_n (nx' := 2) rfl rfl rfl trivial ?_
  refine step_r rfl rfl trivial ?_
  refine step_nil ?_
  refine seqK_n ?_
  refine sem_ret ?_
  refine seqK_r ?_
  have e2 : swapM l a b = ([], 1) := by
   unfold swapM
   try dsimp only
   rewrite [if_neg g1]
   all_goals rfl
  rw [e2]
  exact answersGR [] [1] rfl ⟨trivial, trivial, trivial⟩ rfl (by (repeat' apply And.intro) <;> first | trivial | rfl | exact flat_len (fun _ => rfl) _ | exact encI_len _ | exact encB_len _ | exact encY_len _ | assumption) (rfl) rfl rfl rfl (by decide) rfl rfl ⟨⟨rfl, rfl⟩, trivial⟩
 ·have g1 : rightM l = true := (not_f h1)
  refine sem_skip ?_
  refine seqK_n ?_
  refine sem_seq ?_
  refine sem_region rfl ?_
  refine step_r rfl rfl trivial ?_
  refine step_r rfl rfl trivial ?_
  refine step_call rfl rfl rfl rfl (findM_ok l l_f a) rfl rfl rfl ?_
  have p4 := findM_lt l a
  refine step_r rfl rfl trivial ?_
  refine step_r rfl rfl trivial ?_
  refine step_call rfl rfl rfl rfl (findM_ok l l_f b) rfl rfl rfl ?_
  have p6 := findM_lt l b
  refine step_r rfl rfl trivial ?_
  refine step_r rfl rfl trivial ?_
  refine step_nil ?_
  refine seqK_n ?_
  refine sem_seq ?_
  refine sem_block ?_
  refine sem_seq ?_
  refine sem_region rfl ?_
  refine step_r rfl rfl trivial ?_
  refine step_bin rfl rfl rfl rfl rfl trivial ?_
  refine step_r rfl rfl trivial ?_
  refine step_gs rfl (fun h10 => ?_) (fun h10 => ?_)
  ·have g10 : (findM l a : Int) < 0 := of_decide_eq_true h10
   refine step_g0 rfl h10 rfl ?_
   refine step_g0 rfl h10 rfl ?_
   refine step_pickT rfl h10 rfl rfl ?_
   refine step_r rfl rfl trivial ?_
   refine step_nil ?_
   refine seqK_n ?_
   refine sem_condT rfl ?_
   refine sem_seq ?_
   refine sem_region rfl ?_
   refine step_n (nx' := 2) rfl rfl rfl trivial ?_
   refine step_r rfl rfl trivial ?_
   refine step_nil ?_
   refine seqK_n ?_
   refine sem_ret ?_
   refine blkK_r ?_
   refine seqK_r ?_
   have e11 : swapM l a b = ([], 5) := by
    unfold swapM
    try dsimp only
    rewrite [if_pos g1, if_pos g10]
    all_goals rfl
   rw [e11]
   exact answersGR [] [1] rfl ⟨trivial, trivial, trivial⟩ rfl (by (repeat' apply And.intro) <;> first | trivial | rfl | exact flat_len (fun _ => rfl) _ | exact encI_len _ | exact encB_len _ | exact encY_len _ | assumption) (rfl) rfl rfl rfl (by decide) rfl rfl ⟨⟨rfl, rfl⟩, trivial⟩
  ·have g10 : ¬ ((findM l a : Int) < 0) := of_decide_eq_false h10
   refine step_g1 rfl h10 ?_
   refine step_r rfl rfl trivial ?_
   refine step_g1 rfl h10 ?_
   refine step_bin rfl rfl rfl rfl rfl trivial ?_
   refine step_pickF rfl h10 rfl rfl ?_
   refine step_r rfl rfl trivial ?_
   refine step_nil ?_
   refine seqK_n ?_
   refine sem_cond rfl (fun h13 => ?_) (fun h13 => ?_)
   ·have g13 : (findM l b : Int) < 0 := of_decide_eq_true h13
    refine sem_seq ?_
    refine sem_region rfl ?_
    refine step_n (nx' := 2) rfl rfl rfl trivial ?_
    refine step_r rfl rfl trivial ?_
    refine step_nil ?_
    refine seqK_n ?_
    refine sem_ret ?_
    refine blkK_r ?_
    refine seqK_r ?_
    have e14 : swapM l a b = ([], 5) := by
     unfold swapM
     try dsimp only
     rewrite [if_pos g1, if_neg g10, if_pos g13]
     all_goals rfl
    rw [e14]
    exact answersGR [] [1] rfl ⟨trivial, trivial, trivial⟩ rfl (by (repeat' apply And.intro) <;> first | trivial | rfl | exact flat_len (fun _ => rfl) _ | exact encI_len _ | exact encB_len _ | exact encY_len _ | assumption) (rfl) rfl rfl rfl (by decide) rfl rfl ⟨⟨rfl, rfl⟩, trivial⟩
   ·have g13 : ¬ ((findM l b : Int) < 0) := of_decide_eq_false h13
    refine sem_seq ?_
    refine sem_drawn rfl (by decide +kernel) rfl ?_
    refine step_r rfl rfl trivial ?_
    refine step_r rfl rfl trivial ?_
    have jk15 : (findM l a).toNat < l.length := by first | assumption | omega | (simp only [List.length_set, List.length_append]; omega) | (simp only [IntKind.wrap_i64] at *; omega) | (simp; omega) | simp_all
    refine step_idxS' (k := (findM l a).toNat) rfl rfl (Int.toNat_of_nonneg (by first | omega | (simp only [IntKind.wrap_i64]; omega) | (simp only [IntKind.wrap_i64] at *; omega) | (simp; omega))).symm rfl rfl jk15 (flat_ne (s := 2) (enc := encGMember) (fun _ => rfl) (by decide) jk15) rfl ?_
    refine step_r rfl rfl (by decide) ?_
    refine step_load_one rfl rfl rfl (flat_get (s := 2) (enc := encGMember) (fun _ => rfl) (get_getD jk15) (o := 1) rfl (by decide)) rfl ?_
    refine step_r rfl rfl trivial ?_
    refine step_r rfl rfl trivial ?_
    have jk16 : (findM l b).toNat < l.length := by first | assumption | omega | (simp only [List.length_set, List.length_append]; omega) | (simp only [IntKind.wrap_i64] at *; omega) | (simp; omega) | simp_all
    refine step_idxS' (k := (findM l b).toNat) rfl rfl (Int.toNat_of_nonneg (by first | omega | (simp only [IntKind.wrap_i64]; omega) | (simp only [IntKind.wrap_i64] at *; omega) | (simp; omega))).symm rfl rfl jk16 (flat_ne (s := 2) (enc := encGMember) (fun _ => rfl) (by decide) jk16) rfl ?_
    refine step_r rfl rfl (by decide) ?_
    refine step_load_one rfl rfl rfl (flat_get (s := 2) (enc := encGMember) (fun _ => rfl) (get_getD jk16) (o := 1) rfl (by decide)) rfl ?_
    refine step_bin rfl rfl rfl rfl rfl trivial ?_
    refine step_r rfl rfl trivial ?_
    refine step_nil ?_
    refine seqK_n ?_
    refine sem_cond rfl (fun h18 => ?_) (fun h18 => ?_)
    ·have g18 : ((l.getD ((findM l a).toNat) default).Group : Int) = ((l.getD ((findM l b).toNat) default).Group) := beq_t h18
     refine sem_seq ?_
     refine sem_region rfl ?_
     refine step_n (nx' := 2) rfl rfl rfl trivial ?_
     refine step_r rfl rfl trivial ?_
     refine step_nil ?_
     refine seqK_n ?_
     refine sem_ret ?_
     refine blkK_r ?_
     refine seqK_r ?_
     have e19 : swapM l a b = ([], 7) := by
      unfold swapM
      try dsimp only
      rewrite [if_pos g1, if_neg g10, if_neg g13, if_pos g18]
      all_goals rfl
     rw [e19]
     exact answersGR [] [1] rfl ⟨trivial, trivial, trivial⟩ rfl (by (repeat' apply And.intro) <;> first | trivial | rfl | exact flat_len (fun _ => rfl) _ | exact encI_len _ | exact encB_len _ | exact encY_len _ | assumption) (rfl) rfl rfl rfl (by decide) rfl rfl ⟨⟨rfl, rfl⟩, trivial⟩
    ·have g18 : ¬ (((l.getD ((findM l a).toNat) default).Group : Int) = ((l.getD ((findM l b).toNat) default).Group)) := beq_f h18
     refine sem_skip ?_
     refine blkK_n ?_
     refine seqK_n ?_
     refine sem_seq ?_
     refine sem_region rfl ?_
     refine step_r rfl rfl trivial ?_
     refine step_callJ (Hin := []) (out' := .ref 1 _ _ _) (H' := [(1, .row _ _ _), (0, .row _ _ _)]) (nx' := 2) [] rfl rfl rfl rfl rfl rfl rfl rfl rfl (by (repeat' apply And.intro) <;> first | trivial | rfl | exact flat_len (fun _ => rfl) _ | exact encI_len _ | exact encB_len _ | exact encY_len _ | exact Nat.le_of_ble_eq_true rfl | assumption) (clone_GMember l false (by first | assumption | omega | (simp; omega) | simp_all)) rfl (by decide) rfl rfl ⟨encGMember_solid, trivial⟩ rfl rfl rfl rfl ?_
     refine step_r rfl rfl trivial ?_
     refine step_nil ?_
     refine seqK_n ?_
     refine sem_seq ?_
     refine sem_drawnE [(16, 3), (16, 2)] rfl (by decide +kernel) (by decide +kernel) rfl ?_
     refine step_r rfl rfl trivial ?_
     refine step_r rfl rfl trivial ?_
     refine step_r rfl rfl trivial ?_
     refine step_r rfl rfl trivial ?_
     refine step_r rfl rfl trivial ?_
     refine step_r rfl rfl trivial ?_
     refine step_idxR' (k := (findM l b).toNat) rfl rfl (Int.toNat_of_nonneg (by first | omega | (simp only [IntKind.wrap_i64]; omega) | (simp only [IntKind.wrap_i64] at *; omega) | (simp; omega))).symm rfl rfl jk16 rfl ?_
     refine step_r rfl rfl (by decide) ?_
     refine step_load_oneR rfl rfl rfl rfl (flat_get (s := 2) (enc := encGMember) (fun _ => rfl) (get_getD jk16) (o := 1) rfl (by decide)) rfl ?_
     refine step_r rfl rfl trivial ?_
     refine step_r rfl rfl trivial ?_
     refine step_idxR' (k := (findM l a).toNat) rfl rfl (Int.toNat_of_nonneg (by first | omega | (simp only [IntKind.wrap_i64]; omega) | (simp only [IntKind.wrap_i64] at *; omega) | (simp; omega))).symm rfl rfl jk15 rfl ?_
     refine step_r rfl rfl (by decide) ?_
     refine step_load_oneR rfl rfl rfl rfl (flat_get (s := 2) (enc := encGMember) (fun _ => rfl) (get_getD jk15) (o := 1) rfl (by decide)) rfl ?_
     refine step_idxR' (k := (findM l a).toNat) rfl rfl (Int.toNat_of_nonneg (by first | omega | (simp only [IntKind.wrap_i64]; omega) | (simp only [IntKind.wrap_i64] at *; omega) | (simp; omega))).symm rfl rfl jk15 rfl ?_
     refine step_r rfl rfl (by decide) ?_
     refine step_storeR rfl rfl rfl rfl (by have := flat_lt (s := 2) (enc := encGMember) (fun _ => rfl) jk15; show ((findM l a).toNat) * 2 + 1 < _; omega) (flat_set (enc := encGMember) (s := 2) (y := { (l.getD ((findM l a).toNat) default) with Group := (l.getD ((findM l b).toNat) default).Group }) (fun _ => rfl) (get_getD jk15) (by decide) rfl) (.inr (by decide +kernel)) rfl ?_
     have jk20 : (findM l b).toNat < (l.set (findM l a).toNat { (l.getD ((findM l a).toNat) default) with Group := (l.getD ((findM l b).toNat) default).Group }).length := by first | assumption | omega | (simp only [List.length_set, List.length_append]; omega) | (simp only [IntKind.wrap_i64] at *; omega) | (simp; omega) | simp_all
     refine step_idxR' (k := (findM l b).toNat) rfl rfl (Int.toNat_of_nonneg (by first | omega | (simp only [IntKind.wrap_i64]; omega) | (simp only [IntKind.wrap_i64] at *; omega) | (simp; omega))).symm rfl rfl (by first | assumption | omega | (have := jk20; simp only [List.length_set] at this ⊢; omega) | (have := jk20; simp at this ⊢; omega)) rfl ?_
     refine step_r rfl rfl (by decide) ?_
     refine step_storeR rfl rfl rfl rfl (by have := flat_lt (s := 2) (enc := encGMember) (fun _ => rfl) jk20; show ((findM l b).toNat) * 2 + 1 < _; omega) (flat_set (enc := encGMember) (s := 2) (y := { ((l.set (findM l a).toNat { (l.getD ((findM l a).toNat) default) with Group := (l.getD ((findM l b).toNat) default).Group }).getD ((findM l b).toNat) default) with Group := (l.getD ((findM l a).toNat) default).Group }) (fun _ => rfl) (get_getD jk20) (by decide) rfl) (.inr (by decide +kernel)) rfl ?_
     refine step_nil ?_
     refine seqK_n ?_
     refine sem_seq ?_
     refine sem_region rfl ?_
     refine step_r rfl rfl trivial ?_
     refine step_r rfl rfl trivial ?_
     refine step_r rfl rfl trivial ?_
     refine step_nil ?_
     refine seqK_n ?_
     refine sem_ret ?_
     have e21 : swapM l a b = (((l.set (findM l a).toNat { (l.getD ((findM l a).toNat) default) with Group := (l.getD ((findM l b).toNat) default).Group }).set (findM l b).toNat { ((l.set (findM l a).toNat { (l.getD ((findM l a).toNat) default) with Group := (l.getD ((findM l b).toNat) default).Group }).getD ((findM l b).toNat) default) with Group := (l.getD ((findM l a).toNat) default).Group }), 0) := by
      unfold swapM
      try dsimp only
      rewrite [if_pos g1, if_neg g10, if_neg g13, if_neg g18]
      all_goals rfl
     rw [e21]
     try simp only [List.length_set]
     exact answersGR [] [1] rfl ⟨trivial, trivial, trivial⟩ rfl (by (repeat' apply And.intro) <;> first | trivial | rfl | exact flat_len (fun _ => rfl) _ | exact encI_len _ | exact encB_len _ | exact encY_len _ | assumption) (rfl) rfl rfl rfl (by decide) rfl rfl ⟨⟨rfl, rfl⟩, trivial⟩

theorem moveM_len (l : List GMember) (u to : Int) : (moveM l u to).1.length ≤ l.length := by
  unfold moveM
  dsimp only
  repeat' split
  all_goals simp
theorem swapM_len (l : List GMember) (a b : Int) : (swapM l a b).1.length ≤ l.length := by
  unfold swapM
  dsimp only
  repeat' split
  all_goals simp

def rightR_L0 (l : List GMember) : List GMember → Nat → Sum Bool Unit
  | [], k0 => .inr ()
  | x0 :: l_, k0 => if (x0.Unit : Int) < 1 then .inl false else if (findR l x0.Unit : Int) = k0 then (if (x0.Group : Int) < 1 then .inl false else if (x0.Group : Int) > 8 then .inl false else if ((inR l x0.Group).length : Int) > 5 then .inl false else rightR_L0 l l_ (k0 + 1)) else .inl false
def rightR (l : List GMember) : Bool :=
  (match rightR_L0 l l 0 with
    | .inl r_ => r_
    | .inr () => true)
theorem rightR_ok (l : List GMember) (l_f : Bool) (hl : l.length ≤ 16777215) : Ok Try.prog 17 [.pv (.slc l.length l_f (l.flatMap encGMember))] [] (B (rightR l)) [] [] := by
 refine Ok.len fun hlen => ?_
 have hl_l : l.length ≤ maxLen := hlen _ (by simp [lensL, lens, lensP])
 unfold maxLen at hl_l
 refine ok_of_sem Try.func17 rfl ?_
 show Walks Try.prog _ _ ⟨[(0, .pv (.slc l.length l_f (l.flatMap encGMember)))], [], 0, [], 54, 0⟩
 refine sem_seq ?_
 refine sem_region rfl ?_
 refine step_r rfl rfl trivial ?_
 refine step_nil ?_
 refine seqK_n ?_
 refine sem_seq ?_
 refine sem_seq ?_
 refine sem_region rfl ?_
 refine step_r rfl rfl trivial ?_
 refine step_nil ?_
 refine seqK_n ?_
 refine sem_cutW (fun w_ : Unit => match w_ with | () => (⟨[], [], 0, [], 54, 0⟩ : St)) (fun w_ => rightR_L0 l l 0 = .inr w_) ?_ ?_
 ·refine sem_block ?_
  refine sem_loopT (fun k0 : Nat => (⟨[(0, .pv (.slc l.length l_f (l.flatMap encGMember))), (3, I k0)], [], 0, [], 54, 0⟩ : St)) (fun k0 : Nat => rightR_L0 l (l.drop k0) k0 = rightR_L0 l l 0 ∧ k0 ≤ l.length) (fun k0 : Nat => l.length - k0) 0 (⟨rfl, Nat.zero_le _⟩) ?_ (fun k0 hh_ => ?_)
  ·exact (Trans.ren [] (by decide +kernel) (by decide +kernel) rfl ⟨⟨rfl, rfl⟩, ⟨rfl, rfl⟩, trivial⟩ trivial (by decide))
  obtain ⟨hI0, hb0⟩ := hh_
  show Walks Try.prog _ _ (⟨[(0, .pv (.slc l.length l_f (l.flatMap encGMember))), (3, I k0)], [], 0, [], 54, 0⟩ : St)
  refine sem_seq ?_
  refine sem_seq ?_
  refine sem_region rfl ?_
  refine step_r rfl rfl trivial ?_
  refine step_r rfl rfl trivial ?_
  refine step_r rfl rfl trivial ?_
  refine step_bin rfl rfl rfl rfl rfl trivial ?_
  refine step_nil ?_
  refine seqK_n ?_
  refine sem_cond rfl (fun h3 => ?_) (fun h3 => ?_)
  ·have g3 : (k0 : Int) < l.length := of_decide_eq_true h3
   have hk0 : k0 < l.length := by omega
   obtain ⟨x0, hx0⟩ : ∃ z_, l[k0]? = some z_ := ⟨_, List.getElem?_eq_getElem hk0⟩
   refine sem_skip ?_
   refine seqK_n ?_
   refine sem_seq ?_
   refine sem_block ?_
   refine sem_seq ?_
   refine sem_region rfl ?_
   refine step_r rfl rfl trivial ?_
   refine step_r rfl rfl trivial ?_
   refine step_idxS (k := k0) rfl rfl rfl rfl hk0 (flat_ne (s := 2) (enc := encGMember) (fun _ => rfl) (by decide) hk0) rfl ?_
   refine step_r rfl rfl (by decide) ?_
   refine step_load_one rfl rfl rfl (flat_get (s := 2) (enc := encGMember) (fun _ => rfl) hx0 (o := 0) rfl (by decide)) rfl ?_
   refine step_bin rfl rfl rfl rfl rfl trivial ?_
   refine step_r rfl rfl trivial ?_
   refine step_gs rfl (fun h5 => ?_) (fun h5 => ?_)
   ·have g5 : (x0.Unit : Int) < 1 := of_decide_eq_true h5
    refine step_g0 rfl h5 rfl ?_
    refine step_g0 rfl h5 rfl ?_
    refine step_g0 rfl h5 rfl ?_
    refine step_g0 rfl h5 rfl ?_
    refine step_g0 rfl h5 rfl ?_
    refine step_g0 rfl h5 rfl ?_
    refine step_g0 rfl h5 rfl ?_
    refine step_g0 rfl h5 rfl ?_
    refine step_g0 rfl h5 rfl ?_
    refine step_pickT rfl h5 rfl rfl ?_
    refine step_r rfl rfl trivial ?_
    refine step_gf rfl rfl ?_
    refine step_gf rfl rfl ?_
    refine step_gf rfl rfl ?_
    refine step_gf rfl rfl ?_
    refine step_gf rfl rfl ?_
    refine step_gf rfl rfl ?_
    refine step_r rfl rfl trivial ?_
    refine step_r rfl rfl trivial ?_
    refine step_gf rfl rfl ?_
    refine step_gf rfl rfl ?_
    refine step_gf rfl rfl ?_
    refine step_gf rfl rfl ?_
    refine step_gf rfl rfl ?_
    refine step_gf rfl rfl ?_
    refine step_r rfl rfl trivial ?_
    refine step_r rfl rfl trivial ?_
    refine step_gf rfl rfl ?_
    refine step_gf rfl rfl ?_
    refine step_gf rfl rfl ?_
    refine step_gf rfl rfl ?_
    refine step_gf rfl rfl ?_
    refine step_gf rfl rfl ?_
    refine step_gf rfl rfl ?_
    refine step_gf rfl rfl ?_
    refine step_gf rfl rfl ?_
    refine step_r rfl rfl trivial ?_
    refine step_nil ?_
    refine seqK_n ?_
    refine sem_condT rfl ?_
    refine sem_seq ?_
    refine sem_region rfl ?_
    refine step_r rfl rfl trivial ?_
    refine step_nil ?_
    refine seqK_n ?_
    refine sem_ret ?_
    refine blkK_r ?_
    refine seqK_r ?_
    refine lupK_r ?_
    refine blkK_r ?_
    refine cutW_r ?_
    refine seqK_r ?_
    have e6 : rightR_L0 l l 0 = .inl false := by
     rewrite [← hI0, drop_cons hx0]
     rewrite [rightR_L0]
     try dsimp only
     rewrite [if_pos g5]
     all_goals rfl
    have e7 : rightR l = false := by
     unfold rightR
     try dsimp only
     rewrite [e6]
     try dsimp only
     all_goals rfl
    rw [e7]
    exact answersR rfl ⟨trivial, trivial⟩ (rfl) rfl
   ·have g5 : ¬ ((x0.Unit : Int) < 1) := of_decide_eq_false h5
    refine step_g1 rfl h5 ?_
    refine step_r rfl rfl trivial ?_
    refine step_g1 rfl h5 ?_
    refine step_r rfl rfl trivial ?_
    refine step_g1 rfl h5 ?_
    refine step_r rfl rfl trivial ?_
    refine step_g1 rfl h5 ?_
    refine step_idxS (k := k0) rfl rfl rfl rfl hk0 (flat_ne (s := 2) (enc := encGMember) (fun _ => rfl) (by decide) hk0) rfl ?_
    refine step_g1 rfl h5 ?_
    refine step_r rfl rfl (by decide) ?_
    refine step_g1 rfl h5 ?_
    refine step_load_one rfl rfl rfl (flat_get (s := 2) (enc := encGMember) (fun _ => rfl) hx0 (o := 0) rfl (by decide)) rfl ?_
    refine step_g1 rfl h5 ?_
    refine step_call rfl rfl rfl rfl (findR_ok l l_f x0.Unit) rfl rfl rfl ?_
    have p8 := findR_lt l x0.Unit
    refine step_g1 rfl h5 ?_
    refine step_r rfl rfl trivial ?_
    refine step_g1 rfl h5 ?_
    refine step_bin rfl rfl rfl rfl rfl trivial ?_
    refine step_pickF rfl h5 rfl rfl ?_
    refine step_r rfl rfl trivial ?_
    refine step_gs rfl (fun h10 => ?_) (fun h10 => ?_)
    ·have g10 : ¬ ((findR l x0.Unit : Int) = k0) := bne_t h10
     refine step_g0 rfl h10 rfl ?_
     refine step_g0 rfl h10 rfl ?_
     refine step_g0 rfl h10 rfl ?_
     refine step_g0 rfl h10 rfl ?_
     refine step_g0 rfl h10 rfl ?_
     refine step_g0 rfl h10 rfl ?_
     refine step_pickT rfl h10 rfl rfl ?_
     refine step_r rfl rfl trivial ?_
     refine step_gf rfl rfl ?_
     refine step_gf rfl rfl ?_
     refine step_gf rfl rfl ?_
     refine step_gf rfl rfl ?_
     refine step_gf rfl rfl ?_
     refine step_gf rfl rfl ?_
     refine step_r rfl rfl trivial ?_
     refine step_r rfl rfl trivial ?_
     refine step_gf rfl rfl ?_
     refine step_gf rfl rfl ?_
     refine step_gf rfl rfl ?_
     refine step_gf rfl rfl ?_
     refine step_gf rfl rfl ?_
     refine step_gf rfl rfl ?_
     refine step_gf rfl rfl ?_
     refine step_gf rfl rfl ?_
     refine step_gf rfl rfl ?_
     refine step_r rfl rfl trivial ?_
     refine step_nil ?_
     refine seqK_n ?_
     refine sem_condT rfl ?_
     refine sem_seq ?_
     refine sem_region rfl ?_
     refine step_r rfl rfl trivial ?_
     refine step_nil ?_
     refine seqK_n ?_
     refine sem_ret ?_
     refine blkK_r ?_
     refine seqK_r ?_
     refine lupK_r ?_
     refine blkK_r ?_
     refine cutW_r ?_
     refine seqK_r ?_
     have e11 : rightR_L0 l l 0 = .inl false := by
      rewrite [← hI0, drop_cons hx0]
      rewrite [rightR_L0]
      try dsimp only
      rewrite [if_neg g5, if_neg g10]
      all_goals rfl
     have e12 : rightR l = false := by
      unfold rightR
      try dsimp only
      rewrite [e11]
      try dsimp only
      all_goals rfl
     rw [e12]
     exact answersR rfl ⟨trivial, trivial⟩ (rfl) rfl
    ·have g10 : (findR l x0.Unit : Int) = k0 := bne_f h10
     refine step_g1 rfl h10 ?_
     refine step_r rfl rfl trivial ?_
     refine step_g1 rfl h10 ?_
     refine step_r rfl rfl trivial ?_
     refine step_g1 rfl h10 ?_
     refine step_idxS (k := k0) rfl rfl rfl rfl hk0 (flat_ne (s := 2) (enc := encGMember) (fun _ => rfl) (by decide) hk0) rfl ?_
     refine step_g1 rfl h10 ?_
     refine step_r rfl rfl (by decide) ?_
     refine step_g1 rfl h10 ?_
     refine step_load_one rfl rfl rfl (flat_get (s := 2) (enc := encGMember) (fun _ => rfl) hx0 (o := 1) rfl (by decide)) rfl ?_
     refine step_g1 rfl h10 ?_
     refine step_bin rfl rfl rfl rfl rfl trivial ?_
     refine step_pickF rfl h10 rfl rfl ?_
     refine step_r rfl rfl trivial ?_
     refine step_gs rfl (fun h14 => ?_) (fun h14 => ?_)
     ·have g14 : (x0.Group : Int) < 1 := of_decide_eq_true h14
      refine step_g0 rfl h14 rfl ?_
      refine step_g0 rfl h14 rfl ?_
      refine step_g0 rfl h14 rfl ?_
      refine step_g0 rfl h14 rfl ?_
      refine step_g0 rfl h14 rfl ?_
      refine step_g0 rfl h14 rfl ?_
      refine step_pickT rfl h14 rfl rfl ?_
      refine step_r rfl rfl trivial ?_
      refine step_gf rfl rfl ?_
      refine step_gf rfl rfl ?_
      refine step_gf rfl rfl ?_
      refine step_gf rfl rfl ?_
      refine step_gf rfl rfl ?_
      refine step_gf rfl rfl ?_
      refine step_gf rfl rfl ?_
      refine step_gf rfl rfl ?_
      refine step_gf rfl rfl ?_
      refine step_r rfl rfl trivial ?_
      refine step_nil ?_
      refine seqK_n ?_
      refine sem_condT rfl ?_
      refine sem_seq ?_
      refine sem_region rfl ?_
      refine step_r rfl rfl trivial ?_
      refine step_nil ?_
      refine seqK_n ?_
      refine sem_ret ?_
      refine blkK_r ?_
      refine seqK_r ?_
      refine lupK_r ?_
      refine blkK_r ?_
      refine cutW_r ?_
      refine seqK_r ?_
      have e15 : rightR_L0 l l 0 = .inl false := by
       rewrite [← hI0, drop_cons hx0]
       rewrite [rightR_L0]
       try dsimp only
       rewrite [if_neg g5, if_pos g10, if_pos g14]
       all_goals rfl
      have e16 : rightR l = false := by
       unfold rightR
       try dsimp only
       rewrite [e15]
       try dsimp only
       all_goals rfl
      rw [e16]
      exact answersR rfl ⟨trivial, trivial⟩ (rfl) rfl
     ·have g14 : ¬ ((x0.Group : Int) < 1) := of_decide_eq_false h14
      refine step_g1 rfl h14 ?_
      refine step_r rfl rfl trivial ?_
      refine step_g1 rfl h14 ?_
      refine step_r rfl rfl trivial ?_
      refine step_g1 rfl h14 ?_
      refine step_idxS (k := k0) rfl rfl rfl rfl hk0 (flat_ne (s := 2) (enc := encGMember) (fun _ => rfl) (by decide) hk0) rfl ?_
      refine step_g1 rfl h14 ?_
      refine step_r rfl rfl (by decide) ?_
      refine step_g1 rfl h14 ?_
      refine step_load_one rfl rfl rfl (flat_get (s := 2) (enc := encGMember) (fun _ => rfl) hx0 (o := 1) rfl (by decide)) rfl ?_
      refine step_g1 rfl h14 ?_
      refine step_bin rfl rfl rfl rfl rfl trivial ?_
      refine step_pickF rfl h14 rfl rfl ?_
      refine step_r rfl rfl trivial ?_
      refine step_gs rfl (fun h18 => ?_) (fun h18 => ?_)
      ·have g18 : (x0.Group : Int) > 8 := of_decide_eq_true h18
       refine step_g0 rfl h18 rfl ?_
       refine step_g0 rfl h18 rfl ?_
       refine step_g0 rfl h18 rfl ?_
       refine step_g0 rfl h18 rfl ?_
       refine step_g0 rfl h18 rfl ?_
       refine step_g0 rfl h18 rfl ?_
       refine step_g0 rfl h18 rfl ?_
       refine step_g0 rfl h18 rfl ?_
       refine step_g0 rfl h18 rfl ?_
       refine step_pickT rfl h18 rfl rfl ?_
       refine step_nil ?_
       refine seqK_n ?_
       refine sem_condT rfl ?_
       refine sem_seq ?_
       refine sem_region rfl ?_
       refine step_r rfl rfl trivial ?_
       refine step_nil ?_
       refine seqK_n ?_
       refine sem_ret ?_
       refine blkK_r ?_
       refine seqK_r ?_
       refine lupK_r ?_
       refine blkK_r ?_
       refine cutW_r ?_
       refine seqK_r ?_
       have e19 : rightR_L0 l l 0 = .inl false := by
        rewrite [← hI0, drop_cons hx0]
        rewrite [rightR_L0]
        try dsimp only
        rewrite [if_neg g5, if_pos g10, if_neg g14, if_pos g18]
        all_goals rfl
       have e20 : rightR l = false := by
        unfold rightR
        try dsimp only
        rewrite [e19]
        try dsimp only
        all_goals rfl
       rw [e20]
       exact answersR rfl ⟨trivial, trivial⟩ (rfl) rfl
      ·have g18 : ¬ ((x0.Group : Int) > 8) := of_decide_eq_false h18
       refine step_g1 rfl h18 ?_
       refine step_r rfl rfl trivial ?_
       refine step_g1 rfl h18 ?_
       refine step_r rfl rfl trivial ?_
       refine step_g1 rfl h18 ?_
       refine step_r rfl rfl trivial ?_
       refine step_g1 rfl h18 ?_
       refine step_idxS (k := k0) rfl rfl rfl rfl hk0 (flat_ne (s := 2) (enc := encGMember) (fun _ => rfl) (by decide) hk0) rfl ?_
       refine step_g1 rfl h18 ?_
       refine step_r rfl rfl (by decide) ?_
       refine step_g1 rfl h18 ?_
       refine step_load_one rfl rfl rfl (flat_get (s := 2) (enc := encGMember) (fun _ => rfl) hx0 (o := 1) rfl (by decide)) rfl ?_
       refine step_g1 rfl h18 ?_
       refine step_callJ (Hin := []) (out' := .ref 0 _ _ _) (H' := [(0, .row _ _ _)]) (nx' := 1) [] rfl rfl rfl rfl rfl rfl rfl rfl rfl (by (repeat' apply And.intro) <;> first | trivial | rfl | exact flat_len (fun _ => rfl) _ | exact encI_len _ | exact encB_len _ | exact encY_len _ | exact Nat.le_of_ble_eq_true rfl | assumption) (inR_ok l false x0.Group (by first | omega | (simp; omega))) rfl (by decide) rfl rfl ⟨encI_solid, trivial⟩ rfl rfl rfl rfl ?_
       refine step_g1 rfl h18 ?_
       refine step_r rfl rfl trivial ?_
       refine step_g1 rfl h18 ?_
       refine step_bin rfl rfl rfl rfl rfl trivial ?_
       refine step_pickF rfl h18 rfl rfl ?_
       refine step_nil ?_
       refine seqK_n ?_
       refine sem_cond rfl (fun h22 => ?_) (fun h22 => ?_)
       ·have g22 : ((inR l x0.Group).length : Int) > 5 := of_decide_eq_true h22
        refine sem_seq ?_
        refine sem_region rfl ?_
        refine step_r rfl rfl trivial ?_
        refine step_nil ?_
        refine seqK_n ?_
        refine sem_ret ?_
        refine blkK_r ?_
        refine seqK_r ?_
        refine lupK_r ?_
        refine blkK_r ?_
        refine cutW_r ?_
        refine seqK_r ?_
        have e23 : rightR_L0 l l 0 = .inl false := by
         rewrite [← hI0, drop_cons hx0]
         rewrite [rightR_L0]
         try dsimp only
         rewrite [if_neg g5, if_pos g10, if_neg g14, if_neg g18, if_pos g22]
         all_goals rfl
        have e24 : rightR l = false := by
         unfold rightR
         try dsimp only
         rewrite [e23]
         try dsimp only
         all_goals rfl
        rw [e24]
        exact answersR rfl ⟨trivial, trivial⟩ (rfl) rfl
       ·have g22 : ¬ (((inR l x0.Group).length : Int) > 5) := of_decide_eq_false h22
        refine sem_skip ?_
        refine blkK_n ?_
        refine seqK_n ?_
        refine sem_region rfl ?_
        refine step_r rfl rfl trivial ?_
        refine step_bin rfl rfl rfl rfl rfl trivial ?_
        refine step_r rfl rfl trivial ?_
        refine step_nil ?_
        have e26 : rightR_L0 l (l.drop k0) k0 = rightR_L0 l (l.drop (k0 + 1)) (k0 + 1) := by
         rewrite [drop_cons hx0]
         rewrite [rightR_L0]
         try dsimp only
         rewrite [if_neg g5, if_pos g10, if_neg g14, if_neg g18, if_neg g22]
         all_goals rfl
        exact lup_againT (k0 + 1) ⟨e26.symm.trans hI0, hk0⟩ (by show l.length - (k0 + 1) < l.length - k0; omega) (Trans.ren [] (by decide +kernel) (by decide +kernel) rfl ⟨⟨rfl, rfl⟩, ⟨congrArg (fun n => some (I n)) (wrapI (k := k0) (by first | omega | (simp; omega))), rfl⟩, trivial⟩ trivial (by decide))
  ·have g3 : ¬ ((k0 : Int) < l.length) := of_decide_eq_false h3
   have hk0 : k0 = l.length := by omega
   refine sem_exit ?_
   refine seqK_e ?_
   refine lupK_e ?_
   refine blkK_t rfl ?_
   have e27 : rightR_L0 l l 0 = .inr () := by
    rewrite [← hI0, hk0, List.drop_length]
    rewrite [rightR_L0]
    try dsimp only
    all_goals rfl
   exact cutW_n () e27 (Trans.ren [] (by decide +kernel) (by decide +kernel) rfl trivial trivial (by decide))
 ·rintro ⟨⟩ (hJ1 : rightR_L0 l l 0 = .inr ())
  show seqK _ _ _ .normal (⟨[], [], 0, [], 54, 0⟩ : St)
  refine seqK_n ?_
  refine sem_seq ?_
  refine sem_region rfl ?_
  refine step_r rfl rfl trivial ?_
  refine step_nil ?_
  refine seqK_n ?_
  refine sem_ret ?_
  have e28 : rightR l = true := by
   unfold rightR
   try dsimp only
   rewrite [hJ1]
   try dsimp only
   all_goals rfl
  rw [e28]
  exact answersR rfl ⟨trivial, trivial⟩ (rfl) rfl

def groupR (l : List GMember) (unit : Int) : Int :=
  if (findR l unit : Int) < 0 then 0 else (l.getD ((findR l unit).toNat) default).Group
theorem groupR_ok (l : List GMember) (l_f : Bool) (unit : Int) : Ok Try.prog 19 [.pv (.slc l.length l_f (l.flatMap encGMember)), I unit] [] (I (groupR l unit)) [] [] := by
 refine Ok.len fun hlen => ?_
 have hl_l : l.length ≤ maxLen := hlen _ (by simp [lensL, lens, lensP])
 unfold maxLen at hl_l
 refine ok_of_sem Try.func19 rfl ?_
 show Walks Try.prog _ _ ⟨[(0, .pv (.slc l.length l_f (l.flatMap encGMember))), (1, I unit)], [], 0, [], 16, 0⟩
 refine sem_seq ?_
 refine sem_region rfl ?_
 refine step_r rfl rfl trivial ?_
 refine step_nil ?_
 refine seqK_n ?_
 refine sem_seq ?_
 refine sem_region rfl ?_
 refine step_r rfl rfl trivial ?_
 refine step_r rfl rfl trivial ?_
 refine step_call rfl rfl rfl rfl (findR_ok l l_f unit) rfl rfl rfl ?_
 have p2 := findR_lt l unit
 refine step_r rfl rfl trivial ?_
 refine step_nil ?_
 refine seqK_n ?_
 refine sem_seq ?_
 refine sem_seq ?_
 refine sem_region rfl ?_
 refine step_r rfl rfl trivial ?_
 refine step_bin rfl rfl rfl rfl rfl trivial ?_
 refine step_nil ?_
 refine seqK_n ?_
 refine sem_cond rfl (fun h4 => ?_) (fun h4 => ?_)
 ·have g4 : (findR l unit : Int) < 0 := of_decide_eq_true h4
  refine sem_seq ?_
  refine sem_region rfl ?_
  refine step_r rfl rfl trivial ?_
  refine step_nil ?_
  refine seqK_n ?_
  refine sem_ret ?_
  refine seqK_r ?_
  have e5 : groupR l unit = 0 := by
   unfold groupR
   try dsimp only
   rewrite [if_pos g4]
   all_goals rfl
  rw [e5]
  exact answersR rfl ⟨trivial, trivial⟩ (rfl) rfl
 ·have g4 : ¬ ((findR l unit : Int) < 0) := of_decide_eq_false h4
  refine sem_skip ?_
  refine seqK_n ?_
  refine sem_seq ?_
  refine sem_region rfl ?_
  refine step_r rfl rfl trivial ?_
  refine step_r rfl rfl trivial ?_
  have jk6 : (findR l unit).toNat < l.length := by first | assumption | omega | (simp only [List.length_set, List.length_append]; omega) | (simp only [IntKind.wrap_i64] at *; omega) | (simp; omega) | simp_all
  refine step_idxS' (k := (findR l unit).toNat) rfl rfl (Int.toNat_of_nonneg (by first | omega | (simp only [IntKind.wrap_i64]; omega) | (simp only [IntKind.wrap_i64] at *; omega) | (simp; omega))).symm rfl rfl jk6 (flat_ne (s := 2) (enc := encGMember) (fun _ => rfl) (by decide) jk6) rfl ?_
  refine step_r rfl rfl (by decide) ?_
  refine step_load_one rfl rfl rfl (flat_get (s := 2) (enc := encGMember) (fun _ => rfl) (get_getD jk6) (o := 1) rfl (by decide)) rfl ?_
  refine step_r rfl rfl trivial ?_
  refine step_nil ?_
  refine seqK_n ?_
  refine sem_ret ?_
  have e8 : groupR l unit = (l.getD ((findR l unit).toNat) default).Group := by
   unfold groupR
   try dsimp only
   rewrite [if_neg g4]
   all_goals rfl
  rw [e8]
  exact answersR rfl ⟨trivial, trivial⟩ (rfl) rfl

def leadR (l : List GMember) : Int :=
  if (l.length : Int) = 0 then 0 else (l.getD 0 default).Unit
theorem leadR_ok (l : List GMember) (l_f : Bool) : Ok Try.prog 24 [.pv (.slc l.length l_f (l.flatMap encGMember))] [] (I (leadR l)) [] [] := by
 refine Ok.len fun hlen => ?_
 have hl_l : l.length ≤ maxLen := hlen _ (by simp [lensL, lens, lensP])
 unfold maxLen at hl_l
 refine ok_of_sem Try.func24 rfl ?_
 show Walks Try.prog _ _ ⟨[(0, .pv (.slc l.length l_f (l.flatMap encGMember)))], [], 0, [], 10, 0⟩
 refine sem_seq ?_
 refine sem_region rfl ?_
 refine step_r rfl rfl trivial ?_
 refine step_nil ?_
 refine seqK_n ?_
 refine sem_seq ?_
 refine sem_seq ?_
 refine sem_region rfl ?_
 refine step_r rfl rfl trivial ?_
 refine step_r rfl rfl trivial ?_
 refine step_bin rfl rfl rfl rfl rfl trivial ?_
 refine step_nil ?_
 refine seqK_n ?_
 refine sem_cond rfl (fun h1 => ?_) (fun h1 => ?_)
 ·have g1 : (l.length : Int) = 0 := beq_t h1
  refine sem_seq ?_
  refine sem_region rfl ?_
  refine step_r rfl rfl trivial ?_
  refine step_nil ?_
  refine seqK_n ?_
  refine sem_ret ?_
  refine seqK_r ?_
  have e2 : leadR l = 0 := by
   unfold leadR
   try dsimp only
   rewrite [if_pos g1]
   all_goals rfl
  rw [e2]
  exact answersR rfl ⟨trivial, trivial⟩ (rfl) rfl
 ·have g1 : ¬ ((l.length : Int) = 0) := beq_f h1
  refine sem_skip ?_
  refine seqK_n ?_
  refine sem_seq ?_
  refine sem_region rfl ?_
  refine step_r rfl rfl trivial ?_
  have jk3 : 0 < l.length := by first | assumption | omega | (simp only [List.length_set, List.length_append]; omega) | (simp only [IntKind.wrap_i64] at *; omega) | (simp; omega) | simp_all
  refine step_idxS (k := 0) rfl rfl rfl rfl jk3 (flat_ne (s := 2) (enc := encGMember) (fun _ => rfl) (by decide) jk3) rfl ?_
  refine step_r rfl rfl (by decide) ?_
  refine step_load_one rfl rfl rfl (flat_get (s := 2) (enc := encGMember) (fun _ => rfl) (get_getD jk3) (o := 0) rfl (by decide)) rfl ?_
  refine step_r rfl rfl trivial ?_
  refine step_nil ?_
  refine seqK_n ?_
  refine sem_ret ?_
  have e5 : leadR l = (l.getD 0 default).Unit := by
   unfold leadR
   try dsimp only
   rewrite [if_neg g1]
   all_goals rfl
  rw [e5]
  exact answersR rfl ⟨trivial, trivial⟩ (rfl) rfl

def copiedR (l : List GMember) : List GMember :=
  l
theorem copiedR_ok (l : List GMember) (l_f : Bool) (hl : l.length ≤ 16777215) : Ok Try.prog 29 [.pv (.slc l.length l_f (l.flatMap encGMember))] [] (.ref 0 2 0 (copiedR l).length) [.row 31 2 ((copiedR l).flatMap encGMember)] [] := by
 refine Ok.len fun hlen => ?_
 have hl_l : l.length ≤ maxLen := hlen _ (by simp [lensL, lens, lensP])
 unfold maxLen at hl_l
 refine ok_of_sem Try.func29 rfl ?_
 show Walks Try.prog _ _ ⟨[(0, .pv (.slc l.length l_f (l.flatMap encGMember)))], [], 0, [], 6, 0⟩
 refine sem_seq ?_
 refine sem_region rfl ?_
 refine step_n (nx' := 1) rfl rfl rfl trivial ?_
 refine step_nil ?_
 refine seqK_n ?_
 refine sem_seq ?_
 refine sem_region rfl ?_
 refine step_r rfl rfl ⟨by decide, rfl⟩ ?_
 refine step_r rfl rfl trivial ?_
 refine step_appendN (m := l.length) (new := l.flatMap encGMember) (cs' := l.flatMap encGMember) (n' := l.length) rfl rfl (rfl) rfl rfl rfl rfl rfl rfl (flat_len (s := 2) (enc := encGMember) (fun _ => rfl) l) (by first | decide | (unfold maxGrow; omega) | (unfold maxGrow; simp; omega) | (unfold maxGrow; simp only [List.length_append, List.length_take, List.length_drop, List.length_cons, List.length_nil, IntKind.wrap_i64] at *; omega)) rfl rfl rfl rfl ?_
 refine step_r rfl rfl trivial ?_
 refine step_nil ?_
 refine seqK_n ?_
 refine sem_ret ?_
 have e1 : copiedR l = l := by
  unfold copiedR
  try dsimp only
  all_goals rfl
 rw [e1]
 exact answersGR [] [1] rfl ⟨trivial, trivial⟩ rfl (by (repeat' apply And.intro) <;> first | trivial | rfl | exact flat_len (fun _ => rfl) _ | exact encI_len _ | exact encB_len _ | exact encY_len _ | assumption) (rfl) rfl rfl rfl (by decide) rfl rfl ⟨⟨rfl, rfl⟩, trivial⟩

theorem copiedR_eq (l : List GMember) : copiedR l = l := by unfold copiedR; simp
theorem copiedR_len (l : List GMember) : (copiedR l).length = l.length := by rw [copiedR_eq]

def joinR_L0 (l : List GMember) (unit : Int) : Nat → Nat → Sum ((List GMember) × Int × Int) Unit
  | 0, k0 => .inr ()
  | n_ + 1, k0 => if ((inR l k0).length : Int) < 5 then .inl (((copiedR l) ++ [(⟨unit, (k0 : Int)⟩ : GMember)]), (k0 : Int), 0) else joinR_L0 l unit n_ (k0 + 1)
def joinR (l : List GMember) (unit : Int) : (List GMember) × Int × Int :=
  if rightR l = true then (if (unit : Int) < 1 then ([], 0, 1) else if (findR l unit : Int) ≥ 0 then ([], 0, 7) else (match joinR_L0 l unit (9 - 1) 1 with
    | .inl r_ => r_
    | .inr () => ([], 0, 4))) else ([], 0, 1)
theorem joinR_ok (l : List GMember) (l_f : Bool) (unit : Int) (hl : l.length ≤ 16777215) : Ok Try.prog 8 [.pv (.slc l.length l_f (l.flatMap encGMember)), I unit] [] (.tup [.ref 0 2 0 (joinR l unit).1.length, I (joinR l unit).2.1, I (joinR l unit).2.2]) [.row 31 2 ((joinR l unit).1.flatMap encGMember)] [] := by
 refine Ok.len fun hlen => ?_
 have hl_l : l.length ≤ maxLen := hlen _ (by simp [lensL, lens, lensP])
 unfold maxLen at hl_l
 refine ok_of_sem Try.func8 rfl ?_
 show Walks Try.prog _ _ ⟨[(0, .pv (.slc l.length l_f (l.flatMap encGMember))), (1, I unit)], [], 0, [], 38, 0⟩
 refine sem_seq ?_
 refine sem_region rfl ?_
 refine step_n (nx' := 1) rfl rfl rfl trivial ?_
 refine step_r rfl rfl trivial ?_
 refine step_r rfl rfl trivial ?_
 refine step_nil ?_
 refine seqK_n ?_
 refine sem_seq ?_
 refine sem_region rfl ?_
 refine step_r rfl rfl trivial ?_
 refine step_call rfl rfl rfl rfl (rightR_ok l l_f (by first | omega | (simp; omega))) rfl rfl rfl ?_
 refine step_r rfl rfl trivial ?_
 refine step_nil ?_
 refine seqK_n ?_
 refine sem_seq ?_
 refine sem_seq ?_
 refine sem_region rfl ?_
 refine step_r rfl rfl trivial ?_
 refine step_r rfl rfl trivial ?_
 refine step_r rfl rfl trivial ?_
 refine step_gs rfl (fun h3 => ?_) (fun h3 => ?_)
 ·have g3 : ¬ (rightR l = true) := boo_f (not_t h3)
  refine step_g0 rfl h3 rfl ?_
  refine step_g0 rfl h3 rfl ?_
  refine step_pickT rfl h3 rfl rfl ?_
  refine step_nil ?_
  refine seqK_n ?_
  refine sem_condT rfl ?_
  refine sem_seq ?_
  refine sem_region rfl ?_
  refine step_n (nx' := 2) rfl rfl rfl trivial ?_
  refine step_r rfl rfl trivial ?_
  refine step_r rfl rfl trivial ?_
  refine step_nil ?_
  refine seqK_n ?_
  refine sem_ret ?_
  refine seqK_r ?_
  have e4 : joinR l unit = ([], 0, 1) := by
   unfold joinR
   try dsimp only
   rewrite [if_neg g3]
   all_goals rfl
  rw [e4]
  exact answersGR [] [1] rfl ⟨trivial, trivial, trivial, trivial⟩ rfl (by (repeat' apply And.intro) <;> first | trivial | rfl | exact flat_len (fun _ => rfl) _ | exact encI_len _ | exact encB_len _ | exact encY_len _ | assumption) (rfl) rfl rfl rfl (by decide) rfl rfl ⟨⟨rfl, rfl⟩, trivial⟩
 ·have g3 : rightR l = true := (not_f h3)
  refine step_g1 rfl h3 ?_
  refine step_r rfl rfl trivial ?_
  refine step_g1 rfl h3 ?_
  refine step_bin rfl rfl rfl rfl rfl trivial ?_
  refine step_pickF rfl h3 rfl rfl ?_
  refine step_nil ?_
  refine seqK_n ?_
  refine sem_cond rfl (fun h7 => ?_) (fun h7 => ?_)
  ·have g7 : (unit : Int) < 1 := of_decide_eq_true h7
   refine sem_seq ?_
   refine sem_region rfl ?_
   refine step_n (nx' := 2) rfl rfl rfl trivial ?_
   refine step_r rfl rfl trivial ?_
   refine step_r rfl rfl trivial ?_
   refine step_nil ?_
   refine seqK_n ?_
   refine sem_ret ?_
   refine seqK_r ?_
   have e8 : joinR l unit = ([], 0, 1) := by
    unfold joinR
    try dsimp only
    rewrite [if_pos g3, if_pos g7]
    all_goals rfl
   rw [e8]
   exact answersGR [] [1] rfl ⟨trivial, trivial, trivial, trivial⟩ rfl (by (repeat' apply And.intro) <;> first | trivial | rfl | exact flat_len (fun _ => rfl) _ | exact encI_len _ | exact encB_len _ | exact encY_len _ | assumption) (rfl) rfl rfl rfl (by decide) rfl rfl ⟨⟨rfl, rfl⟩, trivial⟩
  ·have g7 : ¬ ((unit : Int) < 1) := of_decide_eq_false h7
   refine sem_skip ?_
   refine seqK_n ?_
   refine sem_seq ?_
   refine sem_seq ?_
   refine sem_region rfl ?_
   refine step_r rfl rfl trivial ?_
   refine step_r rfl rfl trivial ?_
   refine step_call rfl rfl rfl rfl (findR_ok l l_f unit) rfl rfl rfl ?_
   have p9 := findR_lt l unit
   refine step_bin rfl rfl rfl rfl rfl trivial ?_
   refine step_nil ?_
   refine seqK_n ?_
   refine sem_cond rfl (fun h10 => ?_) (fun h10 => ?_)
   ·have g10 : (findR l unit : Int) ≥ 0 := of_decide_eq_true h10
    refine sem_seq ?_
    refine sem_region rfl ?_
    refine step_n (nx' := 2) rfl rfl rfl trivial ?_
    refine step_r rfl rfl trivial ?_
    refine step_r rfl rfl trivial ?_
    refine step_nil ?_
    refine seqK_n ?_
    refine sem_ret ?_
    refine seqK_r ?_
    have e11 : joinR l unit = ([], 0, 7) := by
     unfold joinR
     try dsimp only
     rewrite [if_pos g3, if_neg g7, if_pos g10]
     all_goals rfl
    rw [e11]
    exact answersGR [] [1] rfl ⟨trivial, trivial, trivial, trivial⟩ rfl (by (repeat' apply And.intro) <;> first | trivial | rfl | exact flat_len (fun _ => rfl) _ | exact encI_len _ | exact encB_len _ | exact encY_len _ | assumption) (rfl) rfl rfl rfl (by decide) rfl rfl ⟨⟨rfl, rfl⟩, trivial⟩
   ·have g10 : ¬ ((findR l unit : Int) ≥ 0) := of_decide_eq_false h10
    refine sem_skip ?_
    refine seqK_n ?_
    refine sem_seq ?_
    refine sem_seq ?_
    refine sem_region rfl ?_
    refine step_r rfl rfl trivial ?_
    refine step_nil ?_
    refine seqK_n ?_
    refine sem_cutW (fun w_ : Unit => match w_ with | () => (⟨[], [], 0, [], 38, 0⟩ : St)) (fun w_ => joinR_L0 l unit (9 - 1) 1 = .inr w_) ?_ ?_
    ·refine sem_block ?_
     refine sem_loopT (fun k0 : Nat => (⟨[(0, .pv (.slc l.length l_f (l.flatMap encGMember))), (1, I unit), (8, I k0)], [], 0, [], 38, 0⟩ : St)) (fun k0 : Nat => joinR_L0 l unit (9 - k0) k0 = joinR_L0 l unit (9 - 1) 1 ∧ k0 ≤ 9) (fun k0 : Nat => 9 - k0) 1 (⟨rfl, (by first | omega | (simp; omega))⟩) ?_ (fun k0 hh_ => ?_)
     ·exact (Trans.ren [] (by decide +kernel) (by decide +kernel) rfl ⟨⟨rfl, rfl⟩, ⟨rfl, rfl⟩, ⟨rfl, rfl⟩, trivial⟩ trivial (by decide))
     obtain ⟨hI0, hb0⟩ := hh_
     show Walks Try.prog _ _ (⟨[(0, .pv (.slc l.length l_f (l.flatMap encGMember))), (1, I unit), (8, I k0)], [], 0, [], 38, 0⟩ : St)
     refine sem_seq ?_
     refine sem_seq ?_
     refine sem_region rfl ?_
     refine step_r rfl rfl trivial ?_
     refine step_bin rfl rfl rfl rfl rfl trivial ?_
     refine step_nil ?_
     refine seqK_n ?_
     refine sem_cond rfl (fun h14 => ?_) (fun h14 => ?_)
     ·have g14 : (k0 : Int) ≤ 8 := of_decide_eq_true h14
      have hm0 : 9 - k0 = (9 - (k0 + 1)) + 1 := by omega
      refine sem_skip ?_
      refine seqK_n ?_
      refine sem_seq ?_
      refine sem_block ?_
      refine sem_seq ?_
      refine sem_region rfl ?_
      refine step_r rfl rfl trivial ?_
      refine step_r rfl rfl trivial ?_
      refine step_callJ (Hin := []) (out' := .ref 0 _ _ _) (H' := [(0, .row _ _ _)]) (nx' := 1) [] rfl rfl rfl rfl rfl rfl rfl rfl rfl (by (repeat' apply And.intro) <;> first | trivial | rfl | exact flat_len (fun _ => rfl) _ | exact encI_len _ | exact encB_len _ | exact encY_len _ | exact Nat.le_of_ble_eq_true rfl | assumption) (inR_ok l false k0 (by first | omega | (simp; omega))) rfl (by decide) rfl rfl ⟨encI_solid, trivial⟩ rfl rfl rfl rfl ?_
      refine step_r rfl rfl trivial ?_
      refine step_bin rfl rfl rfl rfl rfl trivial ?_
      refine step_nil ?_
      refine seqK_n ?_
      refine sem_cond rfl (fun h15 => ?_) (fun h15 => ?_)
      ·have g15 : ((inR l k0).length : Int) < 5 := of_decide_eq_true h15
       refine sem_seq ?_
       refine sem_region rfl ?_
       refine step_r rfl rfl trivial ?_
       refine step_callJ (Hin := []) (out' := .ref 1 _ _ _) (H' := [(1, .row _ _ _), (0, .row _ _ _)]) (nx' := 2) [] rfl rfl rfl rfl rfl rfl rfl rfl rfl (by (repeat' apply And.intro) <;> first | trivial | rfl | exact flat_len (fun _ => rfl) _ | exact encI_len _ | exact encB_len _ | exact encY_len _ | exact Nat.le_of_ble_eq_true rfl | assumption) (copiedR_ok l false (by first | omega | (simp; omega))) rfl (by decide) rfl rfl ⟨encGMember_solid, trivial⟩ rfl rfl rfl rfl ?_
       have p16 := copiedR_len l
       refine step_r rfl rfl trivial ?_
       refine step_r rfl rfl trivial ?_
       refine step_r (v := (.agg [_, _])) rfl rfl trivial ?_
       refine step_n (o := .row _ _ [_, _]) (nx' := 3) rfl rfl rfl (by decide) ?_
       refine step_appendC (m := 1) (new := [_, _]) (cs' := ((copiedR l) ++ [(⟨unit, (k0 : Int)⟩ : GMember)]).flatMap encGMember) (n' := ((copiedR l) ++ [(⟨unit, (k0 : Int)⟩ : GMember)]).length) (H' := [(2, .row _ _ _), (1, .row _ _ _), (0, .row _ _ _)]) rfl rfl rfl (rfl) rfl rfl rfl rfl rfl rfl (flat_len (s := 2) (enc := encGMember) (fun _ => rfl) (copiedR l)) (rfl) (by first | decide | (unfold maxGrow; omega) | (unfold maxGrow; simp; omega) | (unfold maxGrow; simp only [List.length_append, List.length_take, List.length_drop, List.length_cons, List.length_nil, IntKind.wrap_i64] at *; omega)) (len_snoc (copiedR l) _) (((flat_snoc (enc := encGMember) (l := (copiedR l)) (⟨unit, (k0 : Int)⟩ : GMember))).symm) (.inl rfl) rfl rfl (.keep rfl (.keep rfl (.keep rfl .nil))) (.keep rfl (.keep rfl (.keep rfl (.keep rfl (.lose (v' := .undef) rfl (.keep rfl (.keep rfl (.keep rfl (.keep rfl (.keep rfl (.keep rfl (.keep rfl (.keep rfl (.keep rfl (.keep rfl (.keep rfl .nil)))))))))))))))) ?_
       refine step_r rfl rfl trivial ?_
       refine step_r rfl rfl trivial ?_
       refine step_r rfl rfl trivial ?_
       refine step_r rfl rfl trivial ?_
       refine step_nil ?_
       refine seqK_n ?_
       refine sem_ret ?_
       refine blkK_r ?_
       refine seqK_r ?_
       refine lupK_r ?_
       refine blkK_r ?_
       refine cutW_r ?_
       refine seqK_r ?_
       have e18 : joinR_L0 l unit (9 - 1) 1 = .inl (((copiedR l) ++ [(⟨unit, (k0 : Int)⟩ : GMember)]), (k0 : Int), 0) := by
        rewrite [← hI0, hm0]
        rewrite [joinR_L0]
        try dsimp only
        rewrite [if_pos g15]
        all_goals rfl
       have e19 : joinR l unit = (((copiedR l) ++ [(⟨unit, (k0 : Int)⟩ : GMember)]), (k0 : Int), 0) := by
        unfold joinR
        try dsimp only
        rewrite [if_pos g3, if_neg g7, if_neg g10, e18]
        try dsimp only
        all_goals rfl
       rw [e19]
       exact answersGR [] [1] rfl ⟨trivial, trivial, trivial, trivial⟩ rfl (by (repeat' apply And.intro) <;> first | trivial | rfl | exact flat_len (fun _ => rfl) _ | exact encI_len _ | exact encB_len _ | exact encY_len _ | assumption) (rfl) rfl rfl rfl (by decide) rfl rfl ⟨⟨rfl, rfl⟩, trivial⟩
      ·have g15 : ¬ (((inR l k0).length : Int) < 5) := of_decide_eq_false h15
       refine sem_skip ?_
       refine blkK_n ?_
       refine seqK_n ?_
       refine sem_region rfl ?_
       refine step_r rfl rfl trivial ?_
       refine step_bin rfl rfl rfl rfl rfl trivial ?_
       refine step_r rfl rfl trivial ?_
       refine step_nil ?_
       have e21 : joinR_L0 l unit (9 - k0) k0 = joinR_L0 l unit (9 - (k0 + 1)) (k0 + 1) := by
        rewrite [hm0]
        rewrite [joinR_L0]
        try dsimp only
        rewrite [if_neg g15]
        all_goals rfl
       exact lup_againT (k0 + 1) ⟨e21.symm.trans hI0, (by omega)⟩ (by show 9 - (k0 + 1) < 9 - k0; omega) (Trans.ren [] (by decide +kernel) (by decide +kernel) rfl ⟨⟨rfl, rfl⟩, ⟨rfl, rfl⟩, ⟨congrArg (fun n => some (I n)) (wrapI (k := k0) (by first | omega | (simp; omega))), rfl⟩, trivial⟩ trivial (by decide))
     ·have g14 : ¬ ((k0 : Int) ≤ 8) := of_decide_eq_false h14
      have hm0 : 9 - k0 = 0 := by omega
      refine sem_exit ?_
      refine seqK_e ?_
      refine lupK_e ?_
      refine blkK_t rfl ?_
      have e22 : joinR_L0 l unit (9 - 1) 1 = .inr () := by
       rewrite [← hI0, hm0]
       rewrite [joinR_L0]
       try dsimp only
       all_goals rfl
      exact cutW_n () e22 (Trans.ren [] (by decide +kernel) (by decide +kernel) rfl trivial trivial (by decide))
    ·rintro ⟨⟩ (hJ12 : joinR_L0 l unit (9 - 1) 1 = .inr ())
     show seqK _ _ _ .normal (⟨[], [], 0, [], 38, 0⟩ : St)
     refine seqK_n ?_
     refine sem_seq ?_
     refine sem_region rfl ?_
     refine step_n (nx' := 1) rfl rfl rfl trivial ?_
     refine step_r rfl rfl trivial ?_
     refine step_r rfl rfl trivial ?_
     refine step_nil ?_
     refine seqK_n ?_
     refine sem_ret ?_
     have e23 : joinR l unit = ([], 0, 4) := by
      unfold joinR
      try dsimp only
      rewrite [if_pos g3, if_neg g7, if_neg g10, hJ12]
      try dsimp only
      all_goals rfl
     rw [e23]
     exact answersGR [] [0] rfl ⟨trivial, trivial, trivial, trivial⟩ rfl (by (repeat' apply And.intro) <;> first | trivial | rfl | exact flat_len (fun _ => rfl) _ | exact encI_len _ | exact encB_len _ | exact encY_len _ | assumption) (rfl) rfl rfl rfl (by decide) rfl rfl ⟨⟨rfl, rfl⟩, trivial⟩

def leaveR (l : List GMember) (unit : Int) : (List GMember) × Bool :=
  if (findR l unit : Int) < 0 then ((copiedR l), false) else (((copiedR (l.take (((findR l unit)).toNat))) ++ (l.drop (((IntKind.i64.wrap ((findR l unit) + 1))).toNat))), true)
theorem leaveR_ok (l : List GMember) (l_f : Bool) (unit : Int) (hl : l.length ≤ 16777215) : Ok Try.prog 11 [.pv (.slc l.length l_f (l.flatMap encGMember)), I unit] [] (.tup [.ref 0 2 0 (leaveR l unit).1.length, B (leaveR l unit).2]) [.row 31 2 ((leaveR l unit).1.flatMap encGMember)] [] := by
 refine Ok.len fun hlen => ?_
 have hl_l : l.length ≤ maxLen := hlen _ (by simp [lensL, lens, lensP])
 unfold maxLen at hl_l
 refine ok_of_sem Try.func11 rfl ?_
 show Walks Try.prog _ _ ⟨[(0, .pv (.slc l.length l_f (l.flatMap encGMember))), (1, I unit)], [], 0, [], 23, 0⟩
 refine sem_seq ?_
 refine sem_region rfl ?_
 refine step_n (nx' := 1) rfl rfl rfl trivial ?_
 refine step_r rfl rfl trivial ?_
 refine step_nil ?_
 refine seqK_n ?_
 refine sem_seq ?_
 refine sem_region rfl ?_
 refine step_r rfl rfl trivial ?_
 refine step_r rfl rfl trivial ?_
 refine step_call rfl rfl rfl rfl (findR_ok l l_f unit) rfl rfl rfl ?_
 have p2 := findR_lt l unit
 refine step_r rfl rfl trivial ?_
 refine step_nil ?_
 refine seqK_n ?_
 refine sem_seq ?_
 refine sem_seq ?_
 refine sem_region rfl ?_
 refine step_r rfl rfl trivial ?_
 refine step_bin rfl rfl rfl rfl rfl trivial ?_
 refine step_nil ?_
 refine seqK_n ?_
 refine sem_cond rfl (fun h4 => ?_) (fun h4 => ?_)
 ·have g4 : (findR l unit : Int) < 0 := of_decide_eq_true h4
  refine sem_seq ?_
  refine sem_region rfl ?_
  refine step_r rfl rfl trivial ?_
  refine step_callJ (Hin := []) (out' := .ref 1 _ _ _) (H' := [(1, .row _ _ _), (0, .row _ _ _)]) (nx' := 2) [] rfl rfl rfl rfl rfl rfl rfl rfl rfl (by (repeat' apply And.intro) <;> first | trivial | rfl | exact flat_len (fun _ => rfl) _ | exact encI_len _ | exact encB_len _ | exact encY_len _ | exact Nat.le_of_ble_eq_true rfl | assumption) (copiedR_ok l false (by first | omega | (simp; omega))) rfl (by decide) rfl rfl ⟨encGMember_solid, trivial⟩ rfl rfl rfl rfl ?_
  have p5 := copiedR_len l
  refine step_r rfl rfl trivial ?_
  refine step_r rfl rfl trivial ?_
  refine step_nil ?_
  refine seqK_n ?_
  refine sem_ret ?_
  refine seqK_r ?_
  have e6 : leaveR l unit = ((copiedR l), false) := by
   unfold leaveR
   try dsimp only
   rewrite [if_pos g4]
   all_goals rfl
  rw [e6]
  exact answersGR [] [1] rfl ⟨trivial, trivial, trivial⟩ rfl (by (repeat' apply And.intro) <;> first | trivial | rfl | exact flat_len (fun _ => rfl) _ | exact encI_len _ | exact encB_len _ | exact encY_len _ | assumption) (rfl) rfl rfl rfl (by decide) rfl rfl ⟨⟨rfl, rfl⟩, trivial⟩
 ·have g4 : ¬ ((findR l unit : Int) < 0) := of_decide_eq_false h4
  refine sem_skip ?_
  refine seqK_n ?_
  refine sem_seq ?_
  refine sem_drawn rfl (by decide +kernel) rfl ?_
  refine step_r rfl rfl trivial ?_
  refine step_r rfl rfl trivial ?_
  refine step_slcTo (k := ((findR l unit)).toNat) (n' := (l.take (((findR l unit)).toNat)).length) (cs' := (l.take (((findR l unit)).toNat)).flatMap encGMember) rfl rfl (Int.toNat_of_nonneg (by first | omega | (simp only [IntKind.wrap_i64]; omega))).symm rfl rfl (by first | omega | (simp only [IntKind.wrap_i64]; omega) | (simp; omega)) (by rw [List.length_take]; first | omega | (simp only [IntKind.wrap_i64]; omega)) (flat_upto (s := 2) (fun _ => rfl) l (((findR l unit)).toNat) (by first | omega | (simp only [IntKind.wrap_i64]; omega))) rfl ?_
  refine step_callJ (Hin := []) (out' := .ref 1 _ _ _) (H' := [(1, .row _ _ _), (0, .row _ _ _)]) (nx' := 2) [] rfl rfl rfl rfl rfl rfl rfl rfl rfl (by (repeat' apply And.intro) <;> first | trivial | rfl | exact flat_len (fun _ => rfl) _ | exact encI_len _ | exact encB_len _ | exact encY_len _ | exact Nat.le_of_ble_eq_true rfl | assumption) (copiedR_ok (l.take (((findR l unit)).toNat)) false (by first | omega | (simp; omega))) rfl (by decide) rfl rfl ⟨encGMember_solid, trivial⟩ rfl rfl rfl rfl ?_
  have p7 := copiedR_len (l.take (((findR l unit)).toNat))
  refine step_r rfl rfl trivial ?_
  refine step_r rfl rfl trivial ?_
  refine step_bin rfl rfl rfl rfl rfl trivial ?_
  refine step_slcFrom (k := ((IntKind.i64.wrap ((findR l unit) + 1))).toNat) (n' := (l.drop (((IntKind.i64.wrap ((findR l unit) + 1))).toNat)).length) (cs' := (l.drop (((IntKind.i64.wrap ((findR l unit) + 1))).toNat)).flatMap encGMember) rfl rfl (Int.toNat_of_nonneg (by first | omega | (simp only [IntKind.wrap_i64]; omega))).symm rfl rfl (by first | omega | (simp only [IntKind.wrap_i64]; omega) | (simp; omega)) (List.length_drop ..).symm (flat_from (s := 2) (fun _ => rfl) l (((IntKind.i64.wrap ((findR l unit) + 1))).toNat)) rfl ?_
  refine step_appendC (m := (l.drop (((IntKind.i64.wrap ((findR l unit) + 1))).toNat)).length) (new := (l.drop (((IntKind.i64.wrap ((findR l unit) + 1))).toNat)).flatMap encGMember) (cs' := ((copiedR (l.take (((findR l unit)).toNat))) ++ (l.drop (((IntKind.i64.wrap ((findR l unit) + 1))).toNat))).flatMap encGMember) (n' := ((copiedR (l.take (((findR l unit)).toNat))) ++ (l.drop (((IntKind.i64.wrap ((findR l unit) + 1))).toNat))).length) (H' := [(1, .row _ _ _), (0, .row _ _ _)]) rfl rfl rfl (rfl) rfl rfl rfl rfl rfl rfl (flat_len (s := 2) (enc := encGMember) (fun _ => rfl) (copiedR (l.take (((findR l unit)).toNat)))) (flat_len (s := 2) (enc := encGMember) (fun _ => rfl) (l.drop (((IntKind.i64.wrap ((findR l unit) + 1))).toNat))) (by first | decide | (unfold maxGrow; omega) | (unfold maxGrow; simp; omega) | (unfold maxGrow; simp only [List.length_append, List.length_take, List.length_drop, List.length_cons, List.length_nil, IntKind.wrap_i64] at *; omega)) (len_append (copiedR (l.take (((findR l unit)).toNat))) (l.drop (((IntKind.i64.wrap ((findR l unit) + 1))).toNat))) (flat_append encGMember _ _) (.inr (by decide +kernel)) rfl rfl (.keep rfl (.keep rfl .nil)) (.keep rfl (.keep rfl (.keep rfl (.keep rfl (.lose (v' := .undef) rfl (.keep rfl (.keep rfl (.keep rfl (.keep rfl (.keep rfl (.keep rfl (.keep rfl (.keep rfl (.keep rfl (.keep rfl (.keep rfl (.keep rfl (.keep rfl .nil)))))))))))))))))) ?_
  refine step_r rfl rfl trivial ?_
  refine step_r rfl rfl trivial ?_
  refine step_nil ?_
  refine seqK_n ?_
  refine sem_ret ?_
  have e8 : leaveR l unit = (((copiedR (l.take (((findR l unit)).toNat))) ++ (l.drop (((IntKind.i64.wrap ((findR l unit) + 1))).toNat))), true) := by
   unfold leaveR
   try dsimp only
   rewrite [if_neg g4]
   all_goals rfl
  rw [e8]
  exact answersGR [] [1] rfl ⟨trivial, trivial, trivial⟩ rfl (by (repeat' apply And.intro) <;> first | trivial | rfl | exact flat_len (fun _ => rfl) _ | exact encI_len _ | exact encB_len _ | exact encY_len _ | assumption) (rfl) rfl rfl rfl (by decide) rfl rfl ⟨⟨rfl, rfl⟩, trivial⟩

def moveR (l : List GMember) (unit : Int) (group : Int) : (List GMember) × Int :=
  if rightR l = true then (if (group : Int) < 1 then ([], 1) else if (group : Int) > 8 then ([], 1) else if (findR l unit : Int) < 0 then ([], 5) else if ((l.getD ((findR l unit).toNat) default).Group : Int) = group then ([], 7) else if ((inR l group).length : Int) ≥ 5 then ([], 4) else (((copiedR l).set (findR l unit).toNat { ((copiedR l).getD ((findR l unit).toNat) default) with Group := group }), 0)) else ([], 1)
theorem moveR_ok (l : List GMember) (l_f : Bool) (unit : Int) (group : Int) (hl : l.length ≤ 16777215) : Ok Try.prog 13 [.pv (.slc l.length l_f (l.flatMap encGMember)), I unit, I group] [] (.tup [.ref 0 2 0 (moveR l unit group).1.length, I (moveR l unit group).2]) [.row 31 2 ((moveR l unit group).1.flatMap encGMember)] [] := by
 refine Ok.len fun hlen => ?_
 have hl_l : l.length ≤ maxLen := hlen _ (by simp [lensL, lens, lensP])
 unfold maxLen at hl_l
 refine ok_of_sem Try.func13 rfl ?_
 show Walks Try.prog _ _ ⟨[(0, .pv (.slc l.length l_f (l.flatMap encGMember))), (1, I unit), (2, I group)], [], 0, [], 48, 0⟩
 refine sem_seq ?_
 refine sem_region rfl ?_
 refine step_n (nx' := 1) rfl rfl rfl trivial ?_
 refine step_r rfl rfl trivial ?_
 refine step_nil ?_
 refine seqK_n ?_
 refine sem_seq ?_
 refine sem_region rfl ?_
 refine step_r rfl rfl trivial ?_
 refine step_call rfl rfl rfl rfl (rightR_ok l l_f (by first | omega | (simp; omega))) rfl rfl rfl ?_
 refine step_r rfl rfl trivial ?_
 refine step_nil ?_
 refine seqK_n ?_
 refine sem_seq ?_
 refine sem_seq ?_
 refine sem_region rfl ?_
 refine step_r rfl rfl trivial ?_
 refine step_r rfl rfl trivial ?_
 refine step_r rfl rfl trivial ?_
 refine step_gs rfl (fun h3 => ?_) (fun h3 => ?_)
 ·have g3 : ¬ (rightR l = true) := boo_f (not_t h3)
  refine step_g0 rfl h3 rfl ?_
  refine step_g0 rfl h3 rfl ?_
  refine step_pickT rfl h3 rfl rfl ?_
  refine step_r rfl rfl trivial ?_
  refine step_gf rfl rfl ?_
  refine step_gf rfl rfl ?_
  refine step_r rfl rfl trivial ?_
  refine step_nil ?_
  refine seqK_n ?_
  refine sem_condT rfl ?_
  refine sem_seq ?_
  refine sem_region rfl ?_
  refine step_n (nx' := 2) rfl rfl rfl trivial ?_
  refine step_r rfl rfl trivial ?_
  refine step_nil ?_
  refine seqK_n ?_
  refine sem_ret ?_
  refine seqK_r ?_
  have e4 : moveR l unit group = ([], 1) := by
   unfold moveR
   try dsimp only
   rewrite [if_neg g3]
   all_goals rfl
  rw [e4]
  exact answersGR [] [1] rfl ⟨trivial, trivial, trivial⟩ rfl (by (repeat' apply And.intro) <;> first | trivial | rfl | exact flat_len (fun _ => rfl) _ | exact encI_len _ | exact encB_len _ | exact encY_len _ | assumption) (rfl) rfl rfl rfl (by decide) rfl rfl ⟨⟨rfl, rfl⟩, trivial⟩
 ·have g3 : rightR l = true := (not_f h3)
  refine step_g1 rfl h3 ?_
  refine step_r rfl rfl trivial ?_
  refine step_g1 rfl h3 ?_
  refine step_bin rfl rfl rfl rfl rfl trivial ?_
  refine step_pickF rfl h3 rfl rfl ?_
  refine step_r rfl rfl trivial ?_
  refine step_gs rfl (fun h7 => ?_) (fun h7 => ?_)
  ·have g7 : (group : Int) < 1 := of_decide_eq_true h7
   refine step_g0 rfl h7 rfl ?_
   refine step_g0 rfl h7 rfl ?_
   refine step_pickT rfl h7 rfl rfl ?_
   refine step_nil ?_
   refine seqK_n ?_
   refine sem_condT rfl ?_
   refine sem_seq ?_
   refine sem_region rfl ?_
   refine step_n (nx' := 2) rfl rfl rfl trivial ?_
   refine step_r rfl rfl trivial ?_
   refine step_nil ?_
   refine seqK_n ?_
   refine sem_ret ?_
   refine seqK_r ?_
   have e8 : moveR l unit group = ([], 1) := by
    unfold moveR
    try dsimp only
    rewrite [if_pos g3, if_pos g7]
    all_goals rfl
   rw [e8]
   exact answersGR [] [1] rfl ⟨trivial, trivial, trivial⟩ rfl (by (repeat' apply And.intro) <;> first | trivial | rfl | exact flat_len (fun _ => rfl) _ | exact encI_len _ | exact encB_len _ | exact encY_len _ | assumption) (rfl) rfl rfl rfl (by decide) rfl rfl ⟨⟨rfl, rfl⟩, trivial⟩
  ·have g7 : ¬ ((group : Int) < 1) := of_decide_eq_false h7
   refine step_g1 rfl h7 ?_
   refine step_r rfl rfl trivial ?_
   refine step_g1 rfl h7 ?_
   refine step_bin rfl rfl rfl rfl rfl trivial ?_
   refine step_pickF rfl h7 rfl rfl ?_
   refine step_nil ?_
   refine seqK_n ?_
   refine sem_cond rfl (fun h10 => ?_) (fun h10 => ?_)
   ·have g10 : (group : Int) > 8 := of_decide_eq_true h10
    refine sem_seq ?_
    refine sem_region rfl ?_
    refine step_n (nx' := 2) rfl rfl rfl trivial ?_
    refine step_r rfl rfl trivial ?_
    refine step_nil ?_
    refine seqK_n ?_
    refine sem_ret ?_
    refine seqK_r ?_
    have e11 : moveR l unit group = ([], 1) := by
     unfold moveR
     try dsimp only
     rewrite [if_pos g3, if_neg g7, if_pos g10]
     all_goals rfl
    rw [e11]
    exact answersGR [] [1] rfl ⟨trivial, trivial, trivial⟩ rfl (by (repeat' apply And.intro) <;> first | trivial | rfl | exact flat_len (fun _ => rfl) _ | exact encI_len _ | exact encB_len _ | exact encY_len _ | assumption) (rfl) rfl rfl rfl (by decide) rfl rfl ⟨⟨rfl, rfl⟩, trivial⟩
   ·have g10 : ¬ ((group : Int) > 8) := of_decide_eq_false h10
    refine sem_skip ?_
    refine seqK_n ?_
    refine sem_seq ?_
    refine sem_region rfl ?_
    refine step_r rfl rfl trivial ?_
    refine step_r rfl rfl trivial ?_
    refine step_call rfl rfl rfl rfl (findR_ok l l_f unit) rfl rfl rfl ?_
    have p13 := findR_lt l unit
    refine step_r rfl rfl trivial ?_
    refine step_nil ?_
    refine seqK_n ?_
    refine sem_seq ?_
    refine sem_seq ?_
    refine sem_region rfl ?_
    refine step_r rfl rfl trivial ?_
    refine step_bin rfl rfl rfl rfl rfl trivial ?_
    refine step_nil ?_
    refine seqK_n ?_
    refine sem_cond rfl (fun h15 => ?_) (fun h15 => ?_)
    ·have g15 : (findR l unit : Int) < 0 := of_decide_eq_true h15
     refine sem_seq ?_
     refine sem_region rfl ?_
     refine step_n (nx' := 2) rfl rfl rfl trivial ?_
     refine step_r rfl rfl trivial ?_
     refine step_nil ?_
     refine seqK_n ?_
     refine sem_ret ?_
     refine seqK_r ?_
     have e16 : moveR l unit group = ([], 5) := by
      unfold moveR
      try dsimp only
      rewrite [if_pos g3, if_neg g7, if_neg g10, if_pos g15]
      all_goals rfl
     rw [e16]
     exact answersGR [] [1] rfl ⟨trivial, trivial, trivial⟩ rfl (by (repeat' apply And.intro) <;> first | trivial | rfl | exact flat_len (fun _ => rfl) _ | exact encI_len _ | exact encB_len _ | exact encY_len _ | assumption) (rfl) rfl rfl rfl (by decide) rfl rfl ⟨⟨rfl, rfl⟩, trivial⟩
    ·have g15 : ¬ ((findR l unit : Int) < 0) := of_decide_eq_false h15
     refine sem_skip ?_
     refine seqK_n ?_
     refine sem_seq ?_
     refine sem_seq ?_
     refine sem_region rfl ?_
     refine step_r rfl rfl trivial ?_
     refine step_r rfl rfl trivial ?_
     have jk17 : (findR l unit).toNat < l.length := by first | assumption | omega | (simp only [List.length_set, List.length_append]; omega) | (simp only [IntKind.wrap_i64] at *; omega) | (simp; omega) | simp_all
     refine step_idxS' (k := (findR l unit).toNat) rfl rfl (Int.toNat_of_nonneg (by first | omega | (simp only [IntKind.wrap_i64]; omega) | (simp only [IntKind.wrap_i64] at *; omega) | (simp; omega))).symm rfl rfl jk17 (flat_ne (s := 2) (enc := encGMember) (fun _ => rfl) (by decide) jk17) rfl ?_
     refine step_r rfl rfl (by decide) ?_
     refine step_load_one rfl rfl rfl (flat_get (s := 2) (enc := encGMember) (fun _ => rfl) (get_getD jk17) (o := 1) rfl (by decide)) rfl ?_
     refine step_r rfl rfl trivial ?_
     refine step_bin rfl rfl rfl rfl rfl trivial ?_
     refine step_nil ?_
     refine seqK_n ?_
     refine sem_cond rfl (fun h18 => ?_) (fun h18 => ?_)
     ·have g18 : ((l.getD ((findR l unit).toNat) default).Group : Int) = group := beq_t h18
      refine sem_seq ?_
      refine sem_region rfl ?_
      refine step_n (nx' := 2) rfl rfl rfl trivial ?_
      refine step_r rfl rfl trivial ?_
      refine step_nil ?_
      refine seqK_n ?_
      refine sem_ret ?_
      refine seqK_r ?_
      have e19 : moveR l unit group = ([], 7) := by
       unfold moveR
       try dsimp only
       rewrite [if_pos g3, if_neg g7, if_neg g10, if_neg g15, if_pos g18]
       all_goals rfl
      rw [e19]
      exact answersGR [] [1] rfl ⟨trivial, trivial, trivial⟩ rfl (by (repeat' apply And.intro) <;> first | trivial | rfl | exact flat_len (fun _ => rfl) _ | exact encI_len _ | exact encB_len _ | exact encY_len _ | assumption) (rfl) rfl rfl rfl (by decide) rfl rfl ⟨⟨rfl, rfl⟩, trivial⟩
     ·have g18 : ¬ (((l.getD ((findR l unit).toNat) default).Group : Int) = group) := beq_f h18
      refine sem_skip ?_
      refine seqK_n ?_
      refine sem_seq ?_
      refine sem_seq ?_
      refine sem_region rfl ?_
      refine step_r rfl rfl trivial ?_
      refine step_r rfl rfl trivial ?_
      refine step_callJ (Hin := []) (out' := .ref 1 _ _ _) (H' := [(1, .row _ _ _), (0, .row _ _ _)]) (nx' := 2) [] rfl rfl rfl rfl rfl rfl rfl rfl rfl (by (repeat' apply And.intro) <;> first | trivial | rfl | exact flat_len (fun _ => rfl) _ | exact encI_len _ | exact encB_len _ | exact encY_len _ | exact Nat.le_of_ble_eq_true rfl | assumption) (inR_ok l false group (by first | omega | (simp; omega))) rfl (by decide) rfl rfl ⟨encI_solid, trivial⟩ rfl rfl rfl rfl ?_
      refine step_r rfl rfl trivial ?_
      refine step_bin rfl rfl rfl rfl rfl trivial ?_
      refine step_nil ?_
      refine seqK_n ?_
      refine sem_cond rfl (fun h20 => ?_) (fun h20 => ?_)
      ·have g20 : ((inR l group).length : Int) ≥ 5 := of_decide_eq_true h20
       refine sem_seq ?_
       refine sem_region rfl ?_
       refine step_n (nx' := 3) rfl rfl rfl trivial ?_
       refine step_r rfl rfl trivial ?_
       refine step_nil ?_
       refine seqK_n ?_
       refine sem_ret ?_
       refine seqK_r ?_
       have e21 : moveR l unit group = ([], 4) := by
        unfold moveR
        try dsimp only
        rewrite [if_pos g3, if_neg g7, if_neg g10, if_neg g15, if_neg g18, if_pos g20]
        all_goals rfl
       rw [e21]
       exact answersGR [] [2] rfl ⟨trivial, trivial, trivial⟩ rfl (by (repeat' apply And.intro) <;> first | trivial | rfl | exact flat_len (fun _ => rfl) _ | exact encI_len _ | exact encB_len _ | exact encY_len _ | assumption) (rfl) rfl rfl rfl (by decide) rfl rfl ⟨⟨rfl, rfl⟩, trivial⟩
      ·have g20 : ¬ (((inR l group).length : Int) ≥ 5) := of_decide_eq_false h20
       refine sem_skip ?_
       refine seqK_n ?_
       refine sem_seq ?_
       refine sem_region rfl ?_
       refine step_r rfl rfl trivial ?_
       refine step_callJ (Hin := []) (out' := .ref 2 _ _ _) (H' := [(2, .row _ _ _), (1, .row _ _ _), (0, .row _ _ _)]) (nx' := 3) [] rfl rfl rfl rfl rfl rfl rfl rfl rfl (by (repeat' apply And.intro) <;> first | trivial | rfl | exact flat_len (fun _ => rfl) _ | exact encI_len _ | exact encB_len _ | exact encY_len _ | exact Nat.le_of_ble_eq_true rfl | assumption) (copiedR_ok l false (by first | omega | (simp; omega))) rfl (by decide) rfl rfl ⟨encGMember_solid, trivial⟩ rfl rfl rfl rfl ?_
       have p22 := copiedR_len l
       refine step_r rfl rfl trivial ?_
       refine step_nil ?_
       refine seqK_n ?_
       refine sem_seq ?_
       refine sem_region rfl ?_
       refine step_r rfl rfl trivial ?_
       refine step_r rfl rfl trivial ?_
       refine step_r rfl rfl trivial ?_
       have jk23 : (findR l unit).toNat < (copiedR l).length := by first | assumption | omega | (simp only [List.length_set, List.length_append]; omega) | (simp only [IntKind.wrap_i64] at *; omega) | (simp; omega) | simp_all
       refine step_idxR' (k := (findR l unit).toNat) rfl rfl (Int.toNat_of_nonneg (by first | omega | (simp only [IntKind.wrap_i64]; omega) | (simp only [IntKind.wrap_i64] at *; omega) | (simp; omega))).symm rfl rfl jk23 rfl ?_
       refine step_r rfl rfl (by decide) ?_
       refine step_storeR rfl rfl rfl rfl (by have := flat_lt (s := 2) (enc := encGMember) (fun _ => rfl) jk23; show ((findR l unit).toNat) * 2 + 1 < _; omega) (flat_set (enc := encGMember) (s := 2) (y := { ((copiedR l).getD ((findR l unit).toNat) default) with Group := group }) (fun _ => rfl) (get_getD jk23) (by decide) rfl) (.inl rfl) rfl ?_
       refine step_nil ?_
       refine seqK_n ?_
       refine sem_seq ?_
       refine sem_region rfl ?_
       refine step_r rfl rfl trivial ?_
       refine step_r rfl rfl trivial ?_
       refine step_r rfl rfl trivial ?_
       refine step_nil ?_
       refine seqK_n ?_
       refine sem_ret ?_
       have e24 : moveR l unit group = (((copiedR l).set (findR l unit).toNat { ((copiedR l).getD ((findR l unit).toNat) default) with Group := group }), 0) := by
        unfold moveR
        try dsimp only
        rewrite [if_pos g3, if_neg g7, if_neg g10, if_neg g15, if_neg g18, if_neg g20]
        all_goals rfl
       rw [e24]
       try simp only [List.length_set]
       exact answersGR [] [2] rfl ⟨trivial, trivial, trivial⟩ rfl (by (repeat' apply And.intro) <;> first | trivial | rfl | exact flat_len (fun _ => rfl) _ | exact encI_len _ | exact encB_len _ | exact encY_len _ | assumption) (rfl) rfl rfl rfl (by decide) rfl rfl ⟨⟨rfl, rfl⟩, trivial⟩

def swapR (l : List GMember) (a : Int) (b : Int) : (List GMember) × Int :=
  if rightR l = true then (if (findR l a : Int) < 0 then ([], 5) else if (findR l b : Int) < 0 then ([], 5) else if ((l.getD ((findR l a).toNat) default).Group : Int) = ((l.getD ((findR l b).toNat) default).Group) then ([], 7) else ((((copiedR l).set (findR l a).toNat { ((copiedR l).getD ((findR l a).toNat) default) with Group := (l.getD ((findR l b).toNat) default).Group }).set (findR l b).toNat { (((copiedR l).set (findR l a).toNat { ((copiedR l).getD ((findR l a).toNat) default) with Group := (l.getD ((findR l b).toNat) default).Group }).getD ((findR l b).toNat) default) with Group := (l.getD ((findR l a).toNat) default).Group }), 0)) else ([], 1)
theorem swapR_ok (l : List GMember) (l_f : Bool) (a : Int) (b : Int) (hl : l.length ≤ 16777215) : Ok Try.prog 15 [.pv (.slc l.length l_f (l.flatMap encGMember)), I a, I b] [] (.tup [.ref 0 2 0 (swapR l a b).1.length, I (swapR l a b).2]) [.row 31 2 ((swapR l a b).1.flatMap encGMember)] [] := by
 refine Ok.len fun hlen => ?_
 have hl_l : l.length ≤ maxLen := hlen _ (by simp [lensL, lens, lensP])
 unfold maxLen at hl_l
 refine ok_of_sem Try.func15 rfl ?_
 show Walks Try.prog _ _ ⟨[(0, .pv (.slc l.length l_f (l.flatMap encGMember))), (1, I a), (2, I b)], [], 0, [], 60, 0⟩
 refine sem_seq ?_
 refine sem_region rfl ?_
 refine step_n (nx' := 1) rfl rfl rfl trivial ?_
 refine step_r rfl rfl trivial ?_
 refine step_nil ?_
 refine seqK_n ?_
 refine sem_seq ?_
 refine sem_region rfl ?_
 refine step_r rfl rfl trivial ?_
 refine step_call rfl rfl rfl rfl (rightR_ok l l_f (by first | omega | (simp; omega))) rfl rfl rfl ?_
 refine step_r rfl rfl trivial ?_
 refine step_nil ?_
 refine seqK_n ?_
 refine sem_seq ?_
 refine sem_seq ?_
 refine sem_region rfl ?_
 refine step_r rfl rfl trivial ?_
 refine step_r rfl rfl trivial ?_
 refine step_nil ?_
 refine seqK_n ?_
 refine sem_cond rfl (fun h2 => ?_) (fun h2 => ?_)
 ·have g2 : ¬ (rightR l = true) := boo_f (not_t h2)
  refine sem_seq ?_
  refine sem_region rfl ?_
  refine step_n (nx' := 2) rfl rfl rfl trivial ?_
  refine step_r rfl rfl trivial ?_
  refine step_nil ?_
  refine seqK_n ?_
  refine sem_ret ?_
  refine seqK_r ?_
  have e3 : swapR l a b = ([], 1) := by
   unfold swapR
   try dsimp only
   rewrite [if_neg g2]
   all_goals rfl
  rw [e3]
  exact answersGR [] [1] rfl ⟨trivial, trivial, trivial⟩ rfl (by (repeat' apply And.intro) <;> first | trivial | rfl | exact flat_len (fun _ => rfl) _ | exact encI_len _ | exact encB_len _ | exact encY_len _ | assumption) (rfl) rfl rfl rfl (by decide) rfl rfl ⟨⟨rfl, rfl⟩, trivial⟩
 ·have g2 : rightR l = true := (not_f h2)
  refine sem_skip ?_
  refine seqK_n ?_
  refine sem_seq ?_
  refine sem_region rfl ?_
  refine step_r rfl rfl trivial ?_
  refine step_r rfl rfl trivial ?_
  refine step_call rfl rfl rfl rfl (findR_ok l l_f a) rfl rfl rfl ?_
  have p5 := findR_lt l a
  refine step_r rfl rfl trivial ?_
  refine step_nil ?_
  refine seqK_n ?_
  refine sem_seq ?_
  refine sem_region rfl ?_
  refine step_r rfl rfl trivial ?_
  refine step_r rfl rfl trivial ?_
  refine step_call rfl rfl rfl rfl (findR_ok l l_f b) rfl rfl rfl ?_
  have p8 := findR_lt l b
  refine step_r rfl rfl trivial ?_
  refine step_nil ?_
  refine seqK_n ?_
  refine sem_seq ?_
  refine sem_seq ?_
  refine sem_region rfl ?_
  refine step_r rfl rfl trivial ?_
  refine step_bin rfl rfl rfl rfl rfl trivial ?_
  refine step_r rfl rfl trivial ?_
  refine step_gs rfl (fun h11 => ?_) (fun h11 => ?_)
  ·have g11 : (findR l a : Int) < 0 := of_decide_eq_true h11
   refine step_g0 rfl h11 rfl ?_
   refine step_g0 rfl h11 rfl ?_
   refine step_pickT rfl h11 rfl rfl ?_
   refine step_nil ?_
   refine seqK_n ?_
   refine sem_condT rfl ?_
   refine sem_seq ?_
   refine sem_region rfl ?_
   refine step_n (nx' := 2) rfl rfl rfl trivial ?_
   refine step_r rfl rfl trivial ?_
   refine step_nil ?_
   refine seqK_n ?_
   refine sem_ret ?_
   refine seqK_r ?_
   have e12 : swapR l a b = ([], 5) := by
    unfold swapR
    try dsimp only
    rewrite [if_pos g2, if_pos g11]
    all_goals rfl
   rw [e12]
   exact answersGR [] [1] rfl ⟨trivial, trivial, trivial⟩ rfl (by (repeat' apply And.intro) <;> first | trivial | rfl | exact flat_len (fun _ => rfl) _ | exact encI_len _ | exact encB_len _ | exact encY_len _ | assumption) (rfl) rfl rfl rfl (by decide) rfl rfl ⟨⟨rfl, rfl⟩, trivial⟩
  ·have g11 : ¬ ((findR l a : Int) < 0) := of_decide_eq_false h11
   refine step_g1 rfl h11 ?_
   refine step_r rfl rfl trivial ?_
   refine step_g1 rfl h11 ?_
   refine step_bin rfl rfl rfl rfl rfl trivial ?_
   refine step_pickF rfl h11 rfl rfl ?_
   refine step_nil ?_
   refine seqK_n ?_
   refine sem_cond rfl (fun h14 => ?_) (fun h14 => ?_)
   ·have g14 : (findR l b : Int) < 0 := of_decide_eq_true h14
    refine sem_seq ?_
    refine sem_region rfl ?_
    refine step_n (nx' := 2) rfl rfl rfl trivial ?_
    refine step_r rfl rfl trivial ?_
    refine step_nil ?_
    refine seqK_n ?_
    refine sem_ret ?_
    refine seqK_r ?_
    have e15 : swapR l a b = ([], 5) := by
     unfold swapR
     try dsimp only
     rewrite [if_pos g2, if_neg g11, if_pos g14]
     all_goals rfl
    rw [e15]
    exact answersGR [] [1] rfl ⟨trivial, trivial, trivial⟩ rfl (by (repeat' apply And.intro) <;> first | trivial | rfl | exact flat_len (fun _ => rfl) _ | exact encI_len _ | exact encB_len _ | exact encY_len _ | assumption) (rfl) rfl rfl rfl (by decide) rfl rfl ⟨⟨rfl, rfl⟩, trivial⟩
   ·have g14 : ¬ ((findR l b : Int) < 0) := of_decide_eq_false h14
    refine sem_skip ?_
    refine seqK_n ?_
    refine sem_seq ?_
    refine sem_seq ?_
    refine sem_drawn rfl (by decide +kernel) rfl ?_
    refine step_r rfl rfl trivial ?_
    refine step_r rfl rfl trivial ?_
    have jk16 : (findR l a).toNat < l.length := by first | assumption | omega | (simp only [List.length_set, List.length_append]; omega) | (simp only [IntKind.wrap_i64] at *; omega) | (simp; omega) | simp_all
    refine step_idxS' (k := (findR l a).toNat) rfl rfl (Int.toNat_of_nonneg (by first | omega | (simp only [IntKind.wrap_i64]; omega) | (simp only [IntKind.wrap_i64] at *; omega) | (simp; omega))).symm rfl rfl jk16 (flat_ne (s := 2) (enc := encGMember) (fun _ => rfl) (by decide) jk16) rfl ?_
    refine step_r rfl rfl (by decide) ?_
    refine step_load_one rfl rfl rfl (flat_get (s := 2) (enc := encGMember) (fun _ => rfl) (get_getD jk16) (o := 1) rfl (by decide)) rfl ?_
    refine step_r rfl rfl trivial ?_
    refine step_r rfl rfl trivial ?_
    have jk17 : (findR l b).toNat < l.length := by first | assumption | omega | (simp only [List.length_set, List.length_append]; omega) | (simp only [IntKind.wrap_i64] at *; omega) | (simp; omega) | simp_all
    refine step_idxS' (k := (findR l b).toNat) rfl rfl (Int.toNat_of_nonneg (by first | omega | (simp only [IntKind.wrap_i64]; omega) | (simp only [IntKind.wrap_i64] at *; omega) | (simp; omega))).symm rfl rfl jk17 (flat_ne (s := 2) (enc := encGMember) (fun _ => rfl) (by decide) jk17) rfl ?_
    refine step_r rfl rfl (by decide) ?_
    refine step_load_one rfl rfl rfl (flat_get (s := 2) (enc := encGMember) (fun _ => rfl) (get_getD jk17) (o := 1) rfl (by decide)) rfl ?_
    refine step_bin rfl rfl rfl rfl rfl trivial ?_
    refine step_nil ?_
    refine seqK_n ?_
    refine sem_cond rfl (fun h18 => ?_) (fun h18 => ?_)
    ·have g18 : ((l.getD ((findR l a).toNat) default).Group : Int) = ((l.getD ((findR l b).toNat) default).Group) := beq_t h18
     refine sem_seq ?_
     refine sem_region rfl ?_
     refine step_n (nx' := 2) rfl rfl rfl trivial ?_
     refine step_r rfl rfl trivial ?_
     refine step_nil ?_
     refine seqK_n ?_
     refine sem_ret ?_
     refine seqK_r ?_
     have e19 : swapR l a b = ([], 7) := by
      unfold swapR
      try dsimp only
      rewrite [if_pos g2, if_neg g11, if_neg g14, if_pos g18]
      all_goals rfl
     rw [e19]
     exact answersGR [] [1] rfl ⟨trivial, trivial, trivial⟩ rfl (by (repeat' apply And.intro) <;> first | trivial | rfl | exact flat_len (fun _ => rfl) _ | exact encI_len _ | exact encB_len _ | exact encY_len _ | assumption) (rfl) rfl rfl rfl (by decide) rfl rfl ⟨⟨rfl, rfl⟩, trivial⟩
    ·have g18 : ¬ (((l.getD ((findR l a).toNat) default).Group : Int) = ((l.getD ((findR l b).toNat) default).Group)) := beq_f h18
     refine sem_skip ?_
     refine seqK_n ?_
     refine sem_seq ?_
     refine sem_region rfl ?_
     refine step_r rfl rfl trivial ?_
     refine step_callJ (Hin := []) (out' := .ref 1 _ _ _) (H' := [(1, .row _ _ _), (0, .row _ _ _)]) (nx' := 2) [] rfl rfl rfl rfl rfl rfl rfl rfl rfl (by (repeat' apply And.intro) <;> first | trivial | rfl | exact flat_len (fun _ => rfl) _ | exact encI_len _ | exact encB_len _ | exact encY_len _ | exact Nat.le_of_ble_eq_true rfl | assumption) (copiedR_ok l false (by first | omega | (simp; omega))) rfl (by decide) rfl rfl ⟨encGMember_solid, trivial⟩ rfl rfl rfl rfl ?_
     have p20 := copiedR_len l
     refine step_r rfl rfl trivial ?_
     refine step_nil ?_
     refine seqK_n ?_
     refine sem_seq ?_
     refine sem_region rfl ?_
     refine step_r rfl rfl trivial ?_
     refine step_r rfl rfl trivial ?_
     refine step_r rfl rfl trivial ?_
     refine step_r rfl rfl trivial ?_
     refine step_idxS' (k := (findR l b).toNat) rfl rfl (Int.toNat_of_nonneg (by first | omega | (simp only [IntKind.wrap_i64]; omega) | (simp only [IntKind.wrap_i64] at *; omega) | (simp; omega))).symm rfl rfl jk17 (flat_ne (s := 2) (enc := encGMember) (fun _ => rfl) (by decide) jk17) rfl ?_
     refine step_r rfl rfl (by decide) ?_
     refine step_load_one rfl rfl rfl (flat_get (s := 2) (enc := encGMember) (fun _ => rfl) (get_getD jk17) (o := 1) rfl (by decide)) rfl ?_
     have jk21 : (findR l a).toNat < (copiedR l).length := by first | assumption | omega | (simp only [List.length_set, List.length_append]; omega) | (simp only [IntKind.wrap_i64] at *; omega) | (simp; omega) | simp_all
     refine step_idxR' (k := (findR l a).toNat) rfl rfl (Int.toNat_of_nonneg (by first | omega | (simp only [IntKind.wrap_i64]; omega) | (simp only [IntKind.wrap_i64] at *; omega) | (simp; omega))).symm rfl rfl jk21 rfl ?_
     refine step_r rfl rfl (by decide) ?_
     refine step_storeR rfl rfl rfl rfl (by have := flat_lt (s := 2) (enc := encGMember) (fun _ => rfl) jk21; show ((findR l a).toNat) * 2 + 1 < _; omega) (flat_set (enc := encGMember) (s := 2) (y := { ((copiedR l).getD ((findR l a).toNat) default) with Group := (l.getD ((findR l b).toNat) default).Group }) (fun _ => rfl) (get_getD jk21) (by decide) rfl) (.inl rfl) rfl ?_
     refine step_nil ?_
     refine seqK_n ?_
     refine sem_seq ?_
     refine sem_region rfl ?_
     refine step_r rfl rfl trivial ?_
     refine step_r rfl rfl trivial ?_
     refine step_r rfl rfl trivial ?_
     refine step_r rfl rfl trivial ?_
     refine step_idxS' (k := (findR l a).toNat) rfl rfl (Int.toNat_of_nonneg (by first | omega | (simp only [IntKind.wrap_i64]; omega) | (simp only [IntKind.wrap_i64] at *; omega) | (simp; omega))).symm rfl rfl jk16 (flat_ne (s := 2) (enc := encGMember) (fun _ => rfl) (by decide) jk16) rfl ?_
     refine step_r rfl rfl (by decide) ?_
     refine step_load_one rfl rfl rfl (flat_get (s := 2) (enc := encGMember) (fun _ => rfl) (get_getD jk16) (o := 1) rfl (by decide)) rfl ?_
     have jk22 : (findR l b).toNat < ((copiedR l).set (findR l a).toNat { ((copiedR l).getD ((findR l a).toNat) default) with Group := (l.getD ((findR l b).toNat) default).Group }).length := by first | assumption | omega | (simp only [List.length_set, List.length_append]; omega) | (simp only [IntKind.wrap_i64] at *; omega) | (simp; omega) | simp_all
     refine step_idxR' (k := (findR l b).toNat) rfl rfl (Int.toNat_of_nonneg (by first | omega | (simp only [IntKind.wrap_i64]; omega) | (simp only [IntKind.wrap_i64] at *; omega) | (simp; omega))).symm rfl rfl (by first | assumption | omega | (have := jk22; simp only [List.length_set] at this ⊢; omega) | (have := jk22; simp at this ⊢; omega)) rfl ?_
     refine step_r rfl rfl (by decide) ?_
     refine step_storeR rfl rfl rfl rfl (by have := flat_lt (s := 2) (enc := encGMember) (fun _ => rfl) jk22; show ((findR l b).toNat) * 2 + 1 < _; omega) (flat_set (enc := encGMember) (s := 2) (y := { (((copiedR l).set (findR l a).toNat { ((copiedR l).getD ((findR l a).toNat) default) with Group := (l.getD ((findR l b).toNat) default).Group }).getD ((findR l b).toNat) default) with Group := (l.getD ((findR l a).toNat) default).Group }) (fun _ => rfl) (get_getD jk22) (by decide) rfl) (.inl rfl) rfl ?_
     refine step_nil ?_
     refine seqK_n ?_
     refine sem_seq ?_
     refine sem_region rfl ?_
     refine step_r rfl rfl trivial ?_
     refine step_r rfl rfl trivial ?_
     refine step_r rfl rfl trivial ?_
     refine step_nil ?_
     refine seqK_n ?_
     refine sem_ret ?_
     have e23 : swapR l a b = ((((copiedR l).set (findR l a).toNat { ((copiedR l).getD ((findR l a).toNat) default) with Group := (l.getD ((findR l b).toNat) default).Group }).set (findR l b).toNat { (((copiedR l).set (findR l a).toNat { ((copiedR l).getD ((findR l a).toNat) default) with Group := (l.getD ((findR l b).toNat) default).Group }).getD ((findR l b).toNat) default) with Group := (l.getD ((findR l a).toNat) default).Group }), 0) := by
      unfold swapR
      try dsimp only
      rewrite [if_pos g2, if_neg g11, if_neg g14, if_neg g18]
      all_goals rfl
     rw [e23]
     try simp only [List.length_set]
     exact answersGR [] [1] rfl ⟨trivial, trivial, trivial⟩ rfl (by (repeat' apply And.intro) <;> first | trivial | rfl | exact flat_len (fun _ => rfl) _ | exact encI_len _ | exact encB_len _ | exact encY_len _ | assumption) (rfl) rfl rfl rfl (by decide) rfl rfl ⟨⟨rfl, rfl⟩, trivial⟩
end Go.Proofs.Ytlcdcechaogofaa

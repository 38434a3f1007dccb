import Derived.Test.YtcbdecknbfabaaaSmall15
namespace Go.Proofs.Ytcbdecknbfabaaa
open Go Go.RowKit Go.Proofs.YtcbdecknbfabaaaVm
attribute [local irreducible] opsWp AnswersE OpsS
set_option maxHeartbeats 400000
set_option maxRecDepth 100000
set_option linter.all false
structure A5int where
  (f0 : Int)
  (f1 : Int)
  (f2 : Int)
  (f3 : Int)
  (f4 : Int)
  deriving DecidableEq, Inhabited
def encA5int (x : A5int) : List PV := [i64 x.f0, i64 x.f1, i64 x.f2, i64 x.f3, i64 x.f4]
abbrev aA5int (x : A5int) : AV := .agg [I x.f0, I x.f1, I x.f2, I x.f3, I x.f4]
def wfA5int (x : A5int) : Prop := (InR x.f0) ∧ (InR x.f1) ∧ (InR x.f2) ∧ (InR x.f3) ∧ (InR x.f4)
theorem encA5int_solid {l : List A5int} : ∀ p ∈ l.flatMap encA5int, solidP p = true := flat_solid (fun x p h => by simp only [encA5int, List.mem_cons, List.mem_nil_iff, or_false] at h; rcases h with rfl | rfl | rfl | rfl | rfl <;> rfl)

def A5int.get (x : A5int) (k : Nat) : Int := match k with | 0 => x.f0 | 1 => x.f1 | 2 => x.f2 | 3 => x.f3 | _ => x.f4
def A5int.set (x : A5int) (k : Nat) (v : Int) : A5int := match k with | 0 => { x with f0 := v } | 1 => { x with f1 := v } | 2 => { x with f2 := v } | 3 => { x with f3 := v } | _ => { x with f4 := v }
abbrev A5int.list (x : A5int) : List Int := [x.f0, x.f1, x.f2, x.f3, x.f4]
theorem A5int.get_cell (x : A5int) {k : Nat} (h : k < 5) : ([I x.f0, I x.f1, I x.f2, I x.f3, I x.f4] : List AV)[0 + k * 1]? = some (I (x.get k)) := by
  match k, h with | 0, _ => rfl | 1, _ => rfl | 2, _ => rfl | 3, _ => rfl | 4, _ => rfl | k + 5, h => exact absurd h (by omega)
theorem A5int.set_cell (x : A5int) {k : Nat} (h : k < 5) (v : Int) : ([I x.f0, I x.f1, I x.f2, I x.f3, I x.f4] : List AV).set (0 + k * 1) (I v) = [I (x.set k v).f0, I (x.set k v).f1, I (x.set k v).f2, I (x.set k v).f3, I (x.set k v).f4] := by
  match k, h with | 0, _ => rfl | 1, _ => rfl | 2, _ => rfl | 3, _ => rfl | 4, _ => rfl | k + 5, h => exact absurd h (by omega)
theorem A5int.get_list (x : A5int) {k : Nat} (h : k < 5) : x.list[k]? = some (x.get k) := by
  match k, h with | 0, _ => rfl | 1, _ => rfl | 2, _ => rfl | 3, _ => rfl | 4, _ => rfl | k + 5, h => exact absurd h (by omega)
theorem A5int.set_list (x : A5int) {k : Nat} (h : k < 5) (v : Int) : (x.set k v).list = x.list.set k v := by
  match k, h with | 0, _ => rfl | 1, _ => rfl | 2, _ => rfl | 3, _ => rfl | 4, _ => rfl | k + 5, h => exact absurd h (by omega)

def bigR_J13 (d0 : A5int) (a0 : Int) (k0 : Nat) : A5int :=
  if ((d0.set k0 ((a0 : Int).tmod 65536)).get k0 : Int) < 0 then ((d0.set k0 ((a0 : Int).tmod 65536)).set k0 (IntKind.i64.wrap (0 - ((d0.set k0 ((a0 : Int).tmod 65536)).get k0)))) else (d0.set k0 ((a0 : Int).tmod 65536))
def bigR_L0 : Nat → Nat → A5int → Int → A5int
  | 0, k0, d0, a0 => d0
  | n_ + 1, k0, d0, a0 => (let d_13 := bigR_J13 d0 a0 k0; bigR_L0 n_ (k0 + 1) d_13 (IntKind.i64.wrap ((a0 : Int).tdiv 65536)))
def bigR (a : Int) : A5int :=
  (let d_0 := bigR_L0 (4 - 0) 0 (⟨0, 0, 0, 0, 0⟩ : A5int) a; d_0)
theorem bigR_ok (a : Int) : Ok Try.prog 65 [I a] [] (aA5int (bigR a)) [] [] := by
 refine ok_of_sem Try.func65 rfl ?_
 show Walks Try.prog _ _ ⟨[(0, I a)], [], 0, [], 26, 0⟩
 refine sem_seq (sem_region rfl (step_n (o := .box [_, _, _, _, _]) (nx' := 1) rfl rfl rfl trivial (step_nil (seqK_n (sem_seq (sem_region rfl (step_n (o := .box [_, _, _, _, _]) (nx' := 2) rfl rfl rfl trivial (step_nil (seqK_n (sem_seq (sem_seq ?_)))))))))))
 refine sem_region rfl (step_r rfl rfl trivial (step_nil (seqK_n ?_)))
 refine sem_cutW (fun d_0 : A5int => (⟨[(2, .ptr 0 0), (3, .ptr 1 0)], [(0, .box [I 0, I 0, I 0, I 0, I 0]), (1, .box [I d_0.f0, I d_0.f1, I d_0.f2, I d_0.f3, I d_0.f4])], 2, [], 26, 0⟩ : St)) (fun w_ => bigR_L0 (4 - 0) 0 (⟨0, 0, 0, 0, 0⟩ : A5int) a = w_) ?_ ?_
 ·refine sem_block ?_
  refine sem_loopT (fun w_ : Nat × A5int × Int => match w_ with | (k0, d0, a0) => (⟨[(0, I a0), (2, .ptr 0 0), (3, .ptr 1 0), (4, I k0)], [(0, .box [I 0, I 0, I 0, I 0, I 0]), (1, .box [I d0.f0, I d0.f1, I d0.f2, I d0.f3, I d0.f4])], 2, [], 26, 0⟩ : St)) (fun w_ : Nat × A5int × Int => match w_ with | (k0, d0, a0) => bigR_L0 (4 - k0) k0 d0 a0 = bigR_L0 (4 - 0) 0 (⟨0, 0, 0, 0, 0⟩ : A5int) a ∧ k0 ≤ 4 ∧ True) (fun w_ : Nat × A5int × Int => match w_ with | (k0, d0, a0) => 4 - k0) (0, (⟨0, 0, 0, 0, 0⟩ : A5int), a) (⟨rfl, (by first | omega | (simp; omega)), by first | omega | simp | (simp; omega)⟩) ?_ (fun w_ hh_ => ?_)
  ·exact (Trans.ren [] (by decide +kernel) (by decide +kernel) rfl ⟨⟨rfl, rfl⟩, ⟨rfl, rfl⟩, ⟨rfl, rfl⟩, ⟨rfl, rfl⟩, trivial⟩ ⟨⟨rfl, rfl, rfl⟩, ⟨rfl, rfl, rfl⟩, trivial⟩ (by decide))
  obtain ⟨k0, d0, a0⟩ := w_
  obtain ⟨hI0, hb0, hv0⟩ := hh_
  show Walks Try.prog _ _ (⟨[(0, I a0), (2, .ptr 0 0), (3, .ptr 1 0), (4, I k0)], [(0, .box [I 0, I 0, I 0, I 0, I 0]), (1, .box [I d0.f0, I d0.f1, I d0.f2, I d0.f3, I d0.f4])], 2, [], 26, 0⟩ : St)
  refine sem_seq (sem_seq (sem_region rfl (step_r rfl rfl trivial (step_bin rfl rfl rfl rfl rfl trivial (step_nil (seqK_n ?_))))))
  refine sem_cond rfl (fun h3 => ?_) (fun h3 => ?_)
  ·have g3 : (k0 : Int) < 4 := of_decide_eq_true h3
   have hm0 : 4 - k0 = (4 - (k0 + 1)) + 1 := by omega
   refine sem_skip (seqK_n (sem_seq (sem_block (sem_seq (sem_region rfl (step_r rfl rfl trivial (step_r rfl rfl trivial ?_)))))))
   refine step_bin rfl rfl rfl rfl rfl (by first | decide | omega | simp_all) ?_
   have jk5 : k0 < 5 := by first | assumption | omega | (simp only [IntKind.wrap_i64]; omega) | (simp only [IntKind.wrap_i64] at *; omega) | (simp; omega) | simp_all
   refine step_idxA (k := k0) rfl rfl rfl rfl rfl jk5 rfl ?_
   refine step_store_boxA (cs' := [I (d0.set k0 ((a0 : Int).tmod 65536)).f0, I (d0.set k0 ((a0 : Int).tmod 65536)).f1, I (d0.set k0 ((a0 : Int).tmod 65536)).f2, I (d0.set k0 ((a0 : Int).tmod 65536)).f3, I (d0.set k0 ((a0 : Int).tmod 65536)).f4]) (H' := [(0, .box [_, _, _, _, _]), (1, .box [_, _, _, _, _])]) rfl rfl rfl rfl rfl rfl (by show 0 + k0 * 1 < 5; omega) (A5int.set_cell d0 jk5 _) (.inl rfl) rfl ?_
   refine step_nil (seqK_n (sem_seq ?_))
   refine sem_cutW (fun d_13 : A5int => (⟨[(0, I a0), (2, .ptr 0 0), (3, .ptr 1 0), (4, I k0)], [(0, .box [I 0, I 0, I 0, I 0, I 0]), (1, .box [I d_13.f0, I d_13.f1, I d_13.f2, I d_13.f3, I d_13.f4])], 2, [], 26, 0⟩ : St)) (fun w_ => bigR_J13 d0 a0 k0 = w_) ?_ ?_
   ·refine sem_seq (sem_region rfl (step_r rfl rfl trivial ?_))
    have jk7 : k0 < 5 := by first | assumption | omega | (simp only [IntKind.wrap_i64]; omega) | (simp only [IntKind.wrap_i64] at *; omega) | (simp; omega) | simp_all
    refine step_idxA (k := k0) rfl rfl rfl rfl rfl jk7 rfl ?_
    refine step_load_boxA rfl rfl rfl rfl (A5int.get_cell (d0.set k0 ((a0 : Int).tmod 65536)) jk7) rfl ?_
    refine step_bin rfl rfl rfl rfl rfl trivial (step_nil (seqK_n ?_))
    refine sem_cond rfl (fun h8 => ?_) (fun h8 => ?_)
    ·have g8 : ((d0.set k0 ((a0 : Int).tmod 65536)).get k0 : Int) < 0 := of_decide_eq_true h8
     refine sem_region rfl (step_r rfl rfl trivial (step_r rfl rfl trivial ?_))
     have jk9 : k0 < 5 := by first | assumption | omega | (simp only [IntKind.wrap_i64]; omega) | (simp only [IntKind.wrap_i64] at *; omega) | (simp; omega) | simp_all
     refine step_idxA (k := k0) rfl rfl rfl rfl rfl jk9 rfl ?_
     refine step_load_boxA rfl rfl rfl rfl (A5int.get_cell (d0.set k0 ((a0 : Int).tmod 65536)) jk9) rfl ?_
     refine step_r rfl rfl trivial ?_
     have jk10 : k0 < 5 := by first | assumption | omega | (simp only [IntKind.wrap_i64]; omega) | (simp only [IntKind.wrap_i64] at *; omega) | (simp; omega) | simp_all
     refine step_idxA (k := k0) rfl rfl rfl rfl rfl jk10 rfl ?_
     refine step_store_boxA (cs' := [I ((d0.set k0 ((a0 : Int).tmod 65536)).set k0 (IntKind.i64.wrap (0 - ((d0.set k0 ((a0 : Int).tmod 65536)).get k0)))).f0, I ((d0.set k0 ((a0 : Int).tmod 65536)).set k0 (IntKind.i64.wrap (0 - ((d0.set k0 ((a0 : Int).tmod 65536)).get k0)))).f1, I ((d0.set k0 ((a0 : Int).tmod 65536)).set k0 (IntKind.i64.wrap (0 - ((d0.set k0 ((a0 : Int).tmod 65536)).get k0)))).f2, I ((d0.set k0 ((a0 : Int).tmod 65536)).set k0 (IntKind.i64.wrap (0 - ((d0.set k0 ((a0 : Int).tmod 65536)).get k0)))).f3, I ((d0.set k0 ((a0 : Int).tmod 65536)).set k0 (IntKind.i64.wrap (0 - ((d0.set k0 ((a0 : Int).tmod 65536)).get k0)))).f4]) (H' := [(0, .box [_, _, _, _, _]), (1, .box [_, _, _, _, _])]) rfl rfl rfl rfl rfl rfl (by show 0 + k0 * 1 < 5; omega) (A5int.set_cell (d0.set k0 ((a0 : Int).tmod 65536)) jk10 _) (.inl rfl) rfl ?_
     refine step_nil ?_
     have e11 : bigR_J13 d0 a0 k0 = ((d0.set k0 ((a0 : Int).tmod 65536)).set k0 (IntKind.i64.wrap (0 - ((d0.set k0 ((a0 : Int).tmod 65536)).get k0)))) := by
      unfold bigR_J13
      try dsimp only
      rewrite [if_pos g8]
      all_goals rfl
     exact cutW_n ((d0.set k0 ((a0 : Int).tmod 65536)).set k0 (IntKind.i64.wrap (0 - ((d0.set k0 ((a0 : Int).tmod 65536)).get k0)))) e11 (Trans.ren [] (by decide +kernel) (by decide +kernel) rfl ⟨⟨rfl, rfl⟩, ⟨rfl, rfl⟩, ⟨rfl, rfl⟩, ⟨rfl, rfl⟩, trivial⟩ ⟨⟨rfl, rfl, rfl⟩, ⟨rfl, rfl, rfl⟩, trivial⟩ (by decide))
    ·have g8 : ¬ (((d0.set k0 ((a0 : Int).tmod 65536)).get k0 : Int) < 0) := of_decide_eq_false h8
     refine sem_skip ?_
     have e12 : bigR_J13 d0 a0 k0 = (d0.set k0 ((a0 : Int).tmod 65536)) := by
      unfold bigR_J13
      try dsimp only
      rewrite [if_neg g8]
      all_goals rfl
     exact cutW_n (d0.set k0 ((a0 : Int).tmod 65536)) e12 (Trans.ren [] (by decide +kernel) (by decide +kernel) rfl ⟨⟨rfl, rfl⟩, ⟨rfl, rfl⟩, ⟨rfl, rfl⟩, ⟨rfl, rfl⟩, trivial⟩ ⟨⟨rfl, rfl, rfl⟩, ⟨rfl, rfl, rfl⟩, trivial⟩ (by decide))
   ·rintro d_13 (hJ6 : bigR_J13 d0 a0 k0 = d_13)
    show seqK _ _ _ .normal (⟨[(0, I a0), (2, .ptr 0 0), (3, .ptr 1 0), (4, I k0)], [(0, .box [I 0, I 0, I 0, I 0, I 0]), (1, .box [I d_13.f0, I d_13.f1, I d_13.f2, I d_13.f3, I d_13.f4])], 2, [], 26, 0⟩ : St)
    refine seqK_n (sem_region rfl (step_r rfl rfl trivial ?_))
    refine step_bin rfl rfl rfl rfl rfl (by first | decide | omega | simp_all) ?_
    refine step_r rfl rfl trivial (step_nil (blkK_n (seqK_n (sem_region rfl (step_r rfl rfl trivial (step_bin rfl rfl rfl rfl rfl trivial (step_r rfl rfl trivial (step_nil ?_))))))))
    have e17 : bigR_L0 (4 - k0) k0 d0 a0 = bigR_L0 (4 - (k0 + 1)) (k0 + 1) d_13 (IntKind.i64.wrap ((a0 : Int).tdiv 65536)) := by
     rewrite [hm0]
     rewrite [bigR_L0]
     try dsimp only
     rewrite [hJ6]
     try dsimp only
     all_goals rfl
    exact lup_againT (k0 + 1, d_13, (IntKind.i64.wrap ((a0 : Int).tdiv 65536))) ⟨e17.symm.trans hI0, (by omega), by first | omega | assumption | (simp only [List.length_append, List.length_cons, List.length_nil, List.length_set]; omega) | (simp; omega) | grind⟩ (by show 4 - (k0 + 1) < 4 - k0; omega) (Trans.ren [] (by decide +kernel) (by decide +kernel) rfl ⟨⟨rfl, rfl⟩, ⟨rfl, rfl⟩, ⟨rfl, rfl⟩, ⟨congrArg (fun n => some (I n)) (wrapI (k := k0) (by first | omega | (simp; omega))), rfl⟩, trivial⟩ ⟨⟨rfl, rfl, rfl⟩, ⟨rfl, rfl, rfl⟩, trivial⟩ (by decide))
  ·have g3 : ¬ ((k0 : Int) < 4) := of_decide_eq_false h3
   have hm0 : 4 - k0 = 0 := by omega
   refine sem_exit (seqK_e (lupK_e (blkK_t rfl ?_)))
   have e18 : bigR_L0 (4 - 0) 0 (⟨0, 0, 0, 0, 0⟩ : A5int) a = d0 := by
    rewrite [← hI0, hm0]
    rewrite [bigR_L0]
    try dsimp only
    all_goals rfl
   exact cutW_n d0 e18 (Trans.ren [] (by decide +kernel) (by decide +kernel) rfl ⟨⟨rfl, rfl⟩, ⟨rfl, rfl⟩, trivial⟩ ⟨⟨rfl, rfl, rfl⟩, ⟨rfl, rfl, rfl⟩, trivial⟩ (by decide))
 ·rintro d_0 (hJ1 : bigR_L0 (4 - 0) 0 (⟨0, 0, 0, 0, 0⟩ : A5int) a = d_0)
  show seqK _ _ _ .normal (⟨[(2, .ptr 0 0), (3, .ptr 1 0)], [(0, .box [I 0, I 0, I 0, I 0, I 0]), (1, .box [I d_0.f0, I d_0.f1, I d_0.f2, I d_0.f3, I d_0.f4])], 2, [], 26, 0⟩ : St)
  refine seqK_n (sem_seq (sem_region rfl (step_r (v := (.agg [_, _, _, _, _])) rfl rfl (Nat.le_of_ble_eq_true rfl) (step_store (H' := [(0, .box [_, _, _, _, _]), (1, .box [_, _, _, _, _])]) rfl rfl rfl rfl rfl rfl (Nat.le_of_ble_eq_true rfl) (.inl rfl) rfl (step_nil (seqK_n (sem_ret ?_)))))))
  have e19 : bigR a = d_0 := by
   unfold bigR
   try dsimp only
   rewrite [hJ1]
   try dsimp only
   all_goals rfl
  rw [e19]
  exact answersR rfl ⟨Nat.le_of_ble_eq_true rfl, trivial⟩ (rfl) rfl

structure A10int where
  (f0 : Int)
  (f1 : Int)
  (f2 : Int)
  (f3 : Int)
  (f4 : Int)
  (f5 : Int)
  (f6 : Int)
  (f7 : Int)
  (f8 : Int)
  (f9 : Int)
  deriving DecidableEq, Inhabited
def encA10int (x : A10int) : List PV := [i64 x.f0, i64 x.f1, i64 x.f2, i64 x.f3, i64 x.f4, i64 x.f5, i64 x.f6, i64 x.f7, i64 x.f8, i64 x.f9]
abbrev aA10int (x : A10int) : AV := .agg [I x.f0, I x.f1, I x.f2, I x.f3, I x.f4, I x.f5, I x.f6, I x.f7, I x.f8, I x.f9]
def wfA10int (x : A10int) : Prop := (InR x.f0) ∧ (InR x.f1) ∧ (InR x.f2) ∧ (InR x.f3) ∧ (InR x.f4) ∧ (InR x.f5) ∧ (InR x.f6) ∧ (InR x.f7) ∧ (InR x.f8) ∧ (InR x.f9)
theorem encA10int_solid {l : List A10int} : ∀ p ∈ l.flatMap encA10int, solidP p = true := flat_solid (fun x p h => by simp only [encA10int, List.mem_cons, List.mem_nil_iff, or_false] at h; rcases h with rfl | rfl | rfl | rfl | rfl | rfl | rfl | rfl | rfl | rfl <;> rfl)

def A10int.get (x : A10int) (k : Nat) : Int := match k with | 0 => x.f0 | 1 => x.f1 | 2 => x.f2 | 3 => x.f3 | 4 => x.f4 | 5 => x.f5 | 6 => x.f6 | 7 => x.f7 | 8 => x.f8 | _ => x.f9
def A10int.set (x : A10int) (k : Nat) (v : Int) : A10int := match k with | 0 => { x with f0 := v } | 1 => { x with f1 := v } | 2 => { x with f2 := v } | 3 => { x with f3 := v } | 4 => { x with f4 := v } | 5 => { x with f5 := v } | 6 => { x with f6 := v } | 7 => { x with f7 := v } | 8 => { x with f8 := v } | _ => { x with f9 := v }
abbrev A10int.list (x : A10int) : List Int := [x.f0, x.f1, x.f2, x.f3, x.f4, x.f5, x.f6, x.f7, x.f8, x.f9]
theorem A10int.get_cell (x : A10int) {k : Nat} (h : k < 10) : ([I x.f0, I x.f1, I x.f2, I x.f3, I x.f4, I x.f5, I x.f6, I x.f7, I x.f8, I x.f9] : List AV)[0 + k * 1]? = some (I (x.get k)) := by
  match k, h with | 0, _ => rfl | 1, _ => rfl | 2, _ => rfl | 3, _ => rfl | 4, _ => rfl | 5, _ => rfl | 6, _ => rfl | 7, _ => rfl | 8, _ => rfl | 9, _ => rfl | k + 10, h => exact absurd h (by omega)
theorem A10int.set_cell (x : A10int) {k : Nat} (h : k < 10) (v : Int) : ([I x.f0, I x.f1, I x.f2, I x.f3, I x.f4, I x.f5, I x.f6, I x.f7, I x.f8, I x.f9] : List AV).set (0 + k * 1) (I v) = [I (x.set k v).f0, I (x.set k v).f1, I (x.set k v).f2, I (x.set k v).f3, I (x.set k v).f4, I (x.set k v).f5, I (x.set k v).f6, I (x.set k v).f7, I (x.set k v).f8, I (x.set k v).f9] := by
  match k, h with | 0, _ => rfl | 1, _ => rfl | 2, _ => rfl | 3, _ => rfl | 4, _ => rfl | 5, _ => rfl | 6, _ => rfl | 7, _ => rfl | 8, _ => rfl | 9, _ => rfl | k + 10, h => exact absurd h (by omega)
theorem A10int.get_list (x : A10int) {k : Nat} (h : k < 10) : x.list[k]? = some (x.get k) := by
  match k, h with | 0, _ => rfl | 1, _ => rfl | 2, _ => rfl | 3, _ => rfl | 4, _ => rfl | 5, _ => rfl | 6, _ => rfl | 7, _ => rfl | 8, _ => rfl | 9, _ => rfl | k + 10, h => exact absurd h (by omega)
theorem A10int.set_list (x : A10int) {k : Nat} (h : k < 10) (v : Int) : (x.set k v).list = x.list.set k v := by
  match k, h with | 0, _ => rfl | 1, _ => rfl | 2, _ => rfl | 3, _ => rfl | 4, _ => rfl | 5, _ => rfl | 6, _ => rfl | 7, _ => rfl | 8, _ => rfl | 9, _ => rfl | k + 10, h => exact absurd h (by omega)

def mulR_L1 (a : Int) (b : Int) (k0 : Nat) : Nat → Nat → A10int → Int → A10int × Int
  | 0, k1, z1, c1 => (z1, c1)
  | n_ + 1, k1, z1, c1 => mulR_L1 a b k0 n_ (k1 + 1) (z1.set ((IntKind.i64.wrap (k0 + k1)).toNat) ((IntKind.i64.wrap ((IntKind.i64.wrap ((z1.get ((IntKind.i64.wrap (k0 + k1)).toNat)) + (IntKind.i64.wrap (((bigR a).get k0) * ((bigR b).get k1))))) + c1) : Int).tmod 65536)) (IntKind.i64.wrap ((IntKind.i64.wrap ((IntKind.i64.wrap ((z1.get ((IntKind.i64.wrap (k0 + k1)).toNat)) + (IntKind.i64.wrap (((bigR a).get k0) * ((bigR b).get k1))))) + c1) : Int).tdiv 65536))
def mulR_L0 (a : Int) (b : Int) : Nat → Nat → A10int → A10int
  | 0, k0, z0 => z0
  | n_ + 1, k0, z0 => (match mulR_L1 a b k0 (5 - 0) 0 z0 0 with
    | (z_1, c_1) => mulR_L0 a b n_ (k0 + 1) (z_1.set ((IntKind.i64.wrap (k0 + 5)).toNat) (IntKind.i64.wrap ((z_1.get ((IntKind.i64.wrap (k0 + 5)).toNat)) + c_1))))
def mulR_L2 (z_0 : A10int) : Nat → Nat → Bool → Bool
  | 0, k2, over2 => over2
  | n_ + 1, k2, over2 => if over2 = true then mulR_L2 z_0 n_ (k2 + 1) true else mulR_L2 z_0 n_ (k2 + 1) ((z_0.get k2 : Int) != 0)
def mulR_J85 (z_0 : A10int) (over3 : Bool) (v3 : Int) (i3 : Int) : Bool × Int :=
  if (v3 : Int) < (IntKind.i64.wrap ((IntKind.i64.wrap ((-9223372036854775808) + (z_0.get i3.toNat)) : Int).tdiv 65536)) then (true, v3) else (over3, (IntKind.i64.wrap ((IntKind.i64.wrap (65536 * v3)) - (z_0.get i3.toNat))))
def mulR_L3 (z_0 : A10int) : Nat → Bool → Int → Int → Bool × Int
  | 0, _, _, _ => default
  | n_ + 1, over3, v3, i3 => if (i3 : Int) ≥ 0 then (if over3 = true then (over3, v3) else (match mulR_J85 z_0 over3 v3 i3 with
    | (over_85, v_85) => mulR_L3 z_0 n_ over_85 v_85 (IntKind.i64.wrap (i3 - 1)))) else (over3, v3)
def mulR_J98 (a : Int) (b : Int) (over_3 : Bool) : Sum Int Unit :=
  if over_3 = true then (if (decide ((a : Int) < 0)) = (decide ((b : Int) < 0)) then .inr () else .inl (-9223372036854775808)) else .inr ()
def mulR (a : Int) (b : Int) : Int :=
  (let z_0 := mulR_L0 a b (4 - 0) 0 (⟨0, 0, 0, 0, 0, 0, 0, 0, 0, 0⟩ : A10int); (let over_2 := mulR_L2 z_0 (10 - 4) 4 false; (match mulR_L3 z_0 (5) over_2 0 3 with
    | (over_3, v_3) => (match mulR_J98 a b over_3 with
    | .inl r_ => r_
    | .inr () => if over_3 = true then 9223372036854775807 else if (decide ((a : Int) < 0)) = (decide ((b : Int) < 0)) then (if (v_3 : Int) = (-9223372036854775808) then 9223372036854775807 else if (decide ((a : Int) < 0)) = (decide ((b : Int) < 0)) then (IntKind.i64.wrap (0 - v_3)) else v_3) else if (decide ((a : Int) < 0)) = (decide ((b : Int) < 0)) then (IntKind.i64.wrap (0 - v_3)) else v_3))))
theorem mulR_ok (a : Int) (b : Int) : Ok Try.prog 52 [I a, I b] [] (I (mulR a b)) [] [] := by
 refine ok_of_sem Try.func52 rfl ?_
 show Walks Try.prog _ _ ⟨[(0, I a), (1, I b)], [], 0, [], 115, 0⟩
 refine sem_seq (sem_region rfl (step_r rfl rfl trivial (step_nil (seqK_n (sem_seq (sem_region rfl (step_r rfl rfl trivial (step_call rfl rfl rfl rfl (bigR_ok a) rfl rfl rfl (step_n (o := .box [_, _, _, _, _]) (nx' := 1) rfl rfl rfl trivial (step_store (H' := [(0, .box [_, _, _, _, _])]) rfl rfl rfl rfl rfl rfl (Nat.le_of_ble_eq_true rfl) (.inl rfl) rfl (step_nil ?_)))))))))))
 refine seqK_n (sem_seq (sem_region rfl (step_r rfl rfl trivial (step_call rfl rfl rfl rfl (bigR_ok b) rfl rfl rfl (step_n (o := .box [_, _, _, _, _]) (nx' := 2) rfl rfl rfl trivial (step_store (H' := [(1, .box [_, _, _, _, _]), (0, .box [_, _, _, _, _])]) rfl rfl rfl rfl rfl rfl (Nat.le_of_ble_eq_true rfl) (.inl rfl) rfl (step_nil (seqK_n (sem_seq (sem_region rfl (step_n (o := .box [_, _, _, _, _, _, _, _, _, _]) (nx' := 3) rfl rfl rfl trivial ?_)))))))))))
 refine step_nil (seqK_n (sem_seq (sem_seq (sem_region rfl (step_r rfl rfl trivial (step_nil (seqK_n ?_)))))))
 refine sem_cutW (fun z_0 : A10int => (⟨[(0, I a), (1, I b), (7, .ptr 0 0)], [(0, .box [I z_0.f0, I z_0.f1, I z_0.f2, I z_0.f3, I z_0.f4, I z_0.f5, I z_0.f6, I z_0.f7, I z_0.f8, I z_0.f9])], 1, [], 115, 0⟩ : St)) (fun w_ => mulR_L0 a b (4 - 0) 0 (⟨0, 0, 0, 0, 0, 0, 0, 0, 0, 0⟩ : A10int) = w_) ?_ ?_
 ·refine sem_block ?_
  refine sem_loopT (fun w_ : Nat × A10int => match w_ with | (k0, z0) => (⟨[(0, I a), (1, I b), (5, .ptr 0 0), (6, .ptr 1 0), (7, .ptr 2 0), (8, I k0)], [(0, .box [I (bigR a).f0, I (bigR a).f1, I (bigR a).f2, I (bigR a).f3, I (bigR a).f4]), (1, .box [I (bigR b).f0, I (bigR b).f1, I (bigR b).f2, I (bigR b).f3, I (bigR b).f4]), (2, .box [I z0.f0, I z0.f1, I z0.f2, I z0.f3, I z0.f4, I z0.f5, I z0.f6, I z0.f7, I z0.f8, I z0.f9])], 3, [], 115, 0⟩ : St)) (fun w_ : Nat × A10int => match w_ with | (k0, z0) => mulR_L0 a b (4 - k0) k0 z0 = mulR_L0 a b (4 - 0) 0 (⟨0, 0, 0, 0, 0, 0, 0, 0, 0, 0⟩ : A10int) ∧ k0 ≤ 4) (fun w_ : Nat × A10int => match w_ with | (k0, z0) => 4 - k0) (0, (⟨0, 0, 0, 0, 0, 0, 0, 0, 0, 0⟩ : A10int)) (⟨rfl, (by first | omega | (simp; omega))⟩) ?_ (fun w_ hh_ => ?_)
  ·exact (Trans.ren [] (by decide +kernel) (by decide +kernel) rfl ⟨⟨rfl, rfl⟩, ⟨rfl, rfl⟩, ⟨rfl, rfl⟩, ⟨rfl, rfl⟩, ⟨rfl, rfl⟩, ⟨rfl, rfl⟩, trivial⟩ ⟨⟨rfl, rfl, rfl⟩, ⟨rfl, rfl, rfl⟩, ⟨rfl, rfl, rfl⟩, trivial⟩ (by decide))
  obtain ⟨k0, z0⟩ := w_
  obtain ⟨hI0, hb0⟩ := hh_
  show Walks Try.prog _ _ (⟨[(0, I a), (1, I b), (5, .ptr 0 0), (6, .ptr 1 0), (7, .ptr 2 0), (8, I k0)], [(0, .box [I (bigR a).f0, I (bigR a).f1, I (bigR a).f2, I (bigR a).f3, I (bigR a).f4]), (1, .box [I (bigR b).f0, I (bigR b).f1, I (bigR b).f2, I (bigR b).f3, I (bigR b).f4]), (2, .box [I z0.f0, I z0.f1, I z0.f2, I z0.f3, I z0.f4, I z0.f5, I z0.f6, I z0.f7, I z0.f8, I z0.f9])], 3, [], 115, 0⟩ : St)
  refine sem_seq (sem_seq (sem_region rfl (step_r rfl rfl trivial (step_bin rfl rfl rfl rfl rfl trivial (step_nil (seqK_n ?_))))))
  refine sem_cond rfl (fun h5 => ?_) (fun h5 => ?_)
  ·have g5 : (k0 : Int) < 4 := of_decide_eq_true h5
   have hm0 : 4 - k0 = (4 - (k0 + 1)) + 1 := by omega
   refine sem_skip (seqK_n (sem_seq (sem_block (sem_seq (sem_region rfl (step_r rfl rfl trivial (step_nil (seqK_n (sem_seq (sem_seq (sem_region rfl ?_)))))))))))
   refine step_r rfl rfl trivial (step_nil (seqK_n ?_))
   refine sem_cutW (fun w_ : A10int × Int => match w_ with | (z_1, c_1) => (⟨[(0, I a), (1, I b), (5, .ptr 0 0), (6, .ptr 1 0), (7, .ptr 2 0), (8, I k0), (9, I c_1)], [(0, .box [I (bigR a).f0, I (bigR a).f1, I (bigR a).f2, I (bigR a).f3, I (bigR a).f4]), (1, .box [I (bigR b).f0, I (bigR b).f1, I (bigR b).f2, I (bigR b).f3, I (bigR b).f4]), (2, .box [I z_1.f0, I z_1.f1, I z_1.f2, I z_1.f3, I z_1.f4, I z_1.f5, I z_1.f6, I z_1.f7, I z_1.f8, I z_1.f9])], 3, [], 115, 0⟩ : St)) (fun w_ => mulR_L1 a b k0 (5 - 0) 0 z0 0 = w_) ?_ ?_
   ·refine sem_block ?_
    refine sem_loopT (fun w_ : Nat × A10int × Int => match w_ with | (k1, z1, c1) => (⟨[(0, I a), (1, I b), (5, .ptr 0 0), (6, .ptr 1 0), (7, .ptr 2 0), (8, I k0), (9, I c1), (10, I k1)], [(0, .box [I (bigR a).f0, I (bigR a).f1, I (bigR a).f2, I (bigR a).f3, I (bigR a).f4]), (1, .box [I (bigR b).f0, I (bigR b).f1, I (bigR b).f2, I (bigR b).f3, I (bigR b).f4]), (2, .box [I z1.f0, I z1.f1, I z1.f2, I z1.f3, I z1.f4, I z1.f5, I z1.f6, I z1.f7, I z1.f8, I z1.f9])], 3, [], 115, 0⟩ : St)) (fun w_ : Nat × A10int × Int => match w_ with | (k1, z1, c1) => mulR_L1 a b k0 (5 - k1) k1 z1 c1 = mulR_L1 a b k0 (5 - 0) 0 z0 0 ∧ k1 ≤ 5) (fun w_ : Nat × A10int × Int => match w_ with | (k1, z1, c1) => 5 - k1) (0, z0, 0) (⟨rfl, (by first | omega | (simp; omega))⟩) ?_ (fun w_ hh_ => ?_)
    ·exact (Trans.ren [] (by decide +kernel) (by decide +kernel) rfl ⟨⟨rfl, rfl⟩, ⟨rfl, rfl⟩, ⟨rfl, rfl⟩, ⟨rfl, rfl⟩, ⟨rfl, rfl⟩, ⟨rfl, rfl⟩, ⟨rfl, rfl⟩, ⟨rfl, rfl⟩, trivial⟩ ⟨⟨rfl, rfl, rfl⟩, ⟨rfl, rfl, rfl⟩, ⟨rfl, rfl, rfl⟩, trivial⟩ (by decide))
    obtain ⟨k1, z1, c1⟩ := w_
    obtain ⟨hI1, hb1⟩ := hh_
    show Walks Try.prog _ _ (⟨[(0, I a), (1, I b), (5, .ptr 0 0), (6, .ptr 1 0), (7, .ptr 2 0), (8, I k0), (9, I c1), (10, I k1)], [(0, .box [I (bigR a).f0, I (bigR a).f1, I (bigR a).f2, I (bigR a).f3, I (bigR a).f4]), (1, .box [I (bigR b).f0, I (bigR b).f1, I (bigR b).f2, I (bigR b).f3, I (bigR b).f4]), (2, .box [I z1.f0, I z1.f1, I z1.f2, I z1.f3, I z1.f4, I z1.f5, I z1.f6, I z1.f7, I z1.f8, I z1.f9])], 3, [], 115, 0⟩ : St)
    refine sem_seq (sem_seq (sem_region rfl (step_r rfl rfl trivial (step_bin rfl rfl rfl rfl rfl trivial (step_nil (seqK_n ?_))))))
    refine sem_cond rfl (fun h8 => ?_) (fun h8 => ?_)
    ·have g8 : (k1 : Int) < 5 := of_decide_eq_true h8
     have hm1 : 5 - k1 = (5 - (k1 + 1)) + 1 := by omega
     refine sem_skip (seqK_n (sem_seq (sem_block (sem_seq ?_))))
     refine sem_drawn rfl (by decide +kernel) rfl ?_
     refine step_r rfl rfl trivial (step_r rfl rfl trivial (step_bin rfl rfl rfl rfl rfl trivial ?_))
     have jk10 : (IntKind.i64.wrap (k0 + k1)).toNat < 10 := by first | assumption | omega | (simp only [IntKind.wrap_i64]; omega) | (simp only [IntKind.wrap_i64] at *; omega) | (simp; omega) | simp_all
     refine step_idxA (k := (IntKind.i64.wrap (k0 + k1)).toNat) rfl rfl (Int.toNat_of_nonneg (by first | omega | (simp only [IntKind.wrap_i64]; omega) | (simp only [IntKind.wrap_i64] at *; omega) | (simp; omega))).symm rfl rfl jk10 rfl ?_
     refine step_load_boxA rfl rfl rfl rfl (A10int.get_cell z1 jk10) rfl ?_
     refine step_r rfl rfl trivial ?_
     have jk11 : k0 < 5 := by first | assumption | omega | (simp only [IntKind.wrap_i64]; omega) | (simp only [IntKind.wrap_i64] at *; omega) | (simp; omega) | simp_all
     refine step_idxA (k := k0) rfl rfl rfl rfl rfl jk11 rfl ?_
     refine step_load_boxA rfl rfl rfl rfl (A5int.get_cell (bigR a) jk11) rfl ?_
     refine step_r rfl rfl trivial ?_
     have jk12 : k1 < 5 := by first | assumption | omega | (simp only [IntKind.wrap_i64]; omega) | (simp only [IntKind.wrap_i64] at *; omega) | (simp; omega) | simp_all
     refine step_idxA (k := k1) rfl rfl rfl rfl rfl jk12 rfl ?_
     refine step_load_boxA rfl rfl rfl rfl (A5int.get_cell (bigR b) jk12) rfl ?_
     refine step_bin rfl rfl rfl rfl rfl trivial (step_bin rfl rfl rfl rfl rfl trivial (step_r rfl rfl trivial (step_bin rfl rfl rfl rfl rfl trivial (step_r rfl rfl trivial (step_nil (seqK_n (sem_seq (sem_region rfl (step_r rfl rfl trivial (step_r rfl rfl trivial (step_bin rfl rfl rfl rfl rfl trivial ?_)))))))))))
     refine step_r rfl rfl trivial ?_
     refine step_bin rfl rfl rfl rfl rfl (by first | decide | omega | simp_all) ?_
     have jk15 : (IntKind.i64.wrap (k0 + k1)).toNat < 10 := by first | assumption | omega | (simp only [IntKind.wrap_i64]; omega) | (simp only [IntKind.wrap_i64] at *; omega) | (simp; omega) | simp_all
     refine step_idxA (k := (IntKind.i64.wrap (k0 + k1)).toNat) rfl rfl (Int.toNat_of_nonneg (by first | omega | (simp only [IntKind.wrap_i64]; omega) | (simp only [IntKind.wrap_i64] at *; omega) | (simp; omega))).symm rfl rfl jk15 rfl ?_
     refine step_store_boxA (cs' := [I (z1.set ((IntKind.i64.wrap (k0 + k1)).toNat) ((IntKind.i64.wrap ((IntKind.i64.wrap ((z1.get ((IntKind.i64.wrap (k0 + k1)).toNat)) + (IntKind.i64.wrap (((bigR a).get k0) * ((bigR b).get k1))))) + c1) : Int).tmod 65536)).f0, I (z1.set ((IntKind.i64.wrap (k0 + k1)).toNat) ((IntKind.i64.wrap ((IntKind.i64.wrap ((z1.get ((IntKind.i64.wrap (k0 + k1)).toNat)) + (IntKind.i64.wrap (((bigR a).get k0) * ((bigR b).get k1))))) + c1) : Int).tmod 65536)).f1, I (z1.set ((IntKind.i64.wrap (k0 + k1)).toNat) ((IntKind.i64.wrap ((IntKind.i64.wrap ((z1.get ((IntKind.i64.wrap (k0 + k1)).toNat)) + (IntKind.i64.wrap (((bigR a).get k0) * ((bigR b).get k1))))) + c1) : Int).tmod 65536)).f2, I (z1.set ((IntKind.i64.wrap (k0 + k1)).toNat) ((IntKind.i64.wrap ((IntKind.i64.wrap ((z1.get ((IntKind.i64.wrap (k0 + k1)).toNat)) + (IntKind.i64.wrap (((bigR a).get k0) * ((bigR b).get k1))))) + c1) : Int).tmod 65536)).f3, I (z1.set ((IntKind.i64.wrap (k0 + k1)).toNat) ((IntKind.i64.wrap ((IntKind.i64.wrap ((z1.get ((IntKind.i64.wrap (k0 + k1)).toNat)) + (IntKind.i64.wrap (((bigR a).get k0) * ((bigR b).get k1))))) + c1) : Int).tmod 65536)).f4, I (z1.set ((IntKind.i64.wrap (k0 + k1)).toNat) ((IntKind.i64.wrap ((IntKind.i64.wrap ((z1.get ((IntKind.i64.wrap (k0 + k1)).toNat)) + (IntKind.i64.wrap (((bigR a).get k0) * ((bigR b).get k1))))) + c1) : Int).tmod 65536)).f5, I (z1.set ((IntKind.i64.wrap (k0 + k1)).toNat) ((IntKind.i64.wrap ((IntKind.i64.wrap ((z1.get ((IntKind.i64.wrap (k0 + k1)).toNat)) + (IntKind.i64.wrap (((bigR a).get k0) * ((bigR b).get k1))))) + c1) : Int).tmod 65536)).f6, I (z1.set ((IntKind.i64.wrap (k0 + k1)).toNat) ((IntKind.i64.wrap ((IntKind.i64.wrap ((z1.get ((IntKind.i64.wrap (k0 + k1)).toNat)) + (IntKind.i64.wrap (((bigR a).get k0) * ((bigR b).get k1))))) + c1) : Int).tmod 65536)).f7, I (z1.set ((IntKind.i64.wrap (k0 + k1)).toNat) ((IntKind.i64.wrap ((IntKind.i64.wrap ((z1.get ((IntKind.i64.wrap (k0 + k1)).toNat)) + (IntKind.i64.wrap (((bigR a).get k0) * ((bigR b).get k1))))) + c1) : Int).tmod 65536)).f8, I (z1.set ((IntKind.i64.wrap (k0 + k1)).toNat) ((IntKind.i64.wrap ((IntKind.i64.wrap ((z1.get ((IntKind.i64.wrap (k0 + k1)).toNat)) + (IntKind.i64.wrap (((bigR a).get k0) * ((bigR b).get k1))))) + c1) : Int).tmod 65536)).f9]) (H' := [(0, .box [_, _, _, _, _]), (1, .box [_, _, _, _, _]), (2, .box [_, _, _, _, _, _, _, _, _, _])]) rfl rfl rfl rfl rfl rfl (by show 0 + ((IntKind.i64.wrap (k0 + k1)).toNat) * 1 < 10; omega) (A10int.set_cell z1 jk15 _) (.inl rfl) rfl ?_
     refine step_nil (seqK_n (sem_region rfl (step_r rfl rfl trivial ?_)))
     refine step_bin rfl rfl rfl rfl rfl (by first | decide | omega | simp_all) ?_
     refine step_r rfl rfl trivial (step_nil (blkK_n (seqK_n (sem_region rfl (step_r rfl rfl trivial (step_bin rfl rfl rfl rfl rfl trivial (step_r rfl rfl trivial (step_nil ?_))))))))
     have e18 : mulR_L1 a b k0 (5 - k1) k1 z1 c1 = mulR_L1 a b k0 (5 - (k1 + 1)) (k1 + 1) (z1.set ((IntKind.i64.wrap (k0 + k1)).toNat) ((IntKind.i64.wrap ((IntKind.i64.wrap ((z1.get ((IntKind.i64.wrap (k0 + k1)).toNat)) + (IntKind.i64.wrap (((bigR a).get k0) * ((bigR b).get k1))))) + c1) : Int).tmod 65536)) (IntKind.i64.wrap ((IntKind.i64.wrap ((IntKind.i64.wrap ((z1.get ((IntKind.i64.wrap (k0 + k1)).toNat)) + (IntKind.i64.wrap (((bigR a).get k0) * ((bigR b).get k1))))) + c1) : Int).tdiv 65536)) := by
      rewrite [hm1]
      rewrite [mulR_L1]
      try dsimp only
      all_goals rfl
     exact lup_againT (k1 + 1, (z1.set ((IntKind.i64.wrap (k0 + k1)).toNat) ((IntKind.i64.wrap ((IntKind.i64.wrap ((z1.get ((IntKind.i64.wrap (k0 + k1)).toNat)) + (IntKind.i64.wrap (((bigR a).get k0) * ((bigR b).get k1))))) + c1) : Int).tmod 65536)), (IntKind.i64.wrap ((IntKind.i64.wrap ((IntKind.i64.wrap ((z1.get ((IntKind.i64.wrap (k0 + k1)).toNat)) + (IntKind.i64.wrap (((bigR a).get k0) * ((bigR b).get k1))))) + c1) : Int).tdiv 65536))) ⟨e18.symm.trans hI1, (by omega)⟩ (by show 5 - (k1 + 1) < 5 - k1; omega) (Trans.ren [] (by decide +kernel) (by decide +kernel) rfl ⟨⟨rfl, rfl⟩, ⟨rfl, rfl⟩, ⟨rfl, rfl⟩, ⟨rfl, rfl⟩, ⟨rfl, rfl⟩, ⟨rfl, rfl⟩, ⟨rfl, rfl⟩, ⟨congrArg (fun n => some (I n)) (wrapI (k := k1) (by first | omega | (simp; omega))), rfl⟩, trivial⟩ ⟨⟨rfl, rfl, rfl⟩, ⟨rfl, rfl, rfl⟩, ⟨rfl, rfl, rfl⟩, trivial⟩ (by decide))
    ·have g8 : ¬ ((k1 : Int) < 5) := of_decide_eq_false h8
     have hm1 : 5 - k1 = 0 := by omega
     refine sem_exit (seqK_e (lupK_e (blkK_t rfl ?_)))
     have e19 : mulR_L1 a b k0 (5 - 0) 0 z0 0 = (z1, c1) := by
      rewrite [← hI1, hm1]
      rewrite [mulR_L1]
      try dsimp only
      all_goals rfl
     exact cutW_n (z1, c1) e19 (Trans.ren [] (by decide +kernel) (by decide +kernel) rfl ⟨⟨rfl, rfl⟩, ⟨rfl, rfl⟩, ⟨rfl, rfl⟩, ⟨rfl, rfl⟩, ⟨rfl, rfl⟩, ⟨rfl, rfl⟩, ⟨rfl, rfl⟩, trivial⟩ ⟨⟨rfl, rfl, rfl⟩, ⟨rfl, rfl, rfl⟩, ⟨rfl, rfl, rfl⟩, trivial⟩ (by decide))
   ·rintro ⟨z_1, c_1⟩ (hJ6 : mulR_L1 a b k0 (5 - 0) 0 z0 0 = (z_1, c_1))
    show seqK _ _ _ .normal (⟨[(0, I a), (1, I b), (5, .ptr 0 0), (6, .ptr 1 0), (7, .ptr 2 0), (8, I k0), (9, I c_1)], [(0, .box [I (bigR a).f0, I (bigR a).f1, I (bigR a).f2, I (bigR a).f3, I (bigR a).f4]), (1, .box [I (bigR b).f0, I (bigR b).f1, I (bigR b).f2, I (bigR b).f3, I (bigR b).f4]), (2, .box [I z_1.f0, I z_1.f1, I z_1.f2, I z_1.f3, I z_1.f4, I z_1.f5, I z_1.f6, I z_1.f7, I z_1.f8, I z_1.f9])], 3, [], 115, 0⟩ : St)
    refine seqK_n (sem_region rfl (step_r rfl rfl trivial (step_bin rfl rfl rfl rfl rfl trivial (step_r rfl rfl trivial (step_bin rfl rfl rfl rfl rfl trivial ?_)))))
    have jk21 : (IntKind.i64.wrap (k0 + 5)).toNat < 10 := by first | assumption | omega | (simp only [IntKind.wrap_i64]; omega) | (simp only [IntKind.wrap_i64] at *; omega) | (simp; omega) | simp_all
    refine step_idxA (k := (IntKind.i64.wrap (k0 + 5)).toNat) rfl rfl (Int.toNat_of_nonneg (by first | omega | (simp only [IntKind.wrap_i64]; omega) | (simp only [IntKind.wrap_i64] at *; omega) | (simp; omega))).symm rfl rfl jk21 rfl ?_
    refine step_load_boxA rfl rfl rfl rfl (A10int.get_cell z_1 jk21) rfl ?_
    refine step_r rfl rfl trivial (step_bin rfl rfl rfl rfl rfl trivial ?_)
    have jk23 : (IntKind.i64.wrap (k0 + 5)).toNat < 10 := by first | assumption | omega | (simp only [IntKind.wrap_i64]; omega) | (simp only [IntKind.wrap_i64] at *; omega) | (simp; omega) | simp_all
    refine step_idxA (k := (IntKind.i64.wrap (k0 + 5)).toNat) rfl rfl (Int.toNat_of_nonneg (by first | omega | (simp only [IntKind.wrap_i64]; omega) | (simp only [IntKind.wrap_i64] at *; omega) | (simp; omega))).symm rfl rfl jk23 rfl ?_
    refine step_store_boxA (cs' := [I (z_1.set ((IntKind.i64.wrap (k0 + 5)).toNat) (IntKind.i64.wrap ((z_1.get ((IntKind.i64.wrap (k0 + 5)).toNat)) + c_1))).f0, I (z_1.set ((IntKind.i64.wrap (k0 + 5)).toNat) (IntKind.i64.wrap ((z_1.get ((IntKind.i64.wrap (k0 + 5)).toNat)) + c_1))).f1, I (z_1.set ((IntKind.i64.wrap (k0 + 5)).toNat) (IntKind.i64.wrap ((z_1.get ((IntKind.i64.wrap (k0 + 5)).toNat)) + c_1))).f2, I (z_1.set ((IntKind.i64.wrap (k0 + 5)).toNat) (IntKind.i64.wrap ((z_1.get ((IntKind.i64.wrap (k0 + 5)).toNat)) + c_1))).f3, I (z_1.set ((IntKind.i64.wrap (k0 + 5)).toNat) (IntKind.i64.wrap ((z_1.get ((IntKind.i64.wrap (k0 + 5)).toNat)) + c_1))).f4, I (z_1.set ((IntKind.i64.wrap (k0 + 5)).toNat) (IntKind.i64.wrap ((z_1.get ((IntKind.i64.wrap (k0 + 5)).toNat)) + c_1))).f5, I (z_1.set ((IntKind.i64.wrap (k0 + 5)).toNat) (IntKind.i64.wrap ((z_1.get ((IntKind.i64.wrap (k0 + 5)).toNat)) + c_1))).f6, I (z_1.set ((IntKind.i64.wrap (k0 + 5)).toNat) (IntKind.i64.wrap ((z_1.get ((IntKind.i64.wrap (k0 + 5)).toNat)) + c_1))).f7, I (z_1.set ((IntKind.i64.wrap (k0 + 5)).toNat) (IntKind.i64.wrap ((z_1.get ((IntKind.i64.wrap (k0 + 5)).toNat)) + c_1))).f8, I (z_1.set ((IntKind.i64.wrap (k0 + 5)).toNat) (IntKind.i64.wrap ((z_1.get ((IntKind.i64.wrap (k0 + 5)).toNat)) + c_1))).f9]) (H' := [(0, .box [_, _, _, _, _]), (1, .box [_, _, _, _, _]), (2, .box [_, _, _, _, _, _, _, _, _, _])]) rfl rfl rfl rfl rfl rfl (by show 0 + ((IntKind.i64.wrap (k0 + 5)).toNat) * 1 < 10; omega) (A10int.set_cell z_1 jk23 _) (.inl rfl) rfl ?_
    refine step_nil (blkK_n (seqK_n (sem_region rfl (step_r rfl rfl trivial (step_bin rfl rfl rfl rfl rfl trivial (step_r rfl rfl trivial (step_nil ?_)))))))
    have e25 : mulR_L0 a b (4 - k0) k0 z0 = mulR_L0 a b (4 - (k0 + 1)) (k0 + 1) (z_1.set ((IntKind.i64.wrap (k0 + 5)).toNat) (IntKind.i64.wrap ((z_1.get ((IntKind.i64.wrap (k0 + 5)).toNat)) + c_1))) := by
     rewrite [hm0]
     rewrite [mulR_L0]
     try dsimp only
     rewrite [hJ6]
     try dsimp only
     all_goals rfl
    exact lup_againT (k0 + 1, (z_1.set ((IntKind.i64.wrap (k0 + 5)).toNat) (IntKind.i64.wrap ((z_1.get ((IntKind.i64.wrap (k0 + 5)).toNat)) + c_1)))) ⟨e25.symm.trans hI0, (by omega)⟩ (by show 4 - (k0 + 1) < 4 - k0; omega) (Trans.ren [] (by decide +kernel) (by decide +kernel) rfl ⟨⟨rfl, rfl⟩, ⟨rfl, rfl⟩, ⟨rfl, rfl⟩, ⟨rfl, rfl⟩, ⟨rfl, rfl⟩, ⟨congrArg (fun n => some (I n)) (wrapI (k := k0) (by first | omega | (simp; omega))), rfl⟩, trivial⟩ ⟨⟨rfl, rfl, rfl⟩, ⟨rfl, rfl, rfl⟩, ⟨rfl, rfl, rfl⟩, trivial⟩ (by decide))
  ·have g5 : ¬ ((k0 : Int) < 4) := of_decide_eq_false h5
   have hm0 : 4 - k0 = 0 := by omega
   refine sem_exit (seqK_e (lupK_e (blkK_t rfl ?_)))
   have e26 : mulR_L0 a b (4 - 0) 0 (⟨0, 0, 0, 0, 0, 0, 0, 0, 0, 0⟩ : A10int) = z0 := by
    rewrite [← hI0, hm0]
    rewrite [mulR_L0]
    try dsimp only
    all_goals rfl
   exact cutW_n z0 e26 (Trans.ren [(0, 2), (2, 0)] (by decide +kernel) (by decide +kernel) rfl ⟨⟨rfl, rfl⟩, ⟨rfl, rfl⟩, ⟨rfl, rfl⟩, trivial⟩ ⟨⟨rfl, rfl, rfl⟩, trivial⟩ (by decide))
 ·rintro z_0 (hJ3 : mulR_L0 a b (4 - 0) 0 (⟨0, 0, 0, 0, 0, 0, 0, 0, 0, 0⟩ : A10int) = z_0)
  show seqK _ _ _ .normal (⟨[(0, I a), (1, I b), (7, .ptr 0 0)], [(0, .box [I z_0.f0, I z_0.f1, I z_0.f2, I z_0.f3, I z_0.f4, I z_0.f5, I z_0.f6, I z_0.f7, I z_0.f8, I z_0.f9])], 1, [], 115, 0⟩ : St)
  refine seqK_n (sem_seq (sem_region rfl (step_r rfl rfl trivial (step_nil (seqK_n (sem_seq (sem_seq (sem_region rfl (step_r rfl rfl trivial (step_nil (seqK_n ?_)))))))))))
  refine sem_cutW (fun over_2 : Bool => (⟨[(0, I a), (1, I b), (7, .ptr 0 0), (12, B over_2)], [(0, .box [I z_0.f0, I z_0.f1, I z_0.f2, I z_0.f3, I z_0.f4, I z_0.f5, I z_0.f6, I z_0.f7, I z_0.f8, I z_0.f9])], 1, [], 115, 0⟩ : St)) (fun w_ => mulR_L2 z_0 (10 - 4) 4 false = w_) ?_ ?_
  ·refine sem_block ?_
   refine sem_loopT (fun w_ : Nat × Bool => match w_ with | (k2, over2) => (⟨[(0, I a), (1, I b), (7, .ptr 0 0), (12, B over2), (13, I k2)], [(0, .box [I z_0.f0, I z_0.f1, I z_0.f2, I z_0.f3, I z_0.f4, I z_0.f5, I z_0.f6, I z_0.f7, I z_0.f8, I z_0.f9])], 1, [], 115, 0⟩ : St)) (fun w_ : Nat × Bool => match w_ with | (k2, over2) => mulR_L2 z_0 (10 - k2) k2 over2 = mulR_L2 z_0 (10 - 4) 4 false ∧ k2 ≤ 10) (fun w_ : Nat × Bool => match w_ with | (k2, over2) => 10 - k2) (4, false) (⟨rfl, (by first | omega | (simp; omega))⟩) ?_ (fun w_ hh_ => ?_)
   ·exact (Trans.ren [] (by decide +kernel) (by decide +kernel) rfl ⟨⟨rfl, rfl⟩, ⟨rfl, rfl⟩, ⟨rfl, rfl⟩, ⟨rfl, rfl⟩, ⟨rfl, rfl⟩, trivial⟩ ⟨⟨rfl, rfl, rfl⟩, trivial⟩ (by decide))
   obtain ⟨k2, over2⟩ := w_
   obtain ⟨hI2, hb2⟩ := hh_
   show Walks Try.prog _ _ (⟨[(0, I a), (1, I b), (7, .ptr 0 0), (12, B over2), (13, I k2)], [(0, .box [I z_0.f0, I z_0.f1, I z_0.f2, I z_0.f3, I z_0.f4, I z_0.f5, I z_0.f6, I z_0.f7, I z_0.f8, I z_0.f9])], 1, [], 115, 0⟩ : St)
   refine sem_seq (sem_seq (sem_region rfl (step_r rfl rfl trivial (step_bin rfl rfl rfl rfl rfl trivial (step_nil (seqK_n ?_))))))
   refine sem_cond rfl (fun h29 => ?_) (fun h29 => ?_)
   ·have g29 : (k2 : Int) < 10 := of_decide_eq_true h29
    have hm2 : 10 - k2 = (10 - (k2 + 1)) + 1 := by omega
    refine sem_skip (seqK_n (sem_seq (sem_block (sem_region rfl (step_r rfl rfl trivial (step_r rfl rfl trivial ?_))))))
    refine step_gs rfl (fun h31 => ?_) (fun h31 => ?_)
    ·have g31 : over2 = true := h31
     refine step_g0 rfl h31 rfl (step_g0 rfl h31 rfl (step_g0 rfl h31 rfl (step_g0 rfl h31 rfl (step_pickT rfl h31 rfl rfl (step_r rfl rfl trivial (step_nil (blkK_n (seqK_n (sem_region rfl (step_r rfl rfl trivial (step_bin rfl rfl rfl rfl rfl trivial ?_)))))))))))
     refine step_r rfl rfl trivial (step_nil ?_)
     have e33 : mulR_L2 z_0 (10 - k2) k2 over2 = mulR_L2 z_0 (10 - (k2 + 1)) (k2 + 1) true := by
      rewrite [hm2]
      rewrite [mulR_L2]
      try dsimp only
      rewrite [if_pos g31]
      all_goals rfl
     exact lup_againT (k2 + 1, true) ⟨e33.symm.trans hI2, (by omega)⟩ (by show 10 - (k2 + 1) < 10 - k2; omega) (Trans.ren [] (by decide +kernel) (by decide +kernel) rfl ⟨⟨rfl, rfl⟩, ⟨rfl, rfl⟩, ⟨rfl, rfl⟩, ⟨rfl, rfl⟩, ⟨congrArg (fun n => some (I n)) (wrapI (k := k2) (by first | omega | (simp; omega))), rfl⟩, trivial⟩ ⟨⟨rfl, rfl, rfl⟩, trivial⟩ (by decide))
    ·have g31 : ¬ (over2 = true) := boo_f h31
     refine step_g1 rfl h31 (step_r rfl rfl trivial (step_g1 rfl h31 ?_))
     have jk34 : k2 < 10 := by first | assumption | omega | (simp only [IntKind.wrap_i64]; omega) | (simp only [IntKind.wrap_i64] at *; omega) | (simp; omega) | simp_all
     refine step_idxA (k := k2) rfl rfl rfl rfl rfl jk34 rfl ?_
     refine step_g1 rfl h31 ?_
     refine step_load_boxA rfl rfl rfl rfl (A10int.get_cell z_0 jk34) rfl ?_
     refine step_g1 rfl h31 (step_bin rfl rfl rfl rfl rfl trivial (step_pickF rfl h31 rfl rfl (step_r rfl rfl trivial (step_nil (blkK_n (seqK_n (sem_region rfl (step_r rfl rfl trivial (step_bin rfl rfl rfl rfl rfl trivial (step_r rfl rfl trivial (step_nil ?_)))))))))))
     have e37 : mulR_L2 z_0 (10 - k2) k2 over2 = mulR_L2 z_0 (10 - (k2 + 1)) (k2 + 1) ((z_0.get k2 : Int) != 0) := by
      rewrite [hm2]
      rewrite [mulR_L2]
      try dsimp only
      rewrite [if_neg g31]
      all_goals rfl
     exact lup_againT (k2 + 1, ((z_0.get k2 : Int) != 0)) ⟨e37.symm.trans hI2, (by omega)⟩ (by show 10 - (k2 + 1) < 10 - k2; omega) (Trans.ren [] (by decide +kernel) (by decide +kernel) rfl ⟨⟨rfl, rfl⟩, ⟨rfl, rfl⟩, ⟨rfl, rfl⟩, ⟨rfl, rfl⟩, ⟨congrArg (fun n => some (I n)) (wrapI (k := k2) (by first | omega | (simp; omega))), rfl⟩, trivial⟩ ⟨⟨rfl, rfl, rfl⟩, trivial⟩ (by decide))
   ·have g29 : ¬ ((k2 : Int) < 10) := of_decide_eq_false h29
    have hm2 : 10 - k2 = 0 := by omega
    refine sem_exit (seqK_e (lupK_e (blkK_t rfl ?_)))
    have e38 : mulR_L2 z_0 (10 - 4) 4 false = over2 := by
     rewrite [← hI2, hm2]
     rewrite [mulR_L2]
     try dsimp only
     all_goals rfl
    exact cutW_n over2 e38 (Trans.ren [] (by decide +kernel) (by decide +kernel) rfl ⟨⟨rfl, rfl⟩, ⟨rfl, rfl⟩, ⟨rfl, rfl⟩, ⟨rfl, rfl⟩, trivial⟩ ⟨⟨rfl, rfl, rfl⟩, trivial⟩ (by decide))
  ·rintro over_2 (hJ27 : mulR_L2 z_0 (10 - 4) 4 false = over_2)
   show seqK _ _ _ .normal (⟨[(0, I a), (1, I b), (7, .ptr 0 0), (12, B over_2)], [(0, .box [I z_0.f0, I z_0.f1, I z_0.f2, I z_0.f3, I z_0.f4, I z_0.f5, I z_0.f6, I z_0.f7, I z_0.f8, I z_0.f9])], 1, [], 115, 0⟩ : St)
   refine seqK_n (sem_seq (sem_region rfl (step_r rfl rfl trivial (step_bin rfl rfl rfl rfl rfl trivial (step_r rfl rfl trivial (step_bin rfl rfl rfl rfl rfl trivial (step_bin rfl rfl rfl rfl rfl trivial (step_r rfl rfl trivial (step_nil (seqK_n (sem_seq ?_)))))))))))
   refine sem_region rfl (step_r rfl rfl trivial (step_nil (seqK_n (sem_seq (sem_seq (sem_region rfl (step_r rfl rfl trivial (step_nil (seqK_n ?_)))))))))
   refine sem_cutW (fun w_ : Bool × Int => match w_ with | (over_3, v_3) => (⟨[(12, B over_3), (14, B (!((decide ((a : Int) < 0)) == (decide ((b : Int) < 0))))), (15, I v_3)], [], 0, [], 115, 0⟩ : St)) (fun w_ => mulR_L3 z_0 (5) over_2 0 3 = w_) ?_ ?_
   ·refine sem_block ?_
    refine sem_loopT (fun w_ : Nat × Bool × Int × Int => match w_ with | (f3, over3, v3, i3) => (⟨[(7, .ptr 0 0), (12, B over3), (14, B (!((decide ((a : Int) < 0)) == (decide ((b : Int) < 0))))), (15, I v3), (16, I i3)], [(0, .box [I z_0.f0, I z_0.f1, I z_0.f2, I z_0.f3, I z_0.f4, I z_0.f5, I z_0.f6, I z_0.f7, I z_0.f8, I z_0.f9])], 1, [], 115, 0⟩ : St)) (fun w_ : Nat × Bool × Int × Int => match w_ with | (f3, over3, v3, i3) => mulR_L3 z_0 f3 over3 v3 i3 = mulR_L3 z_0 (5) over_2 0 3 ∧ (i3 + 1).toNat < f3 ∧ -1 ≤ i3 ∧ i3 ≤ 3) (fun w_ : Nat × Bool × Int × Int => match w_ with | (f3, over3, v3, i3) => f3) (5, over_2, 0, 3) (⟨rfl, (by first | omega | (simp; omega)), by first | omega | simp | (simp; omega)⟩) ?_ (fun w_ hh_ => ?_)
    ·exact (Trans.ren [] (by decide +kernel) (by decide +kernel) rfl ⟨⟨rfl, rfl⟩, ⟨rfl, rfl⟩, ⟨rfl, rfl⟩, ⟨rfl, rfl⟩, ⟨rfl, rfl⟩, trivial⟩ ⟨⟨rfl, rfl, rfl⟩, trivial⟩ (by decide))
    obtain ⟨f3, over3, v3, i3⟩ := w_
    obtain ⟨hI3, hb3, hv3⟩ := hh_
    obtain ⟨f3, rfl⟩ : ∃ z_, f3 = z_ + 1 := ⟨f3 - 1, by omega⟩
    show Walks Try.prog _ _ (⟨[(7, .ptr 0 0), (12, B over3), (14, B (!((decide ((a : Int) < 0)) == (decide ((b : Int) < 0))))), (15, I v3), (16, I i3)], [(0, .box [I z_0.f0, I z_0.f1, I z_0.f2, I z_0.f3, I z_0.f4, I z_0.f5, I z_0.f6, I z_0.f7, I z_0.f8, I z_0.f9])], 1, [], 115, 0⟩ : St)
    refine sem_seq (sem_seq (sem_region rfl (step_r rfl rfl trivial (step_bin rfl rfl rfl rfl rfl trivial (step_r rfl rfl trivial ?_)))))
    refine step_gs rfl (fun h45 => ?_) (fun h45 => ?_)
    ·have g45 : (i3 : Int) ≥ 0 := of_decide_eq_true h45
     refine step_g1 rfl h45 (step_r rfl rfl trivial (step_g1 rfl h45 (step_r rfl rfl trivial (step_pickT rfl h45 rfl rfl (step_nil (seqK_n ?_))))))
     refine sem_cond rfl (fun h48 => ?_) (fun h48 => ?_)
     ·have g48 : ¬ (over3 = true) := boo_f (not_t h48)
      refine sem_skip (seqK_n (sem_seq ?_))
      refine sem_cutW (fun w_ : Bool × Int => match w_ with | (over_85, v_85) => (⟨[(7, .ptr 0 0), (12, B over_85), (14, B (!((decide ((a : Int) < 0)) == (decide ((b : Int) < 0))))), (15, I v_85), (16, I i3)], [(0, .box [I z_0.f0, I z_0.f1, I z_0.f2, I z_0.f3, I z_0.f4, I z_0.f5, I z_0.f6, I z_0.f7, I z_0.f8, I z_0.f9])], 1, [], 115, 0⟩ : St)) (fun w_ => mulR_J85 z_0 over3 v3 i3 = w_) ?_ ?_
      ·refine sem_block (sem_seq (sem_region rfl (step_r rfl rfl trivial (step_r rfl rfl trivial ?_))))
       have jk51 : i3.toNat < 10 := by first | assumption | omega | (simp only [IntKind.wrap_i64]; omega) | (simp only [IntKind.wrap_i64] at *; omega) | (simp; omega) | simp_all
       refine step_idxA (k := i3.toNat) rfl rfl (Int.toNat_of_nonneg (by first | omega | (simp only [IntKind.wrap_i64]; omega) | (simp only [IntKind.wrap_i64] at *; omega) | (simp; omega))).symm rfl rfl jk51 rfl ?_
       refine step_load_boxA rfl rfl rfl rfl (A10int.get_cell z_0 jk51) rfl ?_
       refine step_bin rfl rfl rfl rfl rfl trivial ?_
       refine step_bin rfl rfl rfl rfl rfl (by first | decide | omega | simp_all) ?_
       refine step_bin rfl rfl rfl rfl rfl trivial (step_nil (seqK_n ?_))
       refine sem_cond rfl (fun h52 => ?_) (fun h52 => ?_)
       ·have g52 : (v3 : Int) < (IntKind.i64.wrap ((IntKind.i64.wrap ((-9223372036854775808) + (z_0.get i3.toNat)) : Int).tdiv 65536)) := of_decide_eq_true h52
        refine sem_region rfl (step_r rfl rfl trivial (step_nil (blkK_n ?_)))
        have e53 : mulR_J85 z_0 over3 v3 i3 = (true, v3) := by
         unfold mulR_J85
         try dsimp only
         rewrite [if_pos g52]
         all_goals rfl
        exact cutW_n (true, v3) e53 (Trans.ren [] (by decide +kernel) (by decide +kernel) rfl ⟨⟨rfl, rfl⟩, ⟨rfl, rfl⟩, ⟨rfl, rfl⟩, ⟨rfl, rfl⟩, ⟨rfl, rfl⟩, trivial⟩ ⟨⟨rfl, rfl, rfl⟩, trivial⟩ (by decide))
       ·have g52 : ¬ ((v3 : Int) < (IntKind.i64.wrap ((IntKind.i64.wrap ((-9223372036854775808) + (z_0.get i3.toNat)) : Int).tdiv 65536))) := of_decide_eq_false h52
        refine sem_region rfl (step_r rfl rfl trivial (step_bin rfl rfl rfl rfl rfl trivial (step_r rfl rfl trivial ?_)))
        have jk54 : i3.toNat < 10 := by first | assumption | omega | (simp only [IntKind.wrap_i64]; omega) | (simp only [IntKind.wrap_i64] at *; omega) | (simp; omega) | simp_all
        refine step_idxA (k := i3.toNat) rfl rfl (Int.toNat_of_nonneg (by first | omega | (simp only [IntKind.wrap_i64]; omega) | (simp only [IntKind.wrap_i64] at *; omega) | (simp; omega))).symm rfl rfl jk54 rfl ?_
        refine step_load_boxA rfl rfl rfl rfl (A10int.get_cell z_0 jk54) rfl ?_
        refine step_bin rfl rfl rfl rfl rfl trivial (step_r rfl rfl trivial (step_nil (blkK_n ?_)))
        have e56 : mulR_J85 z_0 over3 v3 i3 = (over3, (IntKind.i64.wrap ((IntKind.i64.wrap (65536 * v3)) - (z_0.get i3.toNat)))) := by
         unfold mulR_J85
         try dsimp only
         rewrite [if_neg g52]
         all_goals rfl
        exact cutW_n (over3, (IntKind.i64.wrap ((IntKind.i64.wrap (65536 * v3)) - (z_0.get i3.toNat)))) e56 (Trans.ren [] (by decide +kernel) (by decide +kernel) rfl ⟨⟨rfl, rfl⟩, ⟨rfl, rfl⟩, ⟨rfl, rfl⟩, ⟨rfl, rfl⟩, ⟨rfl, rfl⟩, trivial⟩ ⟨⟨rfl, rfl, rfl⟩, trivial⟩ (by decide))
      ·rintro ⟨over_85, v_85⟩ (hJ49 : mulR_J85 z_0 over3 v3 i3 = (over_85, v_85))
       show seqK _ _ _ .normal (⟨[(7, .ptr 0 0), (12, B over_85), (14, B (!((decide ((a : Int) < 0)) == (decide ((b : Int) < 0))))), (15, I v_85), (16, I i3)], [(0, .box [I z_0.f0, I z_0.f1, I z_0.f2, I z_0.f3, I z_0.f4, I z_0.f5, I z_0.f6, I z_0.f7, I z_0.f8, I z_0.f9])], 1, [], 115, 0⟩ : St)
       refine seqK_n (sem_region rfl (step_r rfl rfl trivial (step_bin rfl rfl rfl rfl rfl trivial (step_r rfl rfl trivial (step_nil ?_)))))
       have e59 : mulR_L3 z_0 (f3 + 1) over3 v3 i3 = mulR_L3 z_0 f3 over_85 v_85 (IntKind.i64.wrap (i3 - 1)) := by
        rewrite [mulR_L3]
        try dsimp only
        rewrite [if_pos g45, if_neg g48, hJ49]
        try dsimp only
        all_goals rfl
       exact lup_againT (f3, over_85, v_85, (IntKind.i64.wrap (i3 - 1))) ⟨e59.symm.trans hI3, (by simp only [IntKind.wrap_i64] at *; omega), (by simp only [IntKind.wrap_i64] at *; omega)⟩ (Nat.lt_succ_self _) (Trans.ren [] (by decide +kernel) (by decide +kernel) rfl ⟨⟨rfl, rfl⟩, ⟨rfl, rfl⟩, ⟨rfl, rfl⟩, ⟨rfl, rfl⟩, ⟨rfl, rfl⟩, trivial⟩ ⟨⟨rfl, rfl, rfl⟩, trivial⟩ (by decide))
     ·have g48 : over3 = true := (not_f h48)
      refine sem_exit (seqK_e (lupK_e (blkK_t rfl ?_)))
      have e60 : mulR_L3 z_0 (5) over_2 0 3 = (over3, v3) := by
       rewrite [← hI3]
       rewrite [mulR_L3]
       try dsimp only
       rewrite [if_pos g45, if_pos g48]
       all_goals rfl
      exact cutW_n (over3, v3) e60 (Trans.ren [] (by decide +kernel) (by decide +kernel) rfl ⟨⟨rfl, rfl⟩, ⟨rfl, rfl⟩, ⟨rfl, rfl⟩, trivial⟩ trivial (by decide))
    ·have g45 : ¬ ((i3 : Int) ≥ 0) := of_decide_eq_false h45
     refine step_g0 rfl h45 rfl (step_g0 rfl h45 rfl (step_pickF rfl h45 rfl rfl (step_nil (seqK_n (sem_condF rfl (sem_exit (seqK_e (lupK_e (blkK_t rfl ?_)))))))))
     have e61 : mulR_L3 z_0 (5) over_2 0 3 = (over3, v3) := by
      rewrite [← hI3]
      rewrite [mulR_L3]
      try dsimp only
      rewrite [if_neg g45]
      all_goals rfl
     exact cutW_n (over3, v3) e61 (Trans.ren [] (by decide +kernel) (by decide +kernel) rfl ⟨⟨rfl, rfl⟩, ⟨rfl, rfl⟩, ⟨rfl, rfl⟩, trivial⟩ trivial (by decide))
   ·rintro ⟨over_3, v_3⟩ (hJ42 : mulR_L3 z_0 (5) over_2 0 3 = (over_3, v_3))
    show seqK _ _ _ .normal (⟨[(12, B over_3), (14, B (!((decide ((a : Int) < 0)) == (decide ((b : Int) < 0))))), (15, I v_3)], [], 0, [], 115, 0⟩ : St)
    refine seqK_n (sem_seq ?_)
    refine sem_cutW (fun w_ : Unit => match w_ with | () => (⟨[(12, B over_3), (14, B (!((decide ((a : Int) < 0)) == (decide ((b : Int) < 0))))), (15, I v_3)], [], 0, [], 115, 0⟩ : St)) (fun w_ => mulR_J98 a b over_3 = .inr w_) ?_ ?_
    ·refine sem_seq (sem_region rfl (step_r rfl rfl trivial (step_r rfl rfl trivial ?_)))
     refine step_gs rfl (fun h64 => ?_) (fun h64 => ?_)
     ·have g64 : over_3 = true := h64
      refine step_g1 rfl h64 (step_r rfl rfl trivial (step_pickT rfl h64 rfl rfl (step_nil (seqK_n ?_))))
      refine sem_cond rfl (fun h66 => ?_) (fun h66 => ?_)
      ·have g66 : ¬ ((decide ((a : Int) < 0)) = (decide ((b : Int) < 0))) := beq_f (not_t h66)
       refine sem_seq (sem_region rfl (step_r rfl rfl trivial (step_nil (seqK_n (sem_ret (cutW_r (seqK_r ?_)))))))
       have e67 : mulR_J98 a b over_3 = .inl (-9223372036854775808) := by
        unfold mulR_J98
        try dsimp only
        rewrite [if_pos g64, if_neg g66]
        all_goals rfl
       have e68 : mulR a b = (-9223372036854775808) := by
        unfold mulR
        try dsimp only
        rewrite [hJ3]
        try dsimp only
        rewrite [hJ27]
        try dsimp only
        rewrite [hJ42]
        try dsimp only
        rewrite [e67]
        try dsimp only
        all_goals rfl
       rw [e68]
       exact answersR rfl ⟨trivial, trivial⟩ (rfl) rfl
      ·have g66 : (decide ((a : Int) < 0)) = (decide ((b : Int) < 0)) := beq_t (not_f h66)
       refine sem_skip ?_
       have e69 : mulR_J98 a b over_3 = .inr () := by
        unfold mulR_J98
        try dsimp only
        rewrite [if_pos g64, if_pos g66]
        all_goals rfl
       exact cutW_n () e69 (Trans.ren [] (by decide +kernel) (by decide +kernel) rfl ⟨⟨rfl, rfl⟩, ⟨rfl, rfl⟩, ⟨rfl, rfl⟩, trivial⟩ trivial (by decide))
     ·have g64 : ¬ (over_3 = true) := boo_f h64
      refine step_g0 rfl h64 rfl (step_pickF rfl h64 rfl rfl (step_nil (seqK_n (sem_condF rfl (sem_skip ?_)))))
      have e70 : mulR_J98 a b over_3 = .inr () := by
       unfold mulR_J98
       try dsimp only
       rewrite [if_neg g64]
       all_goals rfl
      exact cutW_n () e70 (Trans.ren [] (by decide +kernel) (by decide +kernel) rfl ⟨⟨rfl, rfl⟩, ⟨rfl, rfl⟩, ⟨rfl, rfl⟩, trivial⟩ trivial (by decide))
    ·rintro ⟨⟩ (hJ62 : mulR_J98 a b over_3 = .inr ())
     show seqK _ _ _ .normal (⟨[(12, B over_3), (14, B (!((decide ((a : Int) < 0)) == (decide ((b : Int) < 0))))), (15, I v_3)], [], 0, [], 115, 0⟩ : St)
     refine seqK_n (sem_seq (sem_seq (sem_region rfl (step_r rfl rfl trivial (step_r rfl rfl trivial ?_)))))
     refine step_gs rfl (fun h72 => ?_) (fun h72 => ?_)
     ·have g72 : over_3 = true := h72
      refine step_g0 rfl h72 rfl (step_g0 rfl h72 rfl (step_g0 rfl h72 rfl (step_gf rfl rfl (step_gf rfl rfl (step_g0 rfl h72 rfl (step_pickT rfl h72 rfl rfl (step_nil (seqK_n (sem_condT rfl (sem_seq (sem_region rfl ?_)))))))))))
      refine step_r rfl rfl trivial (step_nil (seqK_n (sem_ret (seqK_r ?_))))
      have e73 : mulR a b = 9223372036854775807 := by
       unfold mulR
       try dsimp only
       rewrite [hJ3]
       try dsimp only
       rewrite [hJ27]
       try dsimp only
       rewrite [hJ42]
       try dsimp only
       rewrite [hJ62]
       try dsimp only
       rewrite [if_pos g72]
       all_goals rfl
      rw [e73]
      exact answersR rfl ⟨trivial, trivial⟩ (rfl) rfl
     ·have g72 : ¬ (over_3 = true) := boo_f h72
      refine step_g1 rfl h72 (step_r rfl rfl trivial (step_g1 rfl h72 (step_r rfl rfl trivial (step_g1 rfl h72 (step_r rfl rfl trivial ?_)))))
      refine step_gs rfl (fun h76 => ?_) (fun h76 => ?_)
      ·have g76 : (decide ((a : Int) < 0)) = (decide ((b : Int) < 0)) := beq_t (not_f (not_t h76))
       refine step_g1 rfl h76 (step_r rfl rfl trivial (step_g1 rfl h76 (step_bin rfl rfl rfl rfl rfl trivial (step_g1 rfl h72 (step_pickT rfl h76 rfl rfl (step_pickF rfl h72 rfl rfl (step_nil (seqK_n ?_))))))))
       refine sem_cond rfl (fun h79 => ?_) (fun h79 => ?_)
       ·have g79 : (v_3 : Int) = (-9223372036854775808) := beq_t h79
        refine sem_seq (sem_region rfl (step_r rfl rfl trivial (step_nil (seqK_n (sem_ret (seqK_r ?_))))))
        have e80 : mulR a b = 9223372036854775807 := by
         unfold mulR
         try dsimp only
         rewrite [hJ3]
         try dsimp only
         rewrite [hJ27]
         try dsimp only
         rewrite [hJ42]
         try dsimp only
         rewrite [hJ62]
         try dsimp only
         rewrite [if_neg g72, if_pos g76, if_pos g79]
         all_goals rfl
        rw [e80]
        exact answersR rfl ⟨trivial, trivial⟩ (rfl) rfl
       ·have g79 : ¬ ((v_3 : Int) = (-9223372036854775808)) := beq_f h79
        refine sem_skip (seqK_n (sem_seq (sem_seq (sem_region rfl (step_r rfl rfl trivial (step_nil (seqK_n ?_)))))))
        refine sem_cond rfl (fun h81 => ?_) (fun h81 => ?_)
        ·have g81 : ¬ ((decide ((a : Int) < 0)) = (decide ((b : Int) < 0))) := beq_f (not_t h81)
         refine sem_seq (sem_region rfl (step_r rfl rfl trivial (step_r rfl rfl trivial (step_nil (seqK_n (sem_ret (seqK_r ?_)))))))
         have e82 : mulR a b = v_3 := by
          unfold mulR
          try dsimp only
          rewrite [hJ3]
          try dsimp only
          rewrite [hJ27]
          try dsimp only
          rewrite [hJ42]
          try dsimp only
          rewrite [hJ62]
          try dsimp only
          rewrite [if_neg g72, if_pos g76, if_neg g79, if_neg g81]
          all_goals rfl
         rw [e82]
         exact answersR rfl ⟨trivial, trivial⟩ (rfl) rfl
        ·have g81 : (decide ((a : Int) < 0)) = (decide ((b : Int) < 0)) := beq_t (not_f h81)
         refine sem_skip (seqK_n (sem_seq (sem_region rfl (step_r rfl rfl trivial (step_r rfl rfl trivial (step_r rfl rfl trivial (step_nil (seqK_n (sem_ret ?_)))))))))
         have e84 : mulR a b = (IntKind.i64.wrap (0 - v_3)) := by
          unfold mulR
          try dsimp only
          rewrite [hJ3]
          try dsimp only
          rewrite [hJ27]
          try dsimp only
          rewrite [hJ42]
          try dsimp only
          rewrite [hJ62]
          try dsimp only
          rewrite [if_neg g72, if_pos g76, if_neg g79, if_pos g81]
          all_goals rfl
         rw [e84]
         exact answersR rfl ⟨trivial, trivial⟩ (rfl) rfl
      ·have g76 : ¬ ((decide ((a : Int) < 0)) = (decide ((b : Int) < 0))) := beq_f (not_t (not_f h76))
       refine step_g0 rfl h76 rfl (step_g0 rfl h76 rfl (step_g1 rfl h72 (step_pickF rfl h76 rfl rfl (step_pickF rfl h72 rfl rfl (step_nil (seqK_n (sem_condF rfl (sem_skip (seqK_n (sem_seq (sem_seq ?_)))))))))))
       refine sem_region rfl (step_r rfl rfl trivial (step_nil (seqK_n ?_)))
       refine sem_cond rfl (fun h85 => ?_) (fun h85 => ?_)
       ·have g85 : ¬ ((decide ((a : Int) < 0)) = (decide ((b : Int) < 0))) := beq_f (not_t h85)
        refine sem_seq (sem_region rfl (step_r rfl rfl trivial (step_r rfl rfl trivial (step_nil (seqK_n (sem_ret (seqK_r ?_)))))))
        have e87 : mulR a b = v_3 := by
         unfold mulR
         try dsimp only
         rewrite [hJ3]
         try dsimp only
         rewrite [hJ27]
         try dsimp only
         rewrite [hJ42]
         try dsimp only
         rewrite [hJ62]
         try dsimp only
         rewrite [if_neg g72, if_neg g76, if_neg g85]
         all_goals rfl
        rw [e87]
        exact answersR rfl ⟨trivial, trivial⟩ (rfl) rfl
       ·have g85 : (decide ((a : Int) < 0)) = (decide ((b : Int) < 0)) := beq_t (not_f h85)
        refine sem_skip (seqK_n (sem_seq (sem_region rfl (step_r rfl rfl trivial (step_r rfl rfl trivial (step_r rfl rfl trivial (step_nil (seqK_n (sem_ret ?_)))))))))
        have e90 : mulR a b = (IntKind.i64.wrap (0 - v_3)) := by
         unfold mulR
         try dsimp only
         rewrite [hJ3]
         try dsimp only
         rewrite [hJ27]
         try dsimp only
         rewrite [hJ42]
         try dsimp only
         rewrite [hJ62]
         try dsimp only
         rewrite [if_neg g72, if_neg g76, if_pos g85]
         all_goals rfl
        rw [e90]
        exact answersR rfl ⟨trivial, trivial⟩ (rfl) rfl
end Go.Proofs.Ytcbdecknbfabaaa

import Derived.Test.YtbfmonajbfljmaaDoorNamesp
namespace Go.Proofs.YtbfmonajbfljmaaDoor
open Go Go.RowKit Go.Proofs.YtbfmonajbfljmaaDoorVm
attribute [local irreducible] opsWp AnswersE OpsS
set_option maxHeartbeats 400000
set_option maxRecDepth 100000
set_option linter.all false
structure A11int where
  (f0 : Int)
  (f1 : Int)
  (f2 : Int)
  (f3 : Int)
  (f4 : Int)
  (f5 : Int)
  (f6 : Int)
  (f7 : Int)
  (f8 : Int)
  (f9 : Int)
  (f10 : Int)
  deriving DecidableEq, Inhabited
def encA11int (x : A11int) : List PV := [i64 x.f0, i64 x.f1, i64 x.f2, i64 x.f3, i64 x.f4, i64 x.f5, i64 x.f6, i64 x.f7, i64 x.f8, i64 x.f9, i64 x.f10]
abbrev aA11int (x : A11int) : AV := .agg [I x.f0, I x.f1, I x.f2, I x.f3, I x.f4, I x.f5, I x.f6, I x.f7, I x.f8, I x.f9, I x.f10]
def wfA11int (x : A11int) : Prop := (InR x.f0) ∧ (InR x.f1) ∧ (InR x.f2) ∧ (InR x.f3) ∧ (InR x.f4) ∧ (InR x.f5) ∧ (InR x.f6) ∧ (InR x.f7) ∧ (InR x.f8) ∧ (InR x.f9) ∧ (InR x.f10)
theorem encA11int_solid {l : List A11int} : ∀ p ∈ l.flatMap encA11int, solidP p = true := flat_solid (fun x p h => by simp only [encA11int, List.mem_cons, List.mem_nil_iff, or_false] at h; rcases h with rfl | rfl | rfl | rfl | rfl | rfl | rfl | rfl | rfl | rfl | rfl <;> rfl)

def sizesM : A11int :=
  (⟨(-1), 2, 1, 0, 10, 1, 3, 5, 3, 2, 0⟩ : A11int)
theorem sizesM_ok  : Ok Tryd.prog 44 [] [] (aA11int (sizesM)) [] [] := by
 refine ok_of_sem Tryd.func44 rfl ?_
 show Walks Tryd.prog _ _ ⟨[], [], 0, [], 2, 0⟩
 refine sem_seq (sem_region rfl (step_n (o := .box [_, _, _, _, _, _, _, _, _, _, _]) (nx' := 1) rfl rfl rfl trivial (step_nil (seqK_n (sem_seq (sem_region rfl (step_r (v := (.agg [_, _, _, _, _, _, _, _, _, _, _])) rfl rfl trivial ?_)))))))
 refine step_storeB (H' := [(0, .box [_, _, _, _, _, _, _, _, _, _, _])]) rfl rfl rfl rfl rfl rfl (.inl rfl) rfl ?_
 refine step_nil (seqK_n (sem_ret ?_))
 have e1 : sizesM = (⟨(-1), 2, 1, 0, 10, 1, 3, 5, 3, 2, 0⟩ : A11int) := by
  unfold sizesM
  try dsimp only
  all_goals rfl
 rw [e1]
 exact answersR rfl ⟨Nat.le_of_ble_eq_true rfl, trivial⟩ (rfl) rfl

def A11int.get (x : A11int) (k : Nat) : Int := match k with | 0 => x.f0 | 1 => x.f1 | 2 => x.f2 | 3 => x.f3 | 4 => x.f4 | 5 => x.f5 | 6 => x.f6 | 7 => x.f7 | 8 => x.f8 | 9 => x.f9 | _ => x.f10
def A11int.set (x : A11int) (k : Nat) (v : Int) : A11int := match k with | 0 => { x with f0 := v } | 1 => { x with f1 := v } | 2 => { x with f2 := v } | 3 => { x with f3 := v } | 4 => { x with f4 := v } | 5 => { x with f5 := v } | 6 => { x with f6 := v } | 7 => { x with f7 := v } | 8 => { x with f8 := v } | 9 => { x with f9 := v } | _ => { x with f10 := v }
abbrev A11int.list (x : A11int) : List Int := [x.f0, x.f1, x.f2, x.f3, x.f4, x.f5, x.f6, x.f7, x.f8, x.f9, x.f10]
theorem A11int.get_cell (x : A11int) {k : Nat} (h : k < 11) : ([I x.f0, I x.f1, I x.f2, I x.f3, I x.f4, I x.f5, I x.f6, I x.f7, I x.f8, I x.f9, I x.f10] : List AV)[0 + k * 1]? = some (I (x.get k)) := by
  match k, h with | 0, _ => rfl | 1, _ => rfl | 2, _ => rfl | 3, _ => rfl | 4, _ => rfl | 5, _ => rfl | 6, _ => rfl | 7, _ => rfl | 8, _ => rfl | 9, _ => rfl | 10, _ => rfl | k + 11, h => exact absurd h (by omega)
theorem A11int.set_cell (x : A11int) {k : Nat} (h : k < 11) (v : Int) : ([I x.f0, I x.f1, I x.f2, I x.f3, I x.f4, I x.f5, I x.f6, I x.f7, I x.f8, I x.f9, I x.f10] : List AV).set (0 + k * 1) (I v) = [I (x.set k v).f0, I (x.set k v).f1, I (x.set k v).f2, I (x.set k v).f3, I (x.set k v).f4, I (x.set k v).f5, I (x.set k v).f6, I (x.set k v).f7, I (x.set k v).f8, I (x.set k v).f9, I (x.set k v).f10] := by
  match k, h with | 0, _ => rfl | 1, _ => rfl | 2, _ => rfl | 3, _ => rfl | 4, _ => rfl | 5, _ => rfl | 6, _ => rfl | 7, _ => rfl | 8, _ => rfl | 9, _ => rfl | 10, _ => rfl | k + 11, h => exact absurd h (by omega)
theorem A11int.get_at (x : A11int) {k : Nat} (h : k < 11) (pre post : List AV) : (pre ++ ([I x.f0, I x.f1, I x.f2, I x.f3, I x.f4, I x.f5, I x.f6, I x.f7, I x.f8, I x.f9, I x.f10] ++ post))[pre.length + k * 1]? = some (I (x.get k)) := by
  rw [Nat.mul_one, List.getElem?_append_right (Nat.le_add_right _ _), Nat.add_sub_cancel_left]
  match k, h with | 0, _ => rfl | 1, _ => rfl | 2, _ => rfl | 3, _ => rfl | 4, _ => rfl | 5, _ => rfl | 6, _ => rfl | 7, _ => rfl | 8, _ => rfl | 9, _ => rfl | 10, _ => rfl | k + 11, h => exact absurd h (by omega)
theorem A11int.set_atP (x : A11int) {k : Nat} (h : k < 11) (v : Int) (pre post : List PV) : (pre ++ ([i64 x.f0, i64 x.f1, i64 x.f2, i64 x.f3, i64 x.f4, i64 x.f5, i64 x.f6, i64 x.f7, i64 x.f8, i64 x.f9, i64 x.f10] ++ post)).set (pre.length + k * 1) (i64 v) = pre ++ ([i64 (x.set k v).f0, i64 (x.set k v).f1, i64 (x.set k v).f2, i64 (x.set k v).f3, i64 (x.set k v).f4, i64 (x.set k v).f5, i64 (x.set k v).f6, i64 (x.set k v).f7, i64 (x.set k v).f8, i64 (x.set k v).f9, i64 (x.set k v).f10] ++ post) := by
  rw [Nat.mul_one, List.set_append_right _ _ (Nat.le_add_right _ _), Nat.add_sub_cancel_left]
  match k, h with | 0, _ => rfl | 1, _ => rfl | 2, _ => rfl | 3, _ => rfl | 4, _ => rfl | 5, _ => rfl | 6, _ => rfl | 7, _ => rfl | 8, _ => rfl | 9, _ => rfl | 10, _ => rfl | k + 11, h => exact absurd h (by omega)
theorem A11int.get_list (x : A11int) {k : Nat} (h : k < 11) : x.list[k]? = some (x.get k) := by
  match k, h with | 0, _ => rfl | 1, _ => rfl | 2, _ => rfl | 3, _ => rfl | 4, _ => rfl | 5, _ => rfl | 6, _ => rfl | 7, _ => rfl | 8, _ => rfl | 9, _ => rfl | 10, _ => rfl | k + 11, h => exact absurd h (by omega)
theorem A11int.set_list (x : A11int) {k : Nat} (h : k < 11) (v : Int) : (x.set k v).list = x.list.set k v := by
  match k, h with | 0, _ => rfl | 1, _ => rfl | 2, _ => rfl | 3, _ => rfl | 4, _ => rfl | 5, _ => rfl | 6, _ => rfl | 7, _ => rfl | 8, _ => rfl | 9, _ => rfl | 10, _ => rfl | k + 11, h => exact absurd h (by omega)

def sizeM (do_ : Int) : Int × Bool :=
  if (do_ : Int) ≤ 0 then (0, false) else if (do_ : Int) ≥ 11 then (0, false) else (((sizesM).get do_.toNat), true)
theorem sizeM_ok (do_ : Int) : Ok Tryd.prog 30 [I do_] [] (.tup [I (sizeM do_).1, B (sizeM do_).2]) [] [] := by
 refine ok_of_sem Tryd.func30 rfl ?_
 show Walks Tryd.prog _ _ ⟨[(0, I do_)], [], 0, [], 15, 0⟩
 refine sem_seq (sem_region rfl (step_r rfl rfl trivial (step_r rfl rfl trivial (step_nil (seqK_n (sem_seq (sem_region rfl (step_call rfl rfl rfl rfl (sizesM_ok ) rfl rfl rfl (step_n (o := .box [_, _, _, _, _, _, _, _, _, _, _]) (nx' := 1) rfl rfl rfl trivial ?_)))))))))
 refine step_storeB (H' := [(0, .box [_, _, _, _, _, _, _, _, _, _, _])]) rfl rfl rfl rfl rfl rfl (.inl rfl) rfl ?_
 refine step_nil (seqK_n (sem_seq (sem_seq (sem_region rfl (step_r rfl rfl trivial (step_bin rfl rfl rfl rfl rfl trivial (step_r rfl rfl trivial ?_)))))))
 refine step_gs rfl (fun h3 => ?_) (fun h3 => ?_)
 ·have g3 : (do_ : Int) ≤ 0 := of_decide_eq_true h3
  refine step_g0 rfl h3 rfl (step_g0 rfl h3 rfl (step_pickT rfl h3 rfl rfl (step_nil (seqK_n (sem_condT rfl (sem_seq (sem_region rfl (step_r rfl rfl trivial (step_r rfl rfl trivial (step_nil (seqK_n ?_)))))))))))
  refine sem_ret (seqK_r ?_)
  have e4 : sizeM do_ = (0, false) := by
   unfold sizeM
   try dsimp only
   rewrite [if_pos g3]
   all_goals rfl
  rw [e4]
  exact answersR rfl ⟨trivial, trivial, trivial⟩ (rfl) rfl
 ·have g3 : ¬ ((do_ : Int) ≤ 0) := of_decide_eq_false h3
  refine step_g1 rfl h3 (step_r rfl rfl trivial (step_g1 rfl h3 (step_bin rfl rfl rfl rfl rfl trivial (step_pickF rfl h3 rfl rfl (step_nil (seqK_n ?_))))))
  refine sem_cond rfl (fun h6 => ?_) (fun h6 => ?_)
  ·have g6 : (do_ : Int) ≥ 11 := of_decide_eq_true h6
   refine sem_seq (sem_region rfl (step_r rfl rfl trivial (step_r rfl rfl trivial (step_nil (seqK_n (sem_ret (seqK_r ?_)))))))
   have e7 : sizeM do_ = (0, false) := by
    unfold sizeM
    try dsimp only
    rewrite [if_neg g3, if_pos g6]
    all_goals rfl
   rw [e7]
   exact answersR rfl ⟨trivial, trivial, trivial⟩ (rfl) rfl
  ·have g6 : ¬ ((do_ : Int) ≥ 11) := of_decide_eq_false h6
   refine sem_skip (seqK_n (sem_seq (sem_region rfl (step_r rfl rfl trivial ?_))))
   have jk8 : do_.toNat < 11 := by first | assumption | omega | (simp only [IntKind.wrap_i64]; omega) | (simp only [IntKind.wrap_i64] at *; omega) | (simp; omega) | simp_all
   refine step_idxA (k := do_.toNat) rfl rfl (Int.toNat_of_nonneg (by first | omega | (simp only [IntKind.wrap_i64]; omega) | (simp only [IntKind.wrap_i64] at *; omega) | (simp; omega))).symm rfl rfl jk8 rfl ?_
   refine step_load_boxA rfl rfl rfl rfl (A11int.get_cell (sizesM) jk8) rfl ?_
   refine step_r rfl rfl trivial (step_r rfl rfl trivial (step_nil (seqK_n (sem_ret ?_))))
   have e10 : sizeM do_ = (((sizesM).get do_.toNat), true) := by
    unfold sizeM
    try dsimp only
    rewrite [if_neg g3, if_neg g6]
    all_goals rfl
   rw [e10]
   exact answersR rfl ⟨trivial, trivial, trivial⟩ (rfl) rfl

structure GMessage where
  (Do : Int)
  (L : List Int)
  (Text : List UInt8)
  deriving DecidableEq, Inhabited
def encGMessage (x : GMessage) : List PV := [i64 x.Do, .slc x.L.length false (encI x.L), .str x.Text]
abbrev aGMessage (x : GMessage) : AV := .agg [I x.Do, .pv (.slc x.L.length false (encI x.L)), .pv (.str x.Text)]
def wfGMessage (x : GMessage) : Prop := (InR x.Do) ∧ ((∀ y ∈ x.L, InR y) ∧ x.L.length ≤ 140737488355328) ∧ (x.Text.length ≤ maxLen)

def rightM (m : GMessage) : Bool :=
  if (sizeM m.Do).2 = true then (if (m.L.length : Int) = ((sizeM m.Do).1) then (if m.Text = ([]) then true else if (m.Do : Int) = 4 then (nameC m.Text) else false) else false) else false
theorem rightM_ok (m : GMessage) : Ok Tryd.prog 25 [aGMessage m] [] (B (rightM m)) [] [] := by
 refine Ok.len fun hlen => ?_
 have hl_m_L : m.L.length ≤ maxLen := hlen _ (by simp [lensL, lens, lensP])
 unfold maxLen at hl_m_L
 refine ok_of_sem Tryd.func25 rfl ?_
 show Walks Tryd.prog _ _ ⟨[(0, aGMessage m)], [], 0, [], 33, 0⟩
 refine sem_seq (sem_region rfl (step_n (o := .box [_, _, _]) (nx' := 1) rfl rfl rfl trivial (step_r rfl rfl trivial (step_nil (seqK_n (sem_seq (sem_region rfl (step_r rfl rfl (by decide) (step_r rfl rfl trivial (step_call rfl rfl rfl rfl (sizeM_ok m.Do) rfl rfl rfl (step_r rfl rfl trivial ?_)))))))))))
 refine step_r rfl rfl trivial (step_r rfl rfl trivial (step_r rfl rfl trivial (step_r rfl rfl trivial (step_nil (seqK_n (sem_seq (sem_seq (sem_region rfl (step_r rfl rfl trivial (step_r rfl rfl trivial (step_r rfl rfl trivial ?_)))))))))))
 refine step_gs rfl (fun h4 => ?_) (fun h4 => ?_)
 ·have g4 : ¬ ((sizeM m.Do).2 = true) := boo_f (not_t h4)
  refine step_g0 rfl h4 rfl (step_g0 rfl h4 rfl (step_g0 rfl h4 rfl (step_g0 rfl h4 rfl (step_g0 rfl h4 rfl (step_pickT rfl h4 rfl rfl (step_nil (seqK_n (sem_condT rfl (sem_seq (sem_region rfl (step_r rfl rfl trivial ?_)))))))))))
  refine step_nil (seqK_n (sem_ret (seqK_r ?_)))
  have e5 : rightM m = false := by
   unfold rightM
   try dsimp only
   rewrite [if_neg g4]
   all_goals rfl
  rw [e5]
  exact answersR rfl ⟨trivial, trivial⟩ (rfl) rfl
 ·have g4 : (sizeM m.Do).2 = true := (not_f h4)
  refine step_g1 rfl h4 (step_r rfl rfl (by decide) (step_g1 rfl h4 (step_r rfl rfl trivial (step_g1 rfl h4 (step_r rfl rfl trivial (step_g1 rfl h4 (step_r rfl rfl trivial (step_g1 rfl h4 (step_bin rfl rfl rfl rfl rfl trivial (step_pickF rfl h4 rfl rfl (step_nil ?_)))))))))))
  refine seqK_n ?_
  refine sem_cond rfl (fun h7 => ?_) (fun h7 => ?_)
  ·have g7 : ¬ ((m.L.length : Int) = ((sizeM m.Do).1)) := bne_t h7
   refine sem_seq (sem_region rfl (step_r rfl rfl trivial (step_nil (seqK_n (sem_ret (seqK_r ?_))))))
   have e8 : rightM m = false := by
    unfold rightM
    try dsimp only
    rewrite [if_pos g4, if_neg g7]
    all_goals rfl
   rw [e8]
   exact answersR rfl ⟨trivial, trivial⟩ (rfl) rfl
  ·have g7 : (m.L.length : Int) = ((sizeM m.Do).1) := bne_f h7
   refine sem_skip (seqK_n (sem_seq (sem_region rfl (step_r rfl rfl (by decide) (step_r rfl rfl trivial (step_bin rfl rfl rfl rfl rfl trivial (step_r rfl rfl trivial ?_)))))))
   refine step_gs rfl (fun h10 => ?_) (fun h10 => ?_)
   ·have g10 : m.Text = ([]) := beq_t h10
    refine step_g0 rfl h10 rfl (step_g0 rfl h10 rfl (step_g0 rfl h10 rfl (step_g0 rfl h10 rfl (step_gf rfl rfl (step_gf rfl rfl (step_gf rfl rfl (step_g0 rfl h10 rfl (step_pickT rfl h10 rfl rfl (step_r rfl rfl trivial (step_nil (seqK_n ?_)))))))))))
    refine sem_ret ?_
    have e11 : rightM m = true := by
     unfold rightM
     try dsimp only
     rewrite [if_pos g4, if_pos g7, if_pos g10]
     all_goals rfl
    rw [e11]
    exact answersR rfl ⟨trivial, trivial⟩ (rfl) rfl
   ·have g10 : ¬ (m.Text = ([])) := beq_f h10
    refine step_g1 rfl h10 (step_r rfl rfl (by decide) (step_g1 rfl h10 (step_r rfl rfl trivial (step_g1 rfl h10 (step_bin rfl rfl rfl rfl rfl trivial (step_g1 rfl h10 (step_r rfl rfl trivial ?_)))))))
    refine step_gs rfl (fun h13 => ?_) (fun h13 => ?_)
    ·have g13 : (m.Do : Int) = 4 := beq_t h13
     refine step_g1 rfl h13 (step_r rfl rfl (by decide) (step_g1 rfl h13 (step_r rfl rfl trivial (step_g1 rfl h13 (step_call rfl rfl rfl rfl (nameC_ok m.Text) rfl rfl rfl (step_g1 rfl h10 (step_pickT rfl h13 rfl rfl (step_pickF rfl h10 rfl rfl (step_r rfl rfl trivial (step_nil (seqK_n ?_)))))))))))
     refine sem_ret ?_
     have e15 : rightM m = (nameC m.Text) := by
      unfold rightM
      try dsimp only
      rewrite [if_pos g4, if_pos g7, if_neg g10, if_pos g13]
      all_goals rfl
     rw [e15]
     exact answersR rfl ⟨trivial, trivial⟩ (rfl) rfl
    ·have g13 : ¬ ((m.Do : Int) = 4) := beq_f h13
     refine step_g0 rfl h13 rfl (step_g0 rfl h13 rfl (step_g0 rfl h13 rfl (step_g1 rfl h10 (step_pickF rfl h13 rfl rfl (step_pickF rfl h10 rfl rfl (step_r rfl rfl trivial (step_nil (seqK_n (sem_ret ?_)))))))))
     have e16 : rightM m = false := by
      unfold rightM
      try dsimp only
      rewrite [if_pos g4, if_pos g7, if_neg g10, if_neg g13]
      all_goals rfl
     rw [e16]
     exact answersR rfl ⟨trivial, trivial⟩ (rfl) rfl

def sameMR_L0 (a : GMessage) (b : GMessage) : Nat → Nat → Sum Bool Unit
  | 0, k0 => .inr ()
  | n_ + 1, k0 => if (a.L.getD k0 default : Int) = (b.L.getD k0 default) then sameMR_L0 a b n_ (k0 + 1) else .inl false
def sameMR (a : GMessage) (b : GMessage) : Bool :=
  if (a.Do : Int) = b.Do then (if a.Text = b.Text then (if (a.L.length : Int) = b.L.length then (match sameMR_L0 a b (a.L.length - 0) 0 with
    | .inl r_ => r_
    | .inr () => true) else false) else false) else false
theorem sameMR_ok (a : GMessage) (b : GMessage) : Ok Tryd.prog 17 [aGMessage a, aGMessage b] [] (B (sameMR a b)) [] [] := by
 refine Ok.len fun hlen => ?_
 have hl_a_L : a.L.length ≤ maxLen := hlen _ (by simp [lensL, lens, lensP])
 have hl_b_L : b.L.length ≤ maxLen := hlen _ (by simp [lensL, lens, lensP])
 unfold maxLen at hl_a_L hl_b_L
 refine ok_of_sem Tryd.func17 rfl ?_
 show Walks Tryd.prog _ _ ⟨[(0, aGMessage a), (1, aGMessage b)], [], 0, [], 45, 0⟩
 refine sem_seq (sem_region rfl (step_n (o := .box [_, _, _]) (nx' := 1) rfl rfl rfl trivial (step_n (o := .box [_, _, _]) (nx' := 2) rfl rfl rfl trivial (step_r rfl rfl trivial (step_nil (seqK_n (sem_seq (sem_seq (sem_region rfl (step_r rfl rfl (by decide) (step_r rfl rfl trivial ?_)))))))))))
 refine step_r rfl rfl (by decide) (step_r rfl rfl trivial (step_bin rfl rfl rfl rfl rfl trivial (step_r rfl rfl trivial ?_)))
 refine step_gs rfl (fun h2 => ?_) (fun h2 => ?_)
 ·have g2 : ¬ ((a.Do : Int) = b.Do) := bne_t h2
  refine step_g0 rfl h2 rfl (step_g0 rfl h2 rfl (step_g0 rfl h2 rfl (step_g0 rfl h2 rfl (step_g0 rfl h2 rfl (step_pickT rfl h2 rfl rfl (step_r rfl rfl trivial (step_gf rfl rfl (step_gf rfl rfl (step_gf rfl rfl (step_gf rfl rfl (step_gf rfl rfl ?_)))))))))))
  refine step_gf rfl rfl (step_gf rfl rfl (step_r rfl rfl trivial (step_nil (seqK_n (sem_condT rfl (sem_seq (sem_region rfl (step_r rfl rfl trivial (step_nil (seqK_n (sem_ret ?_)))))))))))
  refine seqK_r ?_
  have e3 : sameMR a b = false := by
   unfold sameMR
   try dsimp only
   rewrite [if_neg g2]
   all_goals rfl
  rw [e3]
  exact answersR rfl ⟨trivial, trivial⟩ (rfl) rfl
 ·have g2 : (a.Do : Int) = b.Do := bne_f h2
  refine step_g1 rfl h2 (step_r rfl rfl (by decide) (step_g1 rfl h2 (step_r rfl rfl trivial (step_g1 rfl h2 (step_r rfl rfl (by decide) (step_g1 rfl h2 (step_r rfl rfl trivial (step_g1 rfl h2 (step_bin rfl rfl rfl rfl rfl trivial (step_pickF rfl h2 rfl rfl (step_r rfl rfl trivial ?_)))))))))))
  refine step_gs rfl (fun h5 => ?_) (fun h5 => ?_)
  ·have g5 : ¬ (a.Text = b.Text) := beq_f (not_t h5)
   refine step_g0 rfl h5 rfl (step_g0 rfl h5 rfl (step_g0 rfl h5 rfl (step_g0 rfl h5 rfl (step_g0 rfl h5 rfl (step_g0 rfl h5 rfl (step_g0 rfl h5 rfl (step_pickT rfl h5 rfl rfl (step_nil (seqK_n (sem_condT rfl (sem_seq ?_)))))))))))
   refine sem_region rfl (step_r rfl rfl trivial (step_nil (seqK_n (sem_ret (seqK_r ?_)))))
   have e6 : sameMR a b = false := by
    unfold sameMR
    try dsimp only
    rewrite [if_pos g2, if_neg g5]
    all_goals rfl
   rw [e6]
   exact answersR rfl ⟨trivial, trivial⟩ (rfl) rfl
  ·have g5 : a.Text = b.Text := beq_t (not_f h5)
   refine step_g1 rfl h5 (step_r rfl rfl (by decide) (step_g1 rfl h5 (step_r rfl rfl trivial (step_g1 rfl h5 (step_r rfl rfl trivial (step_g1 rfl h5 (step_r rfl rfl (by decide) (step_g1 rfl h5 (step_r rfl rfl trivial (step_g1 rfl h5 (step_r rfl rfl trivial ?_)))))))))))
   refine step_g1 rfl h5 (step_bin rfl rfl rfl rfl rfl trivial (step_pickF rfl h5 rfl rfl (step_nil (seqK_n ?_))))
   refine sem_cond rfl (fun h8 => ?_) (fun h8 => ?_)
   ·have g8 : ¬ ((a.L.length : Int) = b.L.length) := bne_t h8
    refine sem_seq (sem_region rfl (step_r rfl rfl trivial (step_nil (seqK_n (sem_ret (seqK_r ?_))))))
    have e9 : sameMR a b = false := by
     unfold sameMR
     try dsimp only
     rewrite [if_pos g2, if_pos g5, if_neg g8]
     all_goals rfl
    rw [e9]
    exact answersR rfl ⟨trivial, trivial⟩ (rfl) rfl
   ·have g8 : (a.L.length : Int) = b.L.length := bne_f h8
    refine sem_skip (seqK_n (sem_seq (sem_seq (sem_region rfl (step_r rfl rfl trivial (step_nil (seqK_n ?_)))))))
    refine sem_cutW (fun w_ : Unit => match w_ with | () => (⟨[], [], 0, [], 45, 0⟩ : St)) (fun w_ => sameMR_L0 a b (a.L.length - 0) 0 = .inr w_) ?_ ?_
    ·refine sem_block ?_
     refine sem_loopT (fun k0 : Nat => (⟨[(2, .ptr 0 0), (3, .ptr 1 0), (5, I k0)], [(0, .box [I a.Do, .pv (.slc a.L.length false (encI a.L)), .pv (.str a.Text)]), (1, .box [I b.Do, .pv (.slc b.L.length false (encI b.L)), .pv (.str b.Text)])], 2, [], 45, 0⟩ : St)) (fun k0 : Nat => sameMR_L0 a b (a.L.length - k0) k0 = sameMR_L0 a b (a.L.length - 0) 0 ∧ k0 ≤ a.L.length) (fun k0 : Nat => a.L.length - k0) 0 (⟨rfl, (by first | omega | (simp; omega))⟩) ?_ (fun k0 hh_ => ?_)
     ·exact (Trans.ren [] (by decide +kernel) (by decide +kernel) rfl ⟨⟨rfl, rfl⟩, ⟨rfl, rfl⟩, ⟨rfl, rfl⟩, trivial⟩ ⟨⟨rfl, rfl, rfl⟩, ⟨rfl, rfl, rfl⟩, trivial⟩ (by decide))
     obtain ⟨hI0, hb0⟩ := hh_
     show Walks Tryd.prog _ _ (⟨[(2, .ptr 0 0), (3, .ptr 1 0), (5, I k0)], [(0, .box [I a.Do, .pv (.slc a.L.length false (encI a.L)), .pv (.str a.Text)]), (1, .box [I b.Do, .pv (.slc b.L.length false (encI b.L)), .pv (.str b.Text)])], 2, [], 45, 0⟩ : St)
     refine sem_seq (sem_seq (sem_region rfl (step_r rfl rfl trivial (step_r rfl rfl (by decide) (step_r rfl rfl trivial (step_r rfl rfl trivial (step_bin rfl rfl rfl rfl rfl trivial (step_nil (seqK_n ?_)))))))))
     refine sem_cond rfl (fun h12 => ?_) (fun h12 => ?_)
     ·have g12 : (k0 : Int) < a.L.length := of_decide_eq_true h12
      have hm0 : a.L.length - k0 = (a.L.length - (k0 + 1)) + 1 := by omega
      refine sem_skip (seqK_n (sem_seq (sem_block (sem_seq ?_))))
      refine sem_drawn rfl (by decide +kernel) rfl ?_
      refine step_r rfl rfl (by decide) (step_r rfl rfl trivial (step_r rfl rfl trivial ?_))
      have jk13 : k0 < a.L.length := by first | assumption | omega | (simp only [List.length_set, List.length_append]; omega) | (simp only [IntKind.wrap_i64] at *; omega) | (simp; omega) | simp_all
      refine step_idxS (k := k0) rfl rfl rfl rfl jk13 (encI_ne jk13) rfl (step_load_one rfl rfl rfl (encI_get (get_getD jk13)) rfl (step_r rfl rfl (by decide) (step_r rfl rfl trivial (step_r rfl rfl trivial ?_))))
      have jk14 : k0 < b.L.length := by first | assumption | omega | (simp only [List.length_set, List.length_append]; omega) | (simp only [IntKind.wrap_i64] at *; omega) | (simp; omega) | simp_all
      refine step_idxS (k := k0) rfl rfl rfl rfl jk14 (encI_ne jk14) rfl (step_load_one rfl rfl rfl (encI_get (get_getD jk14)) rfl (step_bin rfl rfl rfl rfl rfl trivial (step_nil (seqK_n ?_))))
      refine sem_cond rfl (fun h15 => ?_) (fun h15 => ?_)
      ·have g15 : ¬ ((a.L.getD k0 default : Int) = (b.L.getD k0 default)) := bne_t h15
       refine sem_seq (sem_region rfl (step_r rfl rfl trivial (step_nil (seqK_n (sem_ret (blkK_r (seqK_r (lupK_r (blkK_r (cutW_r (seqK_r ?_)))))))))))
       have e16 : sameMR_L0 a b (a.L.length - 0) 0 = .inl false := by
        rewrite [← hI0, hm0]
        rewrite [sameMR_L0]
        try dsimp only
        rewrite [if_neg g15]
        all_goals rfl
       have e17 : sameMR a b = false := by
        unfold sameMR
        try dsimp only
        rewrite [if_pos g2, if_pos g5, if_pos g8, e16]
        try dsimp only
        all_goals rfl
       rw [e17]
       exact answersR rfl ⟨trivial, trivial⟩ (rfl) rfl
      ·have g15 : (a.L.getD k0 default : Int) = (b.L.getD k0 default) := bne_f h15
       refine sem_skip (blkK_n (seqK_n (sem_region rfl (step_r rfl rfl trivial (step_bin rfl rfl rfl rfl rfl trivial (step_r rfl rfl trivial (step_nil ?_)))))))
       have e19 : sameMR_L0 a b (a.L.length - k0) k0 = sameMR_L0 a b (a.L.length - (k0 + 1)) (k0 + 1) := by
        rewrite [hm0]
        rewrite [sameMR_L0]
        try dsimp only
        rewrite [if_pos g15]
        all_goals rfl
       exact lup_againT (k0 + 1) ⟨e19.symm.trans hI0, (by omega)⟩ (by show a.L.length - (k0 + 1) < a.L.length - k0; omega) (Trans.ren [] (by decide +kernel) (by decide +kernel) rfl ⟨⟨rfl, rfl⟩, ⟨rfl, rfl⟩, ⟨congrArg (fun n => some (I n)) (wrapI (k := k0) (by first | omega | (simp; omega))), rfl⟩, trivial⟩ ⟨⟨rfl, rfl, rfl⟩, ⟨rfl, rfl, rfl⟩, trivial⟩ (by decide))
     ·have g12 : ¬ ((k0 : Int) < a.L.length) := of_decide_eq_false h12
      have hm0 : a.L.length - k0 = 0 := by omega
      refine sem_exit (seqK_e (lupK_e (blkK_t rfl ?_)))
      have e20 : sameMR_L0 a b (a.L.length - 0) 0 = .inr () := by
       rewrite [← hI0, hm0]
       rewrite [sameMR_L0]
       try dsimp only
       all_goals rfl
      exact cutW_n () e20 (Trans.ren [] (by decide +kernel) (by decide +kernel) rfl trivial trivial (by decide))
    ·rintro ⟨⟩ (hJ10 : sameMR_L0 a b (a.L.length - 0) 0 = .inr ())
     show seqK _ _ _ .normal (⟨[], [], 0, [], 45, 0⟩ : St)
     refine seqK_n (sem_seq (sem_region rfl (step_r rfl rfl trivial (step_nil (seqK_n (sem_ret ?_))))))
     have e21 : sameMR a b = true := by
      unfold sameMR
      try dsimp only
      rewrite [if_pos g2, if_pos g5, if_pos g8, hJ10]
      try dsimp only
      all_goals rfl
     rw [e21]
     exact answersR rfl ⟨trivial, trivial⟩ (rfl) rfl

theorem sizeM_le (d : Int) : (sizeM d).1 ≤ 10 := by
  unfold sizeM
  split
  · show (0 : Int) ≤ 10; omega
  · split
    · show (0 : Int) ≤ 10; omega
    · show (sizesM.get d.toNat) ≤ 10
      have h : ∀ k : Fin 11, sizesM.get k.1 ≤ 10 := by decide +kernel
      exact h ⟨d.toNat, by omega⟩
theorem rightM_len {m : GMessage} (h : rightM m = true) : m.L.length ≤ 10 ∧ m.Text.length ≤ 24 := by
  have hs := sizeM_le m.Do
  unfold rightM at h
  split at h
  · split at h
    · refine ⟨by omega, ?_⟩
      split at h
      · rename_i h1; rw [h1]; simp
      · split at h
        · exact nameC_len h
        · cases h
    · cases h
  · cases h


def encM_L0 : List Int → Nat → (List UInt8) → List UInt8
  | [], k0, b0 => b0
  | x0 :: l_, k0, b0 => encM_L0 l_ (k0 + 1) (putI b0 x0)
def encM (m : GMessage) : (List UInt8) × Int :=
  if rightM m = true then (let b_0 := encM_L0 m.L 0 ([(by8 m.Do)]); ((b_0 ++ m.Text), 0)) else ([], 1)
theorem encM_ok (m : GMessage) : Ok Tryd.prog 14 [aGMessage m] [] (.tup [.ref 0 1 0 (encM m).1.length, I (encM m).2]) [.row 5 1 (encY (encM m).1)] [] := by
 refine Ok.len fun hlen => ?_
 have hl_m_L : m.L.length ≤ maxLen := hlen _ (by simp [lensL, lens, lensP])
 unfold maxLen at hl_m_L
 refine ok_of_sem Tryd.func14 rfl ?_
 show Walks Tryd.prog _ _ ⟨[(0, aGMessage m)], [], 0, [], 29, 0⟩
 refine sem_seq (sem_region rfl (step_n (o := .box [_, _, _]) (nx' := 1) rfl rfl rfl trivial (step_n (nx' := 2) rfl rfl rfl trivial (step_r rfl rfl trivial (step_nil (seqK_n (sem_seq (sem_seq (sem_region rfl (step_r (v := (.agg [_, _, _])) rfl rfl (Nat.le_of_ble_eq_true rfl) (step_call rfl rfl rfl rfl (rightM_ok m) rfl rfl rfl ?_)))))))))))
 refine step_r rfl rfl trivial (step_nil (seqK_n ?_))
 refine sem_cond rfl (fun h1 => ?_) (fun h1 => ?_)
 ·have g1 : ¬ (rightM m = true) := boo_f (not_t h1)
  refine sem_seq (sem_region rfl (step_n (nx' := 3) rfl rfl rfl trivial (step_r rfl rfl trivial (step_nil (seqK_n (sem_ret (seqK_r ?_)))))))
  have e2 : encM m = ([], 1) := by
   unfold encM
   try dsimp only
   rewrite [if_neg g1]
   all_goals rfl
  rw [e2]
  exact answersGR [] [2] rfl ⟨trivial, trivial, trivial⟩ rfl (by (repeat' apply And.intro) <;> first | trivial | rfl | exact flat_len (fun _ => rfl) _ | exact encI_len _ | exact encB_len _ | exact encY_len _ | assumption) (rfl) rfl rfl rfl (by decide) rfl rfl ⟨⟨rfl, rfl⟩, trivial⟩
 ·have g1 : rightM m = true := (not_f h1)
  have qg1 := rightM_len g1
  refine sem_skip (seqK_n (sem_seq (sem_region rfl (step_r rfl rfl (by decide) (step_r rfl rfl trivial (step_r rfl rfl trivial ?_))))))
  refine tell8 (conv8 m.Do) ?_
  refine step_n (o := .row _ _ [_]) (nx' := 3) rfl rfl rfl (by decide) (step_r rfl rfl trivial (step_nil (seqK_n (sem_seq (sem_seq (sem_region rfl (step_r rfl rfl (by decide) (step_r rfl rfl trivial (step_r rfl rfl trivial (step_r rfl rfl trivial (step_nil ?_)))))))))))
  refine seqK_n ?_
  refine sem_cutW (fun b_0 : List UInt8 => (⟨[(1, .ptr 0 0), (4, .ref 1 1 0 b_0.length)], [(0, .box [I m.Do, .pv (.slc m.L.length false (encI m.L)), .pv (.str m.Text)]), (1, .row 5 1 (encY b_0))], 2, [], 29, 0⟩ : St)) (fun b_0 : List UInt8 => encM_L0 m.L 0 ([(by8 m.Do)]) = b_0 ∧ (b_0.length ≤ 200)) ?_ ?_
  ·refine sem_block ?_
   refine sem_loopT (fun w_ : Nat × (List UInt8) => match w_ with | (k0, b0) => (⟨[(1, .ptr 0 0), (4, .ref 1 1 0 b0.length), (15, .pv (.slc m.L.length false (encI m.L))), (16, I m.L.length), (17, I k0)], [(0, .box [I m.Do, .pv (.slc m.L.length false (encI m.L)), .pv (.str m.Text)]), (1, .row 5 1 (encY b0))], 2, [], 29, 0⟩ : St)) (fun w_ : Nat × (List UInt8) => match w_ with | (k0, b0) => encM_L0 (m.L.drop k0) k0 b0 = encM_L0 m.L 0 ([(by8 m.Do)]) ∧ k0 ≤ m.L.length ∧ b0.length ≤ 11 * k0 + 1) (fun w_ : Nat × (List UInt8) => match w_ with | (k0, b0) => m.L.length - k0) (0, [(by8 m.Do)]) (⟨rfl, Nat.zero_le _, by first | omega | simp | (simp; omega)⟩) ?_ (fun w_ hh_ => ?_)
   ·exact (Trans.ren [(1, 2), (2, 1)] (by decide +kernel) (by decide +kernel) rfl ⟨⟨rfl, rfl⟩, ⟨congrArg (fun n => some (AV.ref 2 1 0 n)) (by first | rfl | simp only [List.length_set] | simp | omega | (simp; omega)), rfl⟩, ⟨rfl, rfl⟩, ⟨rfl, rfl⟩, ⟨rfl, rfl⟩, trivial⟩ ⟨⟨rfl, rfl, rfl⟩, ⟨rfl, rfl, rfl⟩, trivial⟩ (by decide))
   obtain ⟨k0, b0⟩ := w_
   obtain ⟨hI0, hb0, hv0⟩ := hh_
   show Walks Tryd.prog _ _ (⟨[(1, .ptr 0 0), (4, .ref 1 1 0 b0.length), (15, .pv (.slc m.L.length false (encI m.L))), (16, I m.L.length), (17, I k0)], [(0, .box [I m.Do, .pv (.slc m.L.length false (encI m.L)), .pv (.str m.Text)]), (1, .row 5 1 (encY b0))], 2, [], 29, 0⟩ : St)
   refine sem_seq (sem_region rfl (step_bin rfl rfl rfl rfl rfl trivial (step_nil (seqK_n (sem_seq ?_)))))
   refine sem_cond rfl (fun h4 => ?_) (fun h4 => ?_)
   ·have g4 : (k0 : Int) < m.L.length := of_decide_eq_true h4
    have hk0 : k0 < m.L.length := by omega
    obtain ⟨x0, hx0⟩ : ∃ z_, m.L[k0]? = some z_ := ⟨_, List.getElem?_eq_getElem hk0⟩
    refine sem_skip (seqK_n (sem_seq (sem_block (sem_seq (sem_region rfl (step_idxS (k := k0) rfl rfl rfl rfl hk0 (encI_ne hk0) rfl (step_load_one rfl rfl rfl (encI_get hx0) rfl (step_r rfl rfl trivial (step_nil (seqK_n (sem_region rfl ?_)))))))))))
    refine step_r rfl rfl trivial (step_r rfl rfl trivial ?_)
    refine step_callJ (Hin := [.row _ _ _]) (out' := .ref 2 _ _ _) (H' := [(2, .row _ _ _), (0, _), (1, _)]) (nx' := 3) [1] rfl rfl rfl rfl rfl rfl rfl rfl rfl (by (repeat' apply And.intro) <;> first | trivial | rfl | exact flat_len (fun _ => rfl) _ | exact encI_len _ | exact encB_len _ | exact encY_len _ | exact Nat.le_of_ble_eq_true rfl | assumption) (putI_ok b0 false x0 (by first | assumption | omega | (simp only [List.length_append, List.length_cons, List.length_nil] at *; omega))) rfl (by decide) rfl rfl ⟨encY_solid, trivial⟩ rfl rfl rfl rfl ?_
    have p6 := putI_len b0 x0
    refine step_r rfl rfl trivial (step_nil (blkK_n (seqK_n (sem_region rfl (step_bin rfl rfl rfl rfl rfl trivial (step_r rfl rfl trivial (step_nil ?_)))))))
    have e8 : encM_L0 (m.L.drop k0) k0 b0 = encM_L0 (m.L.drop (k0 + 1)) (k0 + 1) (putI b0 x0) := by
     rewrite [drop_cons hx0]
     rewrite [encM_L0]
     try dsimp only
     all_goals rfl
    exact lup_againT (k0 + 1, (putI b0 x0)) ⟨e8.symm.trans hI0, hk0, by first | omega | assumption | (simp only [List.length_append, List.length_cons, List.length_nil, List.length_set]; omega) | (simp; omega) | grind⟩ (by show m.L.length - (k0 + 1) < m.L.length - k0; omega) (Trans.ren [(1, 2), (2, 1)] (by decide +kernel) (by decide +kernel) rfl ⟨⟨rfl, rfl⟩, ⟨rfl, rfl⟩, ⟨rfl, rfl⟩, ⟨rfl, rfl⟩, ⟨congrArg (fun n => some (I n)) (wrapI (k := k0) (by first | omega | (simp; omega))), rfl⟩, trivial⟩ ⟨⟨rfl, rfl, rfl⟩, ⟨rfl, rfl, rfl⟩, trivial⟩ (by decide))
   ·have g4 : ¬ ((k0 : Int) < m.L.length) := of_decide_eq_false h4
    have hk0 : k0 = m.L.length := by omega
    refine sem_exit (seqK_e (lupK_e (blkK_t rfl ?_)))
    have e9 : encM_L0 m.L 0 ([(by8 m.Do)]) = b0 := by
     rewrite [← hI0, hk0, List.drop_length]
     rewrite [encM_L0]
     try dsimp only
     all_goals rfl
    exact cutW_n b0 ⟨e9, by first | assumption | omega | (simp; omega) | simp_all | grind⟩ (Trans.ren [] (by decide +kernel) (by decide +kernel) rfl ⟨⟨rfl, rfl⟩, ⟨rfl, rfl⟩, trivial⟩ ⟨⟨rfl, rfl, rfl⟩, ⟨rfl, rfl, rfl⟩, trivial⟩ (by decide))
  ·rintro b_0 ⟨(hJ3 : encM_L0 m.L 0 ([(by8 m.Do)]) = b_0), hE0⟩
   show seqK _ _ _ .normal (⟨[(1, .ptr 0 0), (4, .ref 1 1 0 b_0.length)], [(0, .box [I m.Do, .pv (.slc m.L.length false (encI m.L)), .pv (.str m.Text)]), (1, .row 5 1 (encY b_0))], 2, [], 29, 0⟩ : St)
   refine seqK_n (sem_seq (sem_region rfl (step_r rfl rfl trivial (step_r rfl rfl (by decide) (step_r rfl rfl trivial ?_)))))
   refine step_appendC (m := m.Text.length) (new := encY m.Text) (cs' := encY (b_0 ++ m.Text)) (n' := (b_0 ++ m.Text).length) (H' := [(0, .box [_, _, _]), (1, .row _ _ _)]) rfl rfl rfl (rfl) rfl rfl rfl rfl rfl rfl (encY_len b_0) (encY_len m.Text) (by first | decide | (unfold maxGrow; omega) | (unfold maxGrow; simp; omega) | (unfold maxGrow; simp only [List.length_append, List.length_take, List.length_drop, List.length_cons, List.length_nil, IntKind.wrap_i64] at *; omega)) (len_append b_0 m.Text) (encY_append b_0 m.Text) (.inl rfl) rfl rfl (.keep rfl (.keep rfl .nil)) (.keep rfl (.keep rfl (.lose (v' := .undef) rfl (.keep rfl (.lose (v' := .undef) rfl .nil))))) ?_
   refine step_r rfl rfl trivial (step_r rfl rfl trivial (step_nil (seqK_n (sem_ret ?_))))
   have e10 : encM m = ((b_0 ++ m.Text), 0) := by
    unfold encM
    try dsimp only
    rewrite [if_pos g1, hJ3]
    try dsimp only
    all_goals rfl
   rw [e10]
   exact answersGR [] [1] rfl ⟨trivial, trivial, trivial⟩ rfl (by (repeat' apply And.intro) <;> first | trivial | rfl | exact flat_len (fun _ => rfl) _ | exact encI_len _ | exact encB_len _ | exact encY_len _ | assumption) (rfl) rfl rfl rfl (by decide) rfl rfl ⟨⟨rfl, rfl⟩, trivial⟩

def decM_L0 (load : List UInt8) : Nat → Nat → (List Int) → Int → Sum (GMessage × Int) ((List Int) × Int)
  | 0, k0, o20, at0 => .inr (o20, at0)
  | n_ + 1, k0, o20, at0 => if ((readI load at0).2.2 : Int) = 0 then decM_L0 load n_ (k0 + 1) (o20 ++ [(readI load at0).1]) ((readI load at0).2.1) else .inl ((⟨0, [], []⟩ : GMessage), 2)
def decM (load : List UInt8) : GMessage × Int :=
  if (load.length : Int) = 0 then ((⟨0, [], []⟩ : GMessage), 2) else (match decM_L0 load (((sizeM (IntKind.i64.wrap ((load.getD 0 default).toNat))).1.toNat) - 0) 0 ([]) 1 with
    | .inl r_ => r_
    | .inr (o2_0, at_0) => if rightM (⟨(IntKind.i64.wrap ((load.getD 0 default).toNat)), o2_0, (load.drop at_0.toNat)⟩ : GMessage) = true then ((⟨(IntKind.i64.wrap ((load.getD 0 default).toNat)), o2_0, (load.drop at_0.toNat)⟩ : GMessage), 0) else ((⟨0, [], []⟩ : GMessage), 2))
theorem decM_ok (load : List UInt8) (load_f : Bool) : Ok Tryd.prog 15 [.pv (.slc load.length load_f (encY load))] [] (.tup [.agg [I (decM load).1.Do, .ref 0 1 0 (decM load).1.L.length, .pv (.str (decM load).1.Text)], I (decM load).2]) [.row 3 1 (encI (decM load).1.L)] [] := by
 refine Ok.len fun hlen => ?_
 have hl_load : load.length ≤ maxLen := hlen _ (by simp [lensL, lens, lensP])
 unfold maxLen at hl_load
 refine ok_of_sem Tryd.func15 rfl ?_
 show Walks Tryd.prog _ _ ⟨[(0, .pv (.slc load.length load_f (encY load)))], [], 0, [], 57, 0⟩
 refine sem_seq (sem_region rfl (step_n (o := .box [_, _, _]) (nx' := 1) rfl rfl rfl trivial (step_r rfl rfl trivial (step_nil (seqK_n (sem_seq (sem_seq (sem_region rfl (step_r rfl rfl trivial (step_r rfl rfl trivial (step_bin rfl rfl rfl rfl rfl trivial ?_)))))))))))
 refine step_nil (seqK_n ?_)
 refine sem_cond rfl (fun h1 => ?_) (fun h1 => ?_)
 ·have g1 : (load.length : Int) = 0 := beq_t h1
  refine sem_seq (sem_region rfl (step_r (v := (.agg [_, _, _])) rfl rfl trivial ?_))
  refine step_storeB (H' := [(0, .box [_, _, _])]) rfl rfl rfl rfl rfl rfl (.inl rfl) rfl ?_
  refine step_r rfl rfl trivial (step_nil (seqK_n ?_))
  refine sem_trans (Trans.virt (T' := [(2, .ptr 0 0), (3, I 2)]) (H' := [(0, .box [I 0, .ref 1 1 0 0, .pv (.str [])])]) 3 1 rfl ⟨⟨rfl, rfl⟩, ⟨rfl, rfl⟩, trivial⟩ ⟨⟨rfl, rfl⟩, trivial⟩) ?_
  refine sem_ret (seqK_r ?_)
  have e2 : decM load = ((⟨0, [], []⟩ : GMessage), 2) := by
   unfold decM
   try dsimp only
   rewrite [if_pos g1]
   all_goals rfl
  rw [e2]
  exact answersGR [] [1] rfl ⟨Nat.le_of_ble_eq_true rfl, trivial, trivial⟩ rfl (by (repeat' apply And.intro) <;> first | trivial | rfl | exact flat_len (fun _ => rfl) _ | exact encI_len _ | exact encB_len _ | exact encY_len _ | assumption) (rfl) rfl rfl rfl (by decide) rfl rfl ⟨⟨rfl, rfl⟩, trivial⟩
 ·have g1 : ¬ ((load.length : Int) = 0) := beq_f h1
  refine sem_skip (seqK_n (sem_seq (sem_region rfl (step_r rfl rfl trivial ?_))))
  have jk3 : 0 < load.length := by first | assumption | omega | (simp only [List.length_set, List.length_append]; omega) | (simp only [IntKind.wrap_i64] at *; omega) | (simp; omega) | simp_all
  refine step_idxS (k := 0) rfl rfl rfl rfl jk3 (encY_ne jk3) rfl (step_load_one rfl rfl rfl (encY_get (get_getD jk3)) rfl (step_r rfl rfl trivial (step_r (v := (.agg [_, _, _])) rfl rfl trivial (step_n (o := .box [_, _, _]) (nx' := 2) rfl rfl rfl trivial ?_))))
  refine step_storeB (H' := [(1, .box [_, _, _]), (0, _)]) rfl rfl rfl rfl rfl rfl (.inl rfl) rfl ?_
  refine step_nil (seqK_n (sem_seq ?_))
  refine sem_regionS rfl (opsS_cut 7 (j := 0) ?_)
  simp only [List.take_succ_cons, List.take_zero, List.drop_succ_cons, List.drop_zero]
  refine step_r rfl rfl (by decide) (step_r rfl rfl trivial (step_call rfl rfl rfl rfl (sizeM_ok (IntKind.i64.wrap ((load.getD 0 default).toNat))) rfl rfl rfl (step_r rfl rfl trivial (step_r rfl rfl trivial (step_r rfl rfl trivial (step_r rfl rfl trivial (step_nil ?_)))))))
  refine opsS_trans (Trans.virt (T' := [(0, .pv (.slc load.length load_f (encY load))), (2, .ptr 0 0), (3, I 0), (4, .ptr 1 0), (5, I (sizeM (IntKind.i64.wrap ((load.getD 0 default).toNat))).1), (11, .pv (.slc load.length load_f (encY load))), (12, I load.length), (13, B ((load.length : Int) == 0)), (15, .pv (.slc load.length load_f (encY load))), (17, .pv (.int .u8 (load.getD 0 default).toNat)), (18, I (IntKind.i64.wrap ((load.getD 0 default).toNat))), (19, .agg [I (IntKind.i64.wrap ((load.getD 0 default).toNat)), .pv (.slc 0 true []), .pv (.str [])]), (22, I (IntKind.i64.wrap ((load.getD 0 default).toNat))), (24, I (sizeM (IntKind.i64.wrap ((load.getD 0 default).toNat))).1), (25, B (sizeM (IntKind.i64.wrap ((load.getD 0 default).toNat))).2)]) (H' := [(1, .box [I (IntKind.i64.wrap ((load.getD 0 default).toNat)), .ref 2 1 0 0, .pv (.str [])]), (0, .box [I 0, .pv (.slc 0 true []), .pv (.str [])])]) 3 1 rfl ⟨⟨rfl, rfl⟩, ⟨rfl, rfl⟩, ⟨rfl, rfl⟩, ⟨rfl, rfl⟩, ⟨rfl, rfl⟩, ⟨rfl, rfl⟩, ⟨rfl, rfl⟩, ⟨rfl, rfl⟩, ⟨rfl, rfl⟩, ⟨rfl, rfl⟩, ⟨rfl, rfl⟩, ⟨rfl, rfl⟩, ⟨rfl, rfl⟩, ⟨rfl, rfl⟩, ⟨rfl, rfl⟩, trivial⟩ ⟨⟨rfl, rfl⟩, ⟨rfl, rfl⟩, trivial⟩) ?_
  refine opsS_of (j := 7) ?_
  refine step_r rfl rfl trivial (step_nil (seqK_n (sem_seq (sem_region rfl (step_r rfl rfl trivial (step_nil (seqK_n (sem_seq (sem_seq (sem_region rfl (step_r rfl rfl trivial ?_)))))))))))
  refine step_r rfl rfl trivial (step_nil (seqK_n ?_))
  refine sem_cutW (fun w_ : (List Int) × Int => match w_ with | (o2_0, at_0) => (⟨[(0, .pv (.slc load.length load_f (encY load))), (2, .ptr 0 0), (4, .ptr 1 0), (7, I at_0)], [(0, .box [I 0, .pv (.slc 0 true []), .pv (.str [])]), (1, .box [I (IntKind.i64.wrap ((load.getD 0 default).toNat)), .ref 2 1 0 o2_0.length, .pv (.str [])]), (2, .row 3 1 (encI o2_0))], 3, [], 57, 0⟩ : St)) (fun w_ : (List Int) × Int => match w_ with | (o2_0, at_0) => decM_L0 load (((sizeM (IntKind.i64.wrap ((load.getD 0 default).toNat))).1.toNat) - 0) 0 ([]) 1 = .inr (o2_0, at_0) ∧ (o2_0.length ≤ 10 ∧ 0 ≤ at_0 ∧ at_0 ≤ load.length)) ?_ ?_
  ·refine sem_block ?_
   refine sem_loopT (fun w_ : Nat × (List Int) × Int => match w_ with | (k0, o20, at0) => (⟨[(0, .pv (.slc load.length load_f (encY load))), (2, .ptr 0 0), (4, .ptr 1 0), (7, I at0), (26, I (sizeM (IntKind.i64.wrap ((load.getD 0 default).toNat))).1), (27, I k0)], [(0, .box [I 0, .pv (.slc 0 true []), .pv (.str [])]), (1, .box [I (IntKind.i64.wrap ((load.getD 0 default).toNat)), .ref 2 1 0 o20.length, .pv (.str [])]), (2, .row 3 1 (encI o20))], 3, [], 57, 0⟩ : St)) (fun w_ : Nat × (List Int) × Int => match w_ with | (k0, o20, at0) => decM_L0 load (((sizeM (IntKind.i64.wrap ((load.getD 0 default).toNat))).1.toNat) - k0) k0 o20 at0 = decM_L0 load (((sizeM (IntKind.i64.wrap ((load.getD 0 default).toNat))).1.toNat) - 0) 0 ([]) 1 ∧ k0 ≤ (sizeM (IntKind.i64.wrap ((load.getD 0 default).toNat))).1.toNat ∧ o20.length = k0 ∧ 0 ≤ at0 ∧ at0 ≤ load.length) (fun w_ : Nat × (List Int) × Int => match w_ with | (k0, o20, at0) => (sizeM (IntKind.i64.wrap ((load.getD 0 default).toNat))).1.toNat - k0) (0, [], 1) (⟨rfl, (by first | omega | (simp; omega)), ⟨rfl, by omega, by omega⟩⟩) ?_ (fun w_ hh_ => ?_)
   ·exact (Trans.ren [] (by decide +kernel) (by decide +kernel) rfl ⟨⟨rfl, rfl⟩, ⟨rfl, rfl⟩, ⟨rfl, rfl⟩, ⟨rfl, rfl⟩, ⟨rfl, rfl⟩, ⟨rfl, rfl⟩, trivial⟩ ⟨⟨rfl, rfl, rfl⟩, ⟨rfl, rfl, rfl⟩, ⟨rfl, rfl, rfl⟩, trivial⟩ (by decide))
   obtain ⟨k0, o20, at0⟩ := w_
   obtain ⟨hI0, hb0, hv0⟩ := hh_
   show Walks Tryd.prog _ _ (⟨[(0, .pv (.slc load.length load_f (encY load))), (2, .ptr 0 0), (4, .ptr 1 0), (7, I at0), (26, I (sizeM (IntKind.i64.wrap ((load.getD 0 default).toNat))).1), (27, I k0)], [(0, .box [I 0, .pv (.slc 0 true []), .pv (.str [])]), (1, .box [I (IntKind.i64.wrap ((load.getD 0 default).toNat)), .ref 2 1 0 o20.length, .pv (.str [])]), (2, .row 3 1 (encI o20))], 3, [], 57, 0⟩ : St)
   have hz := sizeM_le (IntKind.i64.wrap ((load.getD 0 default).toNat))
   refine sem_seq (sem_region rfl (step_bin rfl rfl rfl rfl rfl trivial (step_nil (seqK_n (sem_seq ?_)))))
   refine sem_cond rfl (fun h7 => ?_) (fun h7 => ?_)
   ·have g7 : (k0 : Int) < ((sizeM (IntKind.i64.wrap ((load.getD 0 default).toNat))).1) := of_decide_eq_true h7
    have hm0 : (sizeM (IntKind.i64.wrap ((load.getD 0 default).toNat))).1.toNat - k0 = ((sizeM (IntKind.i64.wrap ((load.getD 0 default).toNat))).1.toNat - (k0 + 1)) + 1 := by omega
    refine sem_skip (seqK_n (sem_seq (sem_block (sem_seq (sem_region rfl (step_r rfl rfl trivial (step_r rfl rfl trivial (step_call rfl rfl rfl rfl (readI_ok load load_f at0) rfl rfl rfl (step_r rfl rfl trivial (step_r rfl rfl trivial (step_r rfl rfl trivial ?_)))))))))))
    refine step_r rfl rfl trivial (step_r rfl rfl trivial (step_r rfl rfl trivial (step_r rfl rfl trivial (step_nil (seqK_n (sem_seq (sem_seq (sem_region rfl (step_r rfl rfl trivial (step_bin rfl rfl rfl rfl rfl trivial (step_nil ?_)))))))))))
    refine seqK_n ?_
    refine sem_cond rfl (fun h12 => ?_) (fun h12 => ?_)
    ·have g12 : ¬ (((readI load at0).2.2 : Int) = 0) := bne_t h12
     refine sem_seq (sem_region rfl (step_r (v := (.agg [_, _, _])) rfl rfl trivial ?_))
     refine step_storeB (H' := [(0, .box [_, _, _]), (1, _), (2, _)]) rfl rfl rfl rfl rfl rfl (.inl rfl) rfl ?_
     refine step_r rfl rfl trivial (step_nil (seqK_n ?_))
     refine sem_trans (Trans.virt (T' := [(2, .ptr 0 0), (3, I 2)]) (H' := [(0, .box [I 0, .ref 3 1 0 0, .pv (.str [])])]) 3 1 rfl ⟨⟨rfl, rfl⟩, ⟨rfl, rfl⟩, trivial⟩ ⟨⟨rfl, rfl⟩, trivial⟩) ?_
     refine sem_ret (seqK_r (blkK_r (seqK_r (lupK_r (blkK_r (cutW_r (seqK_r ?_)))))))
     have e13 : decM_L0 load (((sizeM (IntKind.i64.wrap ((load.getD 0 default).toNat))).1.toNat) - 0) 0 ([]) 1 = .inl ((⟨0, [], []⟩ : GMessage), 2) := by
      rewrite [← hI0, hm0]
      rewrite [decM_L0]
      try dsimp only
      rewrite [if_neg g12]
      all_goals rfl
     have e14 : decM load = ((⟨0, [], []⟩ : GMessage), 2) := by
      unfold decM
      try dsimp only
      rewrite [if_neg g1, e13]
      try dsimp only
      all_goals rfl
     rw [e14]
     exact answersGR [] [3] rfl ⟨Nat.le_of_ble_eq_true rfl, trivial, trivial⟩ rfl (by (repeat' apply And.intro) <;> first | trivial | rfl | exact flat_len (fun _ => rfl) _ | exact encI_len _ | exact encB_len _ | exact encY_len _ | assumption) (rfl) rfl rfl rfl (by decide) rfl rfl ⟨⟨rfl, rfl⟩, trivial⟩
    ·have g12 : ((readI load at0).2.2 : Int) = 0 := bne_f h12
     refine sem_skip (seqK_n (sem_region rfl (step_r rfl rfl (by decide) (step_r rfl rfl trivial (step_r rfl rfl trivial (step_n (o := .row _ _ [_]) (nx' := 4) rfl rfl rfl (by decide) ?_))))))
     refine step_appendC (m := 1) (new := [_]) (cs' := encI (o20 ++ [(readI load at0).1])) (n' := (o20 ++ [(readI load at0).1]).length) (H' := [(3, .row _ _ _), (0, .box [_, _, _]), (1, .box [_, _, _]), (2, .row _ _ _)]) rfl rfl rfl (rfl) rfl rfl rfl rfl rfl rfl (encI_len o20) (rfl) (by first | decide | (unfold maxGrow; omega) | (unfold maxGrow; simp; omega) | (unfold maxGrow; simp only [List.length_append, List.length_take, List.length_drop, List.length_cons, List.length_nil, IntKind.wrap_i64] at *; omega)) (len_snoc o20 _) (((encI_snoc o20 ((readI load at0).1))).symm) (.inl rfl) rfl rfl (.keep rfl (.keep rfl (.lose rfl (.keep rfl .nil)))) (.keep rfl (.keep rfl (.lose (v' := .undef) rfl (.keep rfl (.keep rfl (.keep rfl (.keep rfl (.keep rfl (.keep rfl (.keep rfl (.keep rfl (.keep rfl (.keep rfl (.keep rfl (.keep rfl (.keep rfl (.keep rfl (.keep rfl (.keep rfl (.keep rfl (.keep rfl (.keep rfl (.keep rfl .nil))))))))))))))))))))))) ?_
     refine step_r rfl rfl trivial (step_r rfl rfl (by decide) ?_)
     refine step_storeB (H' := [(3, _), (0, _), (1, .box [_, _, _]), (2, _)]) rfl rfl rfl rfl rfl rfl (.inl rfl) rfl ?_
     refine step_r rfl rfl trivial (step_nil (blkK_n (seqK_n (sem_region rfl (step_bin rfl rfl rfl rfl rfl trivial (step_r rfl rfl trivial (step_nil ?_)))))))
     have e16 : decM_L0 load (((sizeM (IntKind.i64.wrap ((load.getD 0 default).toNat))).1.toNat) - k0) k0 o20 at0 = decM_L0 load (((sizeM (IntKind.i64.wrap ((load.getD 0 default).toNat))).1.toNat) - (k0 + 1)) (k0 + 1) (o20 ++ [(readI load at0).1]) ((readI load at0).2.1) := by
      rewrite [hm0]
      rewrite [decM_L0]
      try dsimp only
      rewrite [if_pos g12]
      all_goals rfl
     have hr := readI_range (b := load) (by omega) (a := at0) (by omega) (by omega)
     exact lup_againT (k0 + 1, (o20 ++ [(readI load at0).1]), (readI load at0).2.1) ⟨e16.symm.trans hI0, (by omega), ⟨by simp only [List.length_append, List.length_cons, List.length_nil]; omega, hr.1, hr.2⟩⟩ (by show (sizeM (IntKind.i64.wrap ((load.getD 0 default).toNat))).1.toNat - (k0 + 1) < (sizeM (IntKind.i64.wrap ((load.getD 0 default).toNat))).1.toNat - k0; omega) (Trans.ren [] (by decide +kernel) (by decide +kernel) rfl ⟨⟨rfl, rfl⟩, ⟨rfl, rfl⟩, ⟨rfl, rfl⟩, ⟨rfl, rfl⟩, ⟨rfl, rfl⟩, ⟨congrArg (fun n => some (I n)) (wrapI (k := k0) (by first | omega | (simp; omega))), rfl⟩, trivial⟩ ⟨⟨rfl, rfl, rfl⟩, ⟨rfl, rfl, rfl⟩, ⟨rfl, rfl, rfl⟩, trivial⟩ (by decide))
   ·have g7 : ¬ ((k0 : Int) < ((sizeM (IntKind.i64.wrap ((load.getD 0 default).toNat))).1)) := of_decide_eq_false h7
    have hm0 : (sizeM (IntKind.i64.wrap ((load.getD 0 default).toNat))).1.toNat - k0 = 0 := by omega
    refine sem_exit (seqK_e (lupK_e (blkK_t rfl ?_)))
    have e17 : decM_L0 load (((sizeM (IntKind.i64.wrap ((load.getD 0 default).toNat))).1.toNat) - 0) 0 ([]) 1 = .inr (o20, at0) := by
     rewrite [← hI0, hm0]
     rewrite [decM_L0]
     try dsimp only
     all_goals rfl
    exact cutW_n (o20, at0) ⟨e17, by first | assumption | omega | (simp; omega) | simp_all | grind⟩ (Trans.ren [] (by decide +kernel) (by decide +kernel) rfl ⟨⟨rfl, rfl⟩, ⟨rfl, rfl⟩, ⟨rfl, rfl⟩, ⟨rfl, rfl⟩, trivial⟩ ⟨⟨rfl, rfl, rfl⟩, ⟨rfl, rfl, rfl⟩, ⟨rfl, rfl, rfl⟩, trivial⟩ (by decide))
  ·rintro ⟨o2_0, at_0⟩ ⟨(hJ6 : decM_L0 load (((sizeM (IntKind.i64.wrap ((load.getD 0 default).toNat))).1.toNat) - 0) 0 ([]) 1 = .inr (o2_0, at_0)), hE0⟩
   show seqK _ _ _ .normal (⟨[(0, .pv (.slc load.length load_f (encY load))), (2, .ptr 0 0), (4, .ptr 1 0), (7, I at_0)], [(0, .box [I 0, .pv (.slc 0 true []), .pv (.str [])]), (1, .box [I (IntKind.i64.wrap ((load.getD 0 default).toNat)), .ref 2 1 0 o2_0.length, .pv (.str [])]), (2, .row 3 1 (encI o2_0))], 3, [], 57, 0⟩ : St)
   refine seqK_n (sem_seq (sem_region rfl (step_r rfl rfl trivial (step_r rfl rfl trivial ?_))))
   refine step_slcFrom (k := at_0.toNat) (n' := (load.drop at_0.toNat).length) (cs' := encY (load.drop at_0.toNat)) rfl rfl (Int.toNat_of_nonneg (by first | omega | (simp only [IntKind.wrap_i64]; omega))).symm rfl rfl (by first | omega | (simp only [IntKind.wrap_i64]; omega) | (simp; omega)) (List.length_drop ..).symm (encY_from load at_0.toNat) rfl ?_
   refine step_cstr (l := (load.drop at_0.toNat)) rfl rfl rfl rfl rfl ?_
   refine step_r rfl rfl (by decide) ?_
   refine step_storeB (H' := [(0, _), (1, .box [_, _, _]), (2, _)]) rfl rfl rfl rfl rfl rfl (.inl rfl) rfl ?_
   refine step_nil (seqK_n (sem_seq (sem_seq (sem_region rfl (step_r (v := (.agg [_, _, _])) rfl rfl (Nat.le_of_ble_eq_true rfl) ?_)))))
   refine step_callJ (Hin := [.row _ _ _]) (H' := [(0, _), (1, _), (2, _)]) (nx' := 3) [2] rfl rfl rfl rfl rfl rfl rfl rfl rfl (by (repeat' apply And.intro) <;> first | trivial | rfl | exact flat_len (fun _ => rfl) _ | exact encI_len _ | exact encB_len _ | exact encY_len _ | exact Nat.le_of_ble_eq_true rfl | assumption) (rightM_ok (⟨(IntKind.i64.wrap ((load.getD 0 default).toNat)), o2_0, (load.drop at_0.toNat)⟩ : GMessage)) rfl (by decide) rfl rfl trivial rfl rfl rfl rfl ?_
   refine step_r rfl rfl trivial (step_nil (seqK_n ?_))
   refine sem_cond rfl (fun h19 => ?_) (fun h19 => ?_)
   ·have g19 : ¬ (rightM (⟨(IntKind.i64.wrap ((load.getD 0 default).toNat)), o2_0, (load.drop at_0.toNat)⟩ : GMessage) = true) := boo_f (not_t h19)
    refine sem_seq (sem_region rfl (step_r (v := (.agg [_, _, _])) rfl rfl trivial ?_))
    refine step_storeB (H' := [(0, .box [_, _, _]), (1, _), (2, _)]) rfl rfl rfl rfl rfl rfl (.inl rfl) rfl ?_
    refine step_r rfl rfl trivial (step_nil (seqK_n ?_))
    refine sem_trans (Trans.virt (T' := [(2, .ptr 0 0), (3, I 2)]) (H' := [(0, .box [I 0, .ref 3 1 0 0, .pv (.str [])])]) 3 1 rfl ⟨⟨rfl, rfl⟩, ⟨rfl, rfl⟩, trivial⟩ ⟨⟨rfl, rfl⟩, trivial⟩) ?_
    refine sem_ret (seqK_r ?_)
    have e20 : decM load = ((⟨0, [], []⟩ : GMessage), 2) := by
     unfold decM
     try dsimp only
     rewrite [if_neg g1, hJ6]
     try dsimp only
     rewrite [if_neg g19]
     all_goals rfl
    rw [e20]
    exact answersGR [] [3] rfl ⟨Nat.le_of_ble_eq_true rfl, trivial, trivial⟩ rfl (by (repeat' apply And.intro) <;> first | trivial | rfl | exact flat_len (fun _ => rfl) _ | exact encI_len _ | exact encB_len _ | exact encY_len _ | assumption) (rfl) rfl rfl rfl (by decide) rfl rfl ⟨⟨rfl, rfl⟩, trivial⟩
   ·have g19 : rightM (⟨(IntKind.i64.wrap ((load.getD 0 default).toNat)), o2_0, (load.drop at_0.toNat)⟩ : GMessage) = true := (not_f h19)
    have qg19 := rightM_len g19
    refine sem_skip (seqK_n (sem_seq (sem_region rfl (step_r (v := (.agg [_, _, _])) rfl rfl (Nat.le_of_ble_eq_true rfl) ?_))))
    refine step_storeB (H' := [(0, .box [_, _, _]), (1, _), (2, _)]) rfl rfl rfl rfl rfl rfl (.inl rfl) rfl ?_
    refine step_r rfl rfl trivial (step_nil (seqK_n (sem_ret ?_)))
    have e21 : decM load = ((⟨(IntKind.i64.wrap ((load.getD 0 default).toNat)), o2_0, (load.drop at_0.toNat)⟩ : GMessage), 0) := by
     unfold decM
     try dsimp only
     rewrite [if_neg g1, hJ6]
     try dsimp only
     rewrite [if_pos g19]
     all_goals rfl
    rw [e21]
    exact answersGR [] [2] rfl ⟨Nat.le_of_ble_eq_true rfl, trivial, trivial⟩ rfl (by (repeat' apply And.intro) <;> first | trivial | rfl | exact flat_len (fun _ => rfl) _ | exact encI_len _ | exact encB_len _ | exact encY_len _ | assumption) (rfl) rfl rfl rfl (by decide) rfl rfl ⟨⟨rfl, rfl⟩, trivial⟩

theorem decM_L0_inl (load : List UInt8) : ∀ (n k : Nat) (o : List Int) (a : Int) (r : GMessage × Int), decM_L0 load n k o a = .inl r → r = (⟨0, [], []⟩, 2)
  | 0, k, o, a, r, h => by rw [decM_L0] at h; cases h
  | n + 1, k, o, a, r, h => by
    rw [decM_L0] at h
    split at h
    · exact decM_L0_inl load n _ _ _ r h
    · cases h; rfl
theorem decM_len (load : List UInt8) : (decM load).1.L.length ≤ 10 := by
  unfold decM
  split
  · exact Nat.zero_le _
  · split
    · rename_i r hr
      rw [decM_L0_inl _ _ _ _ _ _ hr]; exact Nat.zero_le _
    · split
      · rename_i h; exact (rightM_len h).1
      · exact Nat.zero_le _

end Go.Proofs.YtbfmonajbfljmaaDoor

import Derived.Test.YtnboadipofkcjaaDoorNamesp
namespace Go.Proofs.YtnboadipofkcjaaDoor
open Go Go.RowKit Go.Proofs.YtnboadipofkcjaaDoorVm
attribute [local irreducible] opsWp AnswersE OpsS
set_option maxHeartbeats 400000
set_option maxRecDepth 100000
set_option linter.all false
theorem fidx_lt {α : Type} (p : α → Bool) (l : List α) : -1 ≤ fidx p l ∧ fidx p l < l.length := by
  rcases fidx_cases p l with ⟨h, _⟩ | ⟨k, x, h, h2, _⟩
  · rw [h]; omega
  · rw [h]; have := (List.getElem?_eq_some_iff.1 h2).1; omega
theorem mid_is {i j : Int} (h0 : 0 ≤ i) (h1 : i < j) (h2 : j ≤ 4611686018427387904) : IntKind.i64.wrap (shrK IntKind.u64 (IntKind.u64.wrap (IntKind.i64.wrap (i + j))) 1) = (i + j) / 2 := by
  have e1 : IntKind.i64.wrap (i + j) = i + j := by rw [IntKind.wrap_i64]; omega
  have e2 : IntKind.u64.wrap (i + j) = i + j := by
    have : IntKind.u64.wrap (i + j) = (i + j) % 18446744073709551616 := by simp [IntKind.wrap, IntKind.bits, IntKind.signed]
    rw [this]; omega
  have e3 : shrK IntKind.u64 (i + j) 1 = (i + j) / 2 := by
    unfold shrK
    show (i + j).fdiv 2 = (i + j) / 2
    rw [Int.fdiv_eq_ediv_of_nonneg _ (by omega)]
  rw [e1, e2, e3, IntKind.wrap_i64]; omega

def nanS (x_ : List UInt8) : Bool :=
  (!(x_ == x_))
theorem nanS_ok (x_ : List UInt8) : Ok Tryd.prog 58 [.pv (.str x_)] [] (B (nanS x_)) [] [] := by
 refine ok_of_sem Tryd.func58 rfl ?_
 show Walks Tryd.prog _ _ ⟨[(0, .pv (.str x_))], [], 0, [], 6, 0⟩
 refine sem_seq (sem_region rfl (step_r rfl rfl trivial (step_nil (seqK_n (sem_seq (sem_region rfl (step_r rfl rfl trivial (step_r rfl rfl trivial (step_bin rfl rfl rfl rfl rfl trivial (step_r rfl rfl trivial (step_nil ?_)))))))))))
 refine seqK_n (sem_ret ?_)
 have e3 : nanS x_ = (!(x_ == x_)) := by
  unfold nanS
  try dsimp only
  all_goals rfl
 rw [e3]
 exact answersR rfl ⟨trivial, trivial⟩ (rfl) rfl

def nanI (x_ : Int) : Bool :=
  ((x_ : Int) != x_)
theorem nanI_ok (x_ : Int) : Ok Tryd.prog 59 [I x_] [] (B (nanI x_)) [] [] := by
 refine ok_of_sem Tryd.func59 rfl ?_
 show Walks Tryd.prog _ _ ⟨[(0, I x_)], [], 0, [], 6, 0⟩
 refine sem_seq (sem_region rfl (step_r rfl rfl trivial (step_nil (seqK_n (sem_seq (sem_region rfl (step_r rfl rfl trivial (step_r rfl rfl trivial (step_bin rfl rfl rfl rfl rfl trivial (step_r rfl rfl trivial (step_nil ?_)))))))))))
 refine seqK_n (sem_ret ?_)
 have e3 : nanI x_ = ((x_ : Int) != x_) := by
  unfold nanI
  try dsimp only
  all_goals rfl
 rw [e3]
 exact answersR rfl ⟨trivial, trivial⟩ (rfl) rfl

def cmpS (x_ : List UInt8) (y_ : List UInt8) : Int :=
  if nanS x_ = true then (if nanS y_ = true then 0 else (-1)) else if nanS y_ = true then 1 else if Op.bytesLess x_ y_ = true then (-1) else if (Op.bytesLess x_ y_ || x_ == y_) = true then 0 else 1
theorem cmpS_ok (x_ : List UInt8) (y_ : List UInt8) : Ok Tryd.prog 46 [.pv (.str x_), .pv (.str y_)] [] (I (cmpS x_ y_)) [] [] := by
 refine ok_of_sem Tryd.func46 rfl ?_
 show Walks Tryd.prog _ _ ⟨[(0, .pv (.str x_)), (1, .pv (.str y_))], [], 0, [], 20, 0⟩
 refine sem_seq (sem_region rfl (step_r rfl rfl trivial (step_nil (seqK_n (sem_seq (sem_region rfl (step_r rfl rfl trivial (step_call rfl rfl rfl rfl (nanS_ok x_) rfl rfl rfl (step_r rfl rfl trivial (step_nil (seqK_n ?_)))))))))))
 refine sem_seq (sem_region rfl (step_r rfl rfl trivial (step_call rfl rfl rfl rfl (nanS_ok y_) rfl rfl rfl (step_r rfl rfl trivial (step_nil (seqK_n (sem_seq (sem_seq (sem_region rfl (step_r rfl rfl trivial (step_nil ?_)))))))))))
 refine seqK_n ?_
 refine sem_cond rfl (fun h5 => ?_) (fun h5 => ?_)
 ·have g5 : nanS x_ = true := h5
  refine sem_seq (sem_seq (sem_region rfl (step_r rfl rfl trivial (step_nil (seqK_n ?_)))))
  refine sem_cond rfl (fun h6 => ?_) (fun h6 => ?_)
  ·have g6 : nanS y_ = true := h6
   refine sem_seq (sem_region rfl (step_r rfl rfl trivial (step_nil (seqK_n (sem_ret (seqK_r (seqK_r ?_)))))))
   have e7 : cmpS x_ y_ = 0 := by
    unfold cmpS
    try dsimp only
    rewrite [if_pos g5, if_pos g6]
    all_goals rfl
   rw [e7]
   exact answersR rfl ⟨trivial, trivial⟩ (rfl) rfl
  ·have g6 : ¬ (nanS y_ = true) := boo_f h6
   refine sem_skip (seqK_n (sem_seq (sem_region rfl (step_r rfl rfl trivial (step_nil (seqK_n (sem_ret (seqK_r ?_))))))))
   have e8 : cmpS x_ y_ = (-1) := by
    unfold cmpS
    try dsimp only
    rewrite [if_pos g5, if_neg g6]
    all_goals rfl
   rw [e8]
   exact answersR rfl ⟨trivial, trivial⟩ (rfl) rfl
 ·have g5 : ¬ (nanS x_ = true) := boo_f h5
  refine sem_skip (seqK_n (sem_seq (sem_seq (sem_region rfl (step_r rfl rfl trivial (step_nil (seqK_n ?_)))))))
  refine sem_cond rfl (fun h9 => ?_) (fun h9 => ?_)
  ·have g9 : nanS y_ = true := h9
   refine sem_seq (sem_region rfl (step_r rfl rfl trivial (step_nil (seqK_n (sem_ret (seqK_r ?_))))))
   have e10 : cmpS x_ y_ = 1 := by
    unfold cmpS
    try dsimp only
    rewrite [if_neg g5, if_pos g9]
    all_goals rfl
   rw [e10]
   exact answersR rfl ⟨trivial, trivial⟩ (rfl) rfl
  ·have g9 : ¬ (nanS y_ = true) := boo_f h9
   refine sem_skip (seqK_n (sem_seq (sem_seq (sem_region rfl (step_r rfl rfl trivial (step_r rfl rfl trivial (step_bin rfl rfl rfl rfl rfl trivial (step_nil (seqK_n ?_)))))))))
   refine sem_cond rfl (fun h11 => ?_) (fun h11 => ?_)
   ·have g11 : Op.bytesLess x_ y_ = true := h11
    refine sem_seq (sem_region rfl (step_r rfl rfl trivial (step_nil (seqK_n (sem_ret (seqK_r ?_))))))
    have e12 : cmpS x_ y_ = (-1) := by
     unfold cmpS
     try dsimp only
     rewrite [if_neg g5, if_neg g9, if_pos g11]
     all_goals rfl
    rw [e12]
    exact answersR rfl ⟨trivial, trivial⟩ (rfl) rfl
   ·have g11 : ¬ (Op.bytesLess x_ y_ = true) := boo_f h11
    refine sem_skip (seqK_n (sem_seq (sem_seq (sem_region rfl (step_r rfl rfl trivial (step_r rfl rfl trivial (step_bin rfl rfl rfl rfl rfl trivial (step_nil (seqK_n ?_)))))))))
    refine sem_cond rfl (fun h13 => ?_) (fun h13 => ?_)
    ·have g13 : ¬ ((Op.bytesLess x_ y_ || x_ == y_) = true) := boo_f (not_t h13)
     refine sem_seq (sem_region rfl (step_r rfl rfl trivial (step_nil (seqK_n (sem_ret (seqK_r ?_))))))
     have e14 : cmpS x_ y_ = 1 := by
      unfold cmpS
      try dsimp only
      rewrite [if_neg g5, if_neg g9, if_neg g11, if_neg g13]
      all_goals rfl
     rw [e14]
     exact answersR rfl ⟨trivial, trivial⟩ (rfl) rfl
    ·have g13 : (Op.bytesLess x_ y_ || x_ == y_) = true := (not_f h13)
     refine sem_skip (seqK_n (sem_seq (sem_region rfl (step_r rfl rfl trivial (step_nil (seqK_n (sem_ret ?_)))))))
     have e15 : cmpS x_ y_ = 0 := by
      unfold cmpS
      try dsimp only
      rewrite [if_neg g5, if_neg g9, if_neg g11, if_pos g13]
      all_goals rfl
     rw [e15]
     exact answersR rfl ⟨trivial, trivial⟩ (rfl) rfl

def cmpI (x_ : Int) (y_ : Int) : Int :=
  if nanI x_ = true then (if nanI y_ = true then 0 else (-1)) else if nanI y_ = true then 1 else if (x_ : Int) < y_ then (-1) else if (x_ : Int) > y_ then 1 else 0
theorem cmpI_ok (x_ : Int) (y_ : Int) : Ok Tryd.prog 47 [I x_, I y_] [] (I (cmpI x_ y_)) [] [] := by
 refine ok_of_sem Tryd.func47 rfl ?_
 show Walks Tryd.prog _ _ ⟨[(0, I x_), (1, I y_)], [], 0, [], 20, 0⟩
 refine sem_seq (sem_region rfl (step_r rfl rfl trivial (step_nil (seqK_n (sem_seq (sem_region rfl (step_r rfl rfl trivial (step_call rfl rfl rfl rfl (nanI_ok x_) rfl rfl rfl (step_r rfl rfl trivial (step_nil (seqK_n ?_)))))))))))
 refine sem_seq (sem_region rfl (step_r rfl rfl trivial (step_call rfl rfl rfl rfl (nanI_ok y_) rfl rfl rfl (step_r rfl rfl trivial (step_nil (seqK_n (sem_seq (sem_seq (sem_region rfl (step_r rfl rfl trivial (step_nil ?_)))))))))))
 refine seqK_n ?_
 refine sem_cond rfl (fun h5 => ?_) (fun h5 => ?_)
 ·have g5 : nanI x_ = true := h5
  refine sem_seq (sem_seq (sem_region rfl (step_r rfl rfl trivial (step_nil (seqK_n ?_)))))
  refine sem_cond rfl (fun h6 => ?_) (fun h6 => ?_)
  ·have g6 : nanI y_ = true := h6
   refine sem_seq (sem_region rfl (step_r rfl rfl trivial (step_nil (seqK_n (sem_ret (seqK_r (seqK_r ?_)))))))
   have e7 : cmpI x_ y_ = 0 := by
    unfold cmpI
    try dsimp only
    rewrite [if_pos g5, if_pos g6]
    all_goals rfl
   rw [e7]
   exact answersR rfl ⟨trivial, trivial⟩ (rfl) rfl
  ·have g6 : ¬ (nanI y_ = true) := boo_f h6
   refine sem_skip (seqK_n (sem_seq (sem_region rfl (step_r rfl rfl trivial (step_nil (seqK_n (sem_ret (seqK_r ?_))))))))
   have e8 : cmpI x_ y_ = (-1) := by
    unfold cmpI
    try dsimp only
    rewrite [if_pos g5, if_neg g6]
    all_goals rfl
   rw [e8]
   exact answersR rfl ⟨trivial, trivial⟩ (rfl) rfl
 ·have g5 : ¬ (nanI x_ = true) := boo_f h5
  refine sem_skip (seqK_n (sem_seq (sem_seq (sem_region rfl (step_r rfl rfl trivial (step_nil (seqK_n ?_)))))))
  refine sem_cond rfl (fun h9 => ?_) (fun h9 => ?_)
  ·have g9 : nanI y_ = true := h9
   refine sem_seq (sem_region rfl (step_r rfl rfl trivial (step_nil (seqK_n (sem_ret (seqK_r ?_))))))
   have e10 : cmpI x_ y_ = 1 := by
    unfold cmpI
    try dsimp only
    rewrite [if_neg g5, if_pos g9]
    all_goals rfl
   rw [e10]
   exact answersR rfl ⟨trivial, trivial⟩ (rfl) rfl
  ·have g9 : ¬ (nanI y_ = true) := boo_f h9
   refine sem_skip (seqK_n (sem_seq (sem_seq (sem_region rfl (step_r rfl rfl trivial (step_r rfl rfl trivial (step_bin rfl rfl rfl rfl rfl trivial (step_nil (seqK_n ?_)))))))))
   refine sem_cond rfl (fun h11 => ?_) (fun h11 => ?_)
   ·have g11 : (x_ : Int) < y_ := of_decide_eq_true h11
    refine sem_seq (sem_region rfl (step_r rfl rfl trivial (step_nil (seqK_n (sem_ret (seqK_r ?_))))))
    have e12 : cmpI x_ y_ = (-1) := by
     unfold cmpI
     try dsimp only
     rewrite [if_neg g5, if_neg g9, if_pos g11]
     all_goals rfl
    rw [e12]
    exact answersR rfl ⟨trivial, trivial⟩ (rfl) rfl
   ·have g11 : ¬ ((x_ : Int) < y_) := of_decide_eq_false h11
    refine sem_skip (seqK_n (sem_seq (sem_seq (sem_region rfl (step_r rfl rfl trivial (step_r rfl rfl trivial (step_bin rfl rfl rfl rfl rfl trivial (step_nil (seqK_n ?_)))))))))
    refine sem_cond rfl (fun h13 => ?_) (fun h13 => ?_)
    ·have g13 : (x_ : Int) > y_ := of_decide_eq_true h13
     refine sem_seq (sem_region rfl (step_r rfl rfl trivial (step_nil (seqK_n (sem_ret (seqK_r ?_))))))
     have e14 : cmpI x_ y_ = 1 := by
      unfold cmpI
      try dsimp only
      rewrite [if_neg g5, if_neg g9, if_neg g11, if_pos g13]
      all_goals rfl
     rw [e14]
     exact answersR rfl ⟨trivial, trivial⟩ (rfl) rfl
    ·have g13 : ¬ ((x_ : Int) > y_) := of_decide_eq_false h13
     refine sem_skip (seqK_n (sem_seq (sem_region rfl (step_r rfl rfl trivial (step_nil (seqK_n (sem_ret ?_)))))))
     have e15 : cmpI x_ y_ = 0 := by
      unfold cmpI
      try dsimp only
      rewrite [if_neg g5, if_neg g9, if_neg g11, if_neg g13]
      all_goals rfl
     rw [e15]
     exact answersR rfl ⟨trivial, trivial⟩ (rfl) rfl

def orI_L0 : List Int → Nat → Sum Int Unit
  | [], k0 => .inr ()
  | x0 :: l_, k0 => if (x0 : Int) = 0 then orI_L0 l_ (k0 + 1) else .inl x0
def orI (vals : List Int) : Int :=
  (match orI_L0 vals 0 with
    | .inl r_ => r_
    | .inr () => 0)
theorem orI_ok (vals : List Int) (vals_f : Bool) : Ok Tryd.prog 45 [.pv (.slc vals.length vals_f (encI vals))] [] (I (orI vals)) [] [] := by
 refine Ok.len fun hlen => ?_
 have hl_vals : vals.length ≤ maxLen := hlen _ (by simp [lensL, lens, lensP])
 unfold maxLen at hl_vals
 refine ok_of_sem Tryd.func45 rfl ?_
 show Walks Tryd.prog _ _ ⟨[(0, .pv (.slc vals.length vals_f (encI vals)))], [], 0, [], 18, 0⟩
 refine sem_seq (sem_region rfl (step_r rfl rfl trivial (step_nil (seqK_n (sem_seq (sem_region rfl (step_r rfl rfl trivial (step_nil (seqK_n (sem_seq (sem_seq ?_)))))))))))
 refine sem_region rfl (step_r rfl rfl trivial (step_r rfl rfl trivial (step_r rfl rfl trivial (step_nil (seqK_n ?_)))))
 refine sem_cutW (fun w_ : Unit => match w_ with | () => (⟨[(3, I 0)], [], 0, [], 18, 0⟩ : St)) (fun w_ => orI_L0 vals 0 = .inr w_) ?_ ?_
 ·refine sem_block ?_
  refine sem_loopT (fun k0 : Nat => (⟨[(3, I 0), (6, .pv (.slc vals.length vals_f (encI vals))), (7, I vals.length), (8, I k0)], [], 0, [], 18, 0⟩ : St)) (fun k0 : Nat => orI_L0 (vals.drop k0) k0 = orI_L0 vals 0 ∧ k0 ≤ vals.length) (fun k0 : Nat => vals.length - k0) 0 (⟨rfl, Nat.zero_le _⟩) ?_ (fun k0 hh_ => ?_)
  ·exact (Trans.ren [] (by decide +kernel) (by decide +kernel) rfl ⟨⟨rfl, rfl⟩, ⟨rfl, rfl⟩, ⟨rfl, rfl⟩, ⟨rfl, rfl⟩, trivial⟩ trivial (by decide))
  obtain ⟨hI0, hb0⟩ := hh_
  show Walks Tryd.prog _ _ (⟨[(3, I 0), (6, .pv (.slc vals.length vals_f (encI vals))), (7, I vals.length), (8, I k0)], [], 0, [], 18, 0⟩ : St)
  refine sem_seq (sem_region rfl (step_bin rfl rfl rfl rfl rfl trivial (step_nil (seqK_n (sem_seq ?_)))))
  refine sem_cond rfl (fun h2 => ?_) (fun h2 => ?_)
  ·have g2 : (k0 : Int) < vals.length := of_decide_eq_true h2
   have hk0 : k0 < vals.length := by omega
   obtain ⟨x0, hx0⟩ : ∃ z_, vals[k0]? = some z_ := ⟨_, List.getElem?_eq_getElem hk0⟩
   refine sem_skip (seqK_n (sem_seq (sem_block (sem_seq (sem_region rfl (step_idxS (k := k0) rfl rfl rfl rfl hk0 (encI_ne hk0) rfl (step_load_one rfl rfl rfl (encI_get hx0) rfl (step_r rfl rfl trivial (step_nil (seqK_n (sem_seq ?_)))))))))))
   refine sem_region rfl (step_r rfl rfl trivial (step_r rfl rfl trivial (step_bin rfl rfl rfl rfl rfl trivial (step_nil (seqK_n ?_)))))
   refine sem_cond rfl (fun h5 => ?_) (fun h5 => ?_)
   ·have g5 : ¬ ((x0 : Int) = 0) := bne_t h5
    refine sem_seq (sem_region rfl (step_r rfl rfl trivial (step_r rfl rfl trivial (step_nil (seqK_n (sem_ret (blkK_r (seqK_r (lupK_r (blkK_r (cutW_r ?_)))))))))))
    refine seqK_r ?_
    have e6 : orI_L0 vals 0 = .inl x0 := by
     rewrite [← hI0, drop_cons hx0]
     rewrite [orI_L0]
     try dsimp only
     rewrite [if_neg g5]
     all_goals rfl
    have e7 : orI vals = x0 := by
     unfold orI
     try dsimp only
     rewrite [e6]
     try dsimp only
     all_goals rfl
    rw [e7]
    exact answersR rfl ⟨trivial, trivial⟩ (rfl) rfl
   ·have g5 : (x0 : Int) = 0 := bne_f h5
    refine sem_skip (blkK_n (seqK_n (sem_region rfl (step_bin rfl rfl rfl rfl rfl trivial (step_r rfl rfl trivial (step_nil ?_))))))
    have e9 : orI_L0 (vals.drop k0) k0 = orI_L0 (vals.drop (k0 + 1)) (k0 + 1) := by
     rewrite [drop_cons hx0]
     rewrite [orI_L0]
     try dsimp only
     rewrite [if_pos g5]
     all_goals rfl
    exact lup_againT (k0 + 1) ⟨e9.symm.trans hI0, hk0⟩ (by show vals.length - (k0 + 1) < vals.length - k0; omega) (Trans.ren [] (by decide +kernel) (by decide +kernel) rfl ⟨⟨rfl, rfl⟩, ⟨rfl, rfl⟩, ⟨rfl, rfl⟩, ⟨congrArg (fun n => some (I n)) (wrapI (k := k0) (by first | omega | (simp; omega))), rfl⟩, trivial⟩ trivial (by decide))
  ·have g2 : ¬ ((k0 : Int) < vals.length) := of_decide_eq_false h2
   have hk0 : k0 = vals.length := by omega
   refine sem_exit (seqK_e (lupK_e (blkK_t rfl ?_)))
   have e10 : orI_L0 vals 0 = .inr () := by
    rewrite [← hI0, hk0, List.drop_length]
    rewrite [orI_L0]
    try dsimp only
    all_goals rfl
   exact cutW_n () e10 (Trans.ren [] (by decide +kernel) (by decide +kernel) rfl ⟨⟨rfl, rfl⟩, trivial⟩ trivial (by decide))
 ·rintro ⟨⟩ (hJ1 : orI_L0 vals 0 = .inr ())
  show seqK _ _ _ .normal (⟨[(3, I 0)], [], 0, [], 18, 0⟩ : St)
  refine seqK_n (sem_seq (sem_region rfl (step_r rfl rfl trivial (step_r rfl rfl trivial (step_nil (seqK_n (sem_ret ?_)))))))
  have e12 : orI vals = 0 := by
   unfold orI
   try dsimp only
   rewrite [hJ1]
   try dsimp only
   all_goals rfl
  rw [e12]
  exact answersR rfl ⟨trivial, trivial⟩ (rfl) rfl

def orderL (a : GLock) (b : GLock) : Int :=
  (orI ([(cmpS a.Name b.Name), (cmpI a.Foe b.Foe)]))
theorem orderL_ok (a : GLock) (b : GLock) : Ok Tryd.prog 31 [aGLock a, aGLock b] [] (I (orderL a b)) [] [] := by
 refine ok_of_sem Tryd.func31 rfl ?_
 show Walks Tryd.prog _ _ ⟨[(0, aGLock a), (1, aGLock b)], [], 0, [], 17, 0⟩
 refine sem_seq (sem_region rfl (step_n (o := .box [_, _, _]) (nx' := 1) rfl rfl rfl trivial (step_n (o := .box [_, _, _]) (nx' := 2) rfl rfl rfl trivial (step_r rfl rfl trivial (step_nil (seqK_n (sem_seq ?_)))))))
 refine sem_drawn rfl (by decide +kernel) rfl ?_
 refine step_r rfl rfl (by decide) (step_r rfl rfl trivial (step_r rfl rfl (by decide) (step_r rfl rfl trivial (step_call rfl rfl rfl rfl (cmpS_ok a.Name b.Name) rfl rfl rfl (step_r rfl rfl (by decide) (step_r rfl rfl trivial (step_r rfl rfl (by decide) (step_r rfl rfl trivial (step_call rfl rfl rfl rfl (cmpI_ok a.Foe b.Foe) rfl rfl rfl (step_n (o := .row _ _ [_, _]) (nx' := 3) rfl rfl rfl (by decide) ?_))))))))))
 refine step_callJ (Hin := [.row _ _ _]) (H' := [(2, _), (1, _), (0, _)]) (nx' := 3) [2] rfl rfl rfl rfl rfl rfl rfl rfl rfl (by (repeat' apply And.intro) <;> first | trivial | rfl | exact flat_len (fun _ => rfl) _ | exact encI_len _ | exact encS_len _ | exact Nat.le_of_ble_eq_true rfl | assumption) (orI_ok ([(cmpS a.Name b.Name), (cmpI a.Foe b.Foe)]) false) rfl (by decide) rfl rfl trivial rfl rfl rfl rfl ?_
 refine step_r rfl rfl trivial (step_nil (seqK_n (sem_ret ?_)))
 have e2 : orderL a b = (orI ([(cmpS a.Name b.Name), (cmpI a.Foe b.Foe)])) := by
  unfold orderL
  try dsimp only
  all_goals rfl
 rw [e2]
 exact answersR rfl ⟨trivial, trivial⟩ (rfl) rfl

def bsL_L0 (x_ : List GLock) (target : GLock) : Nat → Int → Int → Int
  | 0, _, _ => default
  | n_ + 1, i0, j0 => if (i0 : Int) < j0 then (if (orderL (x_.getD (((i0 + j0) / 2).toNat) default) target : Int) < 0 then bsL_L0 x_ target n_ (IntKind.i64.wrap (((i0 + j0) / 2) + 1)) j0 else bsL_L0 x_ target n_ i0 ((i0 + j0) / 2)) else i0
def bsL (x_ : List GLock) (target : GLock) : Int × Bool :=
  (let i_0 := bsL_L0 x_ target (x_.length + 1) 0 x_.length; if (i_0 : Int) < x_.length then (i_0, ((orderL (x_.getD i_0.toNat default) target : Int) == 0)) else (i_0, false))
theorem bsL_ok (x_ : List GLock) (x__f : Bool) (target : GLock) (hlx : x_.length ≤ 16777216) : Ok Tryd.prog 30 [.pv (.slc x_.length x__f (x_.flatMap encGLock)), aGLock target, .fnc 31 []] [] (.tup [I (bsL x_ target).1, B (bsL x_ target).2]) [] [] := by
 refine Ok.len fun hlen => ?_
 have hl_x_ : x_.length ≤ maxLen := hlen _ (by simp [lensL, lens, lensP])
 unfold maxLen at hl_x_
 refine ok_of_sem Tryd.func30 rfl ?_
 show Walks Tryd.prog _ _ ⟨[(0, .pv (.slc x_.length x__f (x_.flatMap encGLock))), (1, aGLock target), (2, .fnc 31 [])], [], 0, [], 49, 0⟩
 refine sem_trans (Trans.loose (T' := [(0, .pv (.slc x_.length x__f (x_.flatMap encGLock))), (1, aGLock target), (2, .pv (.fn 31))]) (H' := []) ⟨⟨_, rfl, .inl rfl⟩, ⟨_, rfl, .inl rfl⟩, ⟨_, rfl, .inr rfl⟩, trivial⟩ trivial) ?_
 refine sem_seq (sem_region rfl (step_n (o := .box [_, _, _]) (nx' := 1) rfl rfl rfl trivial (step_r rfl rfl trivial (step_r rfl rfl trivial (step_nil (seqK_n (sem_seq (sem_region rfl (step_r rfl rfl trivial (step_r rfl rfl trivial (step_r rfl rfl trivial ?_)))))))))))
 refine step_nil (seqK_n (sem_seq (sem_region rfl (step_r rfl rfl trivial (step_r rfl rfl trivial (step_r rfl rfl trivial (step_nil (seqK_n (sem_seq ?_)))))))))
 refine sem_cutW (fun i_0 : Int => (⟨[(0, .pv (.slc x_.length x__f (x_.flatMap encGLock))), (2, .pv (.fn 31)), (4, .ptr 0 0), (8, I x_.length), (9, I i_0)], [(0, .box [.pv (.str target.Name), I target.Foe, I target.Until])], 1, [], 49, 0⟩ : St)) (fun i_0 : Int => bsL_L0 x_ target (x_.length + 1) 0 x_.length = i_0 ∧ (0 ≤ i_0 ∧ i_0 ≤ x_.length)) ?_ ?_
 ·refine sem_block ?_
  refine sem_loopT (fun w_ : Nat × Int × Int => match w_ with | (f0, i0, j0) => (⟨[(0, .pv (.slc x_.length x__f (x_.flatMap encGLock))), (2, .pv (.fn 31)), (4, .ptr 0 0), (8, I x_.length), (9, I i0), (10, I j0)], [(0, .box [.pv (.str target.Name), I target.Foe, I target.Until])], 1, [], 49, 0⟩ : St)) (fun w_ : Nat × Int × Int => match w_ with | (f0, i0, j0) => bsL_L0 x_ target f0 i0 j0 = bsL_L0 x_ target (x_.length + 1) 0 x_.length ∧ (j0 - i0).toNat < f0 ∧ 0 ≤ i0 ∧ i0 ≤ j0 ∧ j0 ≤ x_.length) (fun w_ : Nat × Int × Int => match w_ with | (f0, i0, j0) => f0) (x_.length + 1, 0, x_.length) (⟨rfl, (by first | omega | (simp; omega)), by first | omega | simp | (simp; omega)⟩) ?_ (fun w_ hh_ => ?_)
  ·exact (Trans.ren [] (by decide +kernel) (by decide +kernel) rfl ⟨⟨rfl, rfl⟩, ⟨rfl, rfl⟩, ⟨rfl, rfl⟩, ⟨rfl, rfl⟩, ⟨rfl, rfl⟩, ⟨rfl, rfl⟩, trivial⟩ ⟨⟨rfl, rfl, rfl⟩, trivial⟩ (by decide))
  obtain ⟨f0, i0, j0⟩ := w_
  obtain ⟨hI0, hb0, hv0⟩ := hh_
  obtain ⟨f0, rfl⟩ : ∃ z_, f0 = z_ + 1 := ⟨f0 - 1, by omega⟩
  show Walks Tryd.prog _ _ (⟨[(0, .pv (.slc x_.length x__f (x_.flatMap encGLock))), (2, .pv (.fn 31)), (4, .ptr 0 0), (8, I x_.length), (9, I i0), (10, I j0)], [(0, .box [.pv (.str target.Name), I target.Foe, I target.Until])], 1, [], 49, 0⟩ : St)
  refine sem_seq (sem_seq (sem_region rfl (step_r rfl rfl trivial (step_r rfl rfl trivial (step_bin rfl rfl rfl rfl rfl trivial (step_nil (seqK_n ?_)))))))
  refine sem_cond rfl (fun h5 => ?_) (fun h5 => ?_)
  ·have g5 : (i0 : Int) < j0 := of_decide_eq_true h5
   refine sem_skip (seqK_n (sem_block (sem_seq (sem_region rfl (step_r rfl rfl trivial (step_r rfl rfl trivial (step_bin rfl rfl rfl rfl rfl trivial (step_r rfl rfl trivial ?_))))))))
   refine step_bin rfl rfl rfl rfl rfl (by first | decide | omega | (show (0 : Int) ≤ IntKind.i64.wrap _; rw [wrap_lt (by omega) (by omega)]; omega) | simp_all) ?_
   refine step_rv (v' := I ((i0 + j0) / 2)) rfl (congrArg (fun q => AV.pv (.int .i64 q)) (mid_is hv0.1 (by omega) (by omega))) rfl trivial ?_
   refine step_r rfl rfl trivial (step_nil (seqK_n (sem_seq ?_)))
   refine sem_drawn rfl (by decide +kernel) rfl ?_
   refine step_r rfl rfl trivial (step_r rfl rfl trivial (step_r rfl rfl trivial ?_))
   have jk7 : ((i0 + j0) / 2).toNat < x_.length := by first | assumption | omega | (simp only [List.length_set, List.length_append]; omega) | (simp only [IntKind.wrap_i64] at *; omega) | (simp; omega) | simp_all
   refine step_idxS' (k := ((i0 + j0) / 2).toNat) rfl rfl (Int.toNat_of_nonneg (by first | omega | (simp only [IntKind.wrap_i64]; omega) | (simp only [IntKind.wrap_i64] at *; omega) | (simp; omega))).symm rfl rfl jk7 (flat_ne (s := 3) (enc := encGLock) (fun _ => rfl) (by decide) jk7) rfl ?_
   refine step_load_row rfl rfl rfl (flat_lt (s := 3) (enc := encGLock) (fun _ => rfl) jk7) (flat_take (s := 3) (enc := encGLock) (fun _ => rfl) (get_getD jk7)) rfl (step_r (v := (.agg [_, _, _])) rfl rfl (Nat.le_of_ble_eq_true rfl) (step_call rfl rfl rfl rfl (orderL_ok (x_.getD (((i0 + j0) / 2).toNat) default) target) rfl rfl rfl (step_bin rfl rfl rfl rfl rfl trivial (step_nil (seqK_n ?_)))))
   refine sem_cond rfl (fun h8 => ?_) (fun h8 => ?_)
   ·have g8 : (orderL (x_.getD (((i0 + j0) / 2).toNat) default) target : Int) < 0 := of_decide_eq_true h8
    refine sem_region rfl (step_r rfl rfl trivial (step_bin rfl rfl rfl rfl rfl trivial (step_r rfl rfl trivial (step_nil (blkK_n ?_)))))
    have e10 : bsL_L0 x_ target (f0 + 1) i0 j0 = bsL_L0 x_ target f0 (IntKind.i64.wrap (((i0 + j0) / 2) + 1)) j0 := by
     rewrite [bsL_L0]
     try dsimp only
     rewrite [if_pos g5, if_pos g8]
     all_goals rfl
    exact lup_againT (f0, (IntKind.i64.wrap (((i0 + j0) / 2) + 1)), j0) ⟨e10.symm.trans hI0, ((by first | omega | (simp only [IntKind.wrap_i64]; omega))), (by first | omega | (simp only [IntKind.wrap_i64]; omega))⟩ (Nat.lt_succ_self _) (Trans.ren [] (by decide +kernel) (by decide +kernel) rfl ⟨⟨rfl, rfl⟩, ⟨rfl, rfl⟩, ⟨rfl, rfl⟩, ⟨rfl, rfl⟩, ⟨rfl, rfl⟩, ⟨rfl, rfl⟩, trivial⟩ ⟨⟨rfl, rfl, rfl⟩, trivial⟩ (by decide))
   ·have g8 : ¬ ((orderL (x_.getD (((i0 + j0) / 2).toNat) default) target : Int) < 0) := of_decide_eq_false h8
    refine sem_region rfl (step_r rfl rfl trivial (step_r rfl rfl trivial (step_nil (blkK_n ?_))))
    have e11 : bsL_L0 x_ target (f0 + 1) i0 j0 = bsL_L0 x_ target f0 i0 ((i0 + j0) / 2) := by
     rewrite [bsL_L0]
     try dsimp only
     rewrite [if_pos g5, if_neg g8]
     all_goals rfl
    exact lup_againT (f0, i0, ((i0 + j0) / 2)) ⟨e11.symm.trans hI0, ((by first | omega | (simp only [IntKind.wrap_i64]; omega))), (by first | omega | (simp only [IntKind.wrap_i64]; omega))⟩ (Nat.lt_succ_self _) (Trans.ren [] (by decide +kernel) (by decide +kernel) rfl ⟨⟨rfl, rfl⟩, ⟨rfl, rfl⟩, ⟨rfl, rfl⟩, ⟨rfl, rfl⟩, ⟨rfl, rfl⟩, ⟨rfl, rfl⟩, trivial⟩ ⟨⟨rfl, rfl, rfl⟩, trivial⟩ (by decide))
  ·have g5 : ¬ ((i0 : Int) < j0) := of_decide_eq_false h5
   refine sem_exit (seqK_e (lupK_e (blkK_t rfl ?_)))
   have e12 : bsL_L0 x_ target (x_.length + 1) 0 x_.length = i0 := by
    rewrite [← hI0]
    rewrite [bsL_L0]
    try dsimp only
    rewrite [if_neg g5]
    all_goals rfl
   exact cutW_n i0 ⟨e12, by first | assumption | omega | (simp; omega) | simp_all | grind⟩ (Trans.ren [] (by decide +kernel) (by decide +kernel) rfl ⟨⟨rfl, rfl⟩, ⟨rfl, rfl⟩, ⟨rfl, rfl⟩, ⟨rfl, rfl⟩, ⟨rfl, rfl⟩, trivial⟩ ⟨⟨rfl, rfl, rfl⟩, trivial⟩ (by decide))
 ·rintro i_0 ⟨(hJ2 : bsL_L0 x_ target (x_.length + 1) 0 x_.length = i_0), hE0⟩
  show seqK _ _ _ .normal (⟨[(0, .pv (.slc x_.length x__f (x_.flatMap encGLock))), (2, .pv (.fn 31)), (4, .ptr 0 0), (8, I x_.length), (9, I i_0)], [(0, .box [.pv (.str target.Name), I target.Foe, I target.Until])], 1, [], 49, 0⟩ : St)
  refine seqK_n (sem_seq ?_)
  refine sem_drawn rfl (by decide +kernel) rfl ?_
  refine step_r rfl rfl trivial (step_r rfl rfl trivial (step_r rfl rfl trivial (step_bin rfl rfl rfl rfl rfl trivial (step_r rfl rfl trivial ?_))))
  refine step_gs rfl (fun h16 => ?_) (fun h16 => ?_)
  ·have g16 : (i_0 : Int) < x_.length := of_decide_eq_true h16
   refine step_g1 rfl h16 (step_r rfl rfl trivial (step_g1 rfl h16 (step_r rfl rfl trivial (step_g1 rfl h16 (step_r rfl rfl trivial (step_g1 rfl h16 ?_))))))
   have jk17 : i_0.toNat < x_.length := by first | assumption | omega | (simp only [List.length_set, List.length_append]; omega) | (simp only [IntKind.wrap_i64] at *; omega) | (simp; omega) | simp_all
   refine step_idxS' (k := i_0.toNat) rfl rfl (Int.toNat_of_nonneg (by first | omega | (simp only [IntKind.wrap_i64]; omega) | (simp only [IntKind.wrap_i64] at *; omega) | (simp; omega))).symm rfl rfl jk17 (flat_ne (s := 3) (enc := encGLock) (fun _ => rfl) (by decide) jk17) rfl ?_
   refine step_g1 rfl h16 (step_load_row rfl rfl rfl (flat_lt (s := 3) (enc := encGLock) (fun _ => rfl) jk17) (flat_take (s := 3) (enc := encGLock) (fun _ => rfl) (get_getD jk17)) rfl (step_g1 rfl h16 (step_r (v := (.agg [_, _, _])) rfl rfl (Nat.le_of_ble_eq_true rfl) (step_g1 rfl h16 (step_call rfl rfl rfl rfl (orderL_ok (x_.getD i_0.toNat default) target) rfl rfl rfl (step_g1 rfl h16 (step_bin rfl rfl rfl rfl rfl trivial (step_pickT rfl h16 rfl rfl (step_r rfl rfl trivial (step_r rfl rfl trivial (step_nil ?_)))))))))))
   refine seqK_n (sem_ret ?_)
   have e19 : bsL x_ target = (i_0, ((orderL (x_.getD i_0.toNat default) target : Int) == 0)) := by
    unfold bsL
    try dsimp only
    rewrite [hJ2]
    try dsimp only
    rewrite [if_pos g16]
    all_goals rfl
   rw [e19]
   exact answersR rfl ⟨trivial, trivial, trivial⟩ (rfl) rfl
  ·have g16 : ¬ ((i_0 : Int) < x_.length) := of_decide_eq_false h16
   refine step_g0 rfl h16 rfl (step_g0 rfl h16 rfl (step_g0 rfl h16 rfl (step_g0 rfl h16 rfl (step_g0 rfl h16 rfl (step_g0 rfl h16 rfl (step_g0 rfl h16 rfl (step_g0 rfl h16 rfl (step_pickF rfl h16 rfl rfl (step_r rfl rfl trivial (step_r rfl rfl trivial (step_nil ?_)))))))))))
   refine seqK_n (sem_ret ?_)
   have e20 : bsL x_ target = (i_0, false) := by
    unfold bsL
    try dsimp only
    rewrite [hJ2]
    try dsimp only
    rewrite [if_neg g16]
    all_goals rfl
   rw [e20]
   exact answersR rfl ⟨trivial, trivial, trivial⟩ (rfl) rfl

theorem bsL_L0_b (l : List GLock) (t : GLock) (hl : l.length ≤ 16777216) : ∀ (n : Nat) (i j : Int), 0 ≤ i → i ≤ j → j ≤ l.length → (j - i).toNat < n → 0 ≤ bsL_L0 l t n i j ∧ bsL_L0 l t n i j ≤ l.length
  | 0, i, j, _, _, _, h => by omega
  | n + 1, i, j, h0, h1, h2, h3 => by
    rw [bsL_L0]
    split
    · split
      · refine bsL_L0_b l t hl n _ _ ?_ ?_ h2 ?_ <;> simp only [IntKind.wrap_i64] <;> omega
      · exact bsL_L0_b l t hl n _ _ h0 (by omega) (by omega) (by omega)
    · omega
theorem bsL_b (l : List GLock) (t : GLock) (hl : l.length ≤ 16777216) : 0 ≤ (bsL l t).1 ∧ (bsL l t).1 ≤ l.length ∧ ((bsL l t).2 = true → (bsL l t).1 < l.length) := by
  have h := bsL_L0_b l t hl (l.length + 1) 0 l.length (by omega) (by omega) (by omega) (by omega)
  unfold bsL
  dsimp only
  split
  · exact ⟨h.1, h.2, fun _ => by assumption⟩
  · exact ⟨h.1, h.2, fun h => by cases h⟩

def withinL (n : Int) (lo : Int) (hi : Int) : Bool :=
  if (n : Int) ≥ lo then (decide ((n : Int) ≤ hi)) else false
theorem withinL_ok (n : Int) (lo : Int) (hi : Int) : Ok Tryd.prog 44 [I n, I lo, I hi] [] (B (withinL n lo hi)) [] [] := by
 refine ok_of_sem Tryd.func44 rfl ?_
 show Walks Tryd.prog _ _ ⟨[(0, I n), (1, I lo), (2, I hi)], [], 0, [], 15, 0⟩
 refine sem_seq (sem_region rfl (step_r rfl rfl trivial (step_nil (seqK_n (sem_seq (sem_region rfl (step_r rfl rfl trivial (step_r rfl rfl trivial (step_bin rfl rfl rfl rfl rfl trivial (step_r rfl rfl trivial ?_))))))))))
 refine step_gs rfl (fun h4 => ?_) (fun h4 => ?_)
 ·have g4 : (n : Int) ≥ lo := of_decide_eq_true h4
  refine step_g1 rfl h4 (step_r rfl rfl trivial (step_g1 rfl h4 (step_r rfl rfl trivial (step_g1 rfl h4 (step_bin rfl rfl rfl rfl rfl trivial (step_pickT rfl h4 rfl rfl (step_r rfl rfl trivial (step_nil (seqK_n (sem_ret ?_))))))))))
  have e7 : withinL n lo hi = (decide ((n : Int) ≤ hi)) := by
   unfold withinL
   try dsimp only
   rewrite [if_pos g4]
   all_goals rfl
  rw [e7]
  exact answersR rfl ⟨trivial, trivial⟩ (rfl) rfl
 ·have g4 : ¬ ((n : Int) ≥ lo) := of_decide_eq_false h4
  refine step_g0 rfl h4 rfl (step_g0 rfl h4 rfl (step_g0 rfl h4 rfl (step_pickF rfl h4 rfl rfl (step_r rfl rfl trivial (step_nil (seqK_n (sem_ret ?_)))))))
  have e8 : withinL n lo hi = false := by
   unfold withinL
   try dsimp only
   rewrite [if_neg g4]
   all_goals rfl
  rw [e8]
  exact answersR rfl ⟨trivial, trivial⟩ (rfl) rfl

def rightL_L0 (l : List GLock) : List GLock → Nat → Sum Bool Unit
  | [], k0 => .inr ()
  | x0 :: l_, k0 => if nameC x0.Name = true then (if (x0.Foe : Int) < 1 then .inl false else if (k0 : Int) > 0 then (if (orderL (l.getD ((IntKind.i64.wrap (k0 - 1)).toNat) default) x0 : Int) ≥ 0 then .inl false else rightL_L0 l l_ (k0 + 1)) else rightL_L0 l l_ (k0 + 1)) else .inl false
def rightL (l : List GLock) : Bool :=
  (match rightL_L0 l l 0 with
    | .inl r_ => r_
    | .inr () => (decide ((l.length : Int) ≤ 200)))
theorem rightL_ok (l : List GLock) (l_f : Bool) : Ok Tryd.prog 16 [.pv (.slc l.length l_f (l.flatMap encGLock))] [] (B (rightL l)) [] [] := by
 refine Ok.len fun hlen => ?_
 have hl_l : l.length ≤ maxLen := hlen _ (by simp [lensL, lens, lensP])
 unfold maxLen at hl_l
 refine ok_of_sem Tryd.func16 rfl ?_
 show Walks Tryd.prog _ _ ⟨[(0, .pv (.slc l.length l_f (l.flatMap encGLock)))], [], 0, [], 39, 0⟩
 refine sem_seq (sem_region rfl (step_r rfl rfl trivial (step_nil (seqK_n (sem_seq (sem_seq (sem_region rfl (step_r rfl rfl trivial (step_r rfl rfl trivial (step_r rfl rfl trivial (step_nil ?_)))))))))))
 refine seqK_n ?_
 refine sem_cutW (fun w_ : Unit => match w_ with | () => (⟨[(0, .pv (.slc l.length l_f (l.flatMap encGLock)))], [], 0, [], 39, 0⟩ : St)) (fun w_ => rightL_L0 l l 0 = .inr w_) ?_ ?_
 ·refine sem_block ?_
  refine sem_loopT (fun k0 : Nat => (⟨[(0, .pv (.slc l.length l_f (l.flatMap encGLock))), (5, .pv (.slc l.length l_f (l.flatMap encGLock))), (6, I l.length), (7, I k0)], [], 0, [], 39, 0⟩ : St)) (fun k0 : Nat => rightL_L0 l (l.drop k0) k0 = rightL_L0 l l 0 ∧ k0 ≤ l.length) (fun k0 : Nat => l.length - k0) 0 (⟨rfl, Nat.zero_le _⟩) ?_ (fun k0 hh_ => ?_)
  ·exact (Trans.ren [] (by decide +kernel) (by decide +kernel) rfl ⟨⟨rfl, rfl⟩, ⟨rfl, rfl⟩, ⟨rfl, rfl⟩, ⟨rfl, rfl⟩, trivial⟩ trivial (by decide))
  obtain ⟨hI0, hb0⟩ := hh_
  show Walks Tryd.prog _ _ (⟨[(0, .pv (.slc l.length l_f (l.flatMap encGLock))), (5, .pv (.slc l.length l_f (l.flatMap encGLock))), (6, I l.length), (7, I k0)], [], 0, [], 39, 0⟩ : St)
  refine sem_seq (sem_region rfl (step_bin rfl rfl rfl rfl rfl trivial (step_nil (seqK_n (sem_seq ?_)))))
  refine sem_cond rfl (fun h2 => ?_) (fun h2 => ?_)
  ·have g2 : (k0 : Int) < l.length := of_decide_eq_true h2
   have hk0 : k0 < l.length := by omega
   obtain ⟨x0, hx0⟩ : ∃ z_, l[k0]? = some z_ := ⟨_, List.getElem?_eq_getElem hk0⟩
   refine sem_skip (seqK_n (sem_seq (sem_block (sem_seq (sem_region rfl (step_r rfl rfl trivial (step_idxS (k := k0) rfl rfl rfl rfl hk0 (flat_ne (s := 3) (enc := encGLock) (fun _ => rfl) (by decide) hk0) rfl (step_load_row rfl rfl rfl (flat_lt (s := 3) (enc := encGLock) (fun _ => rfl) hk0) (flat_take (s := 3) (enc := encGLock) (fun _ => rfl) hx0) rfl (step_n (o := .box [_, _, _]) (nx' := 1) rfl rfl rfl trivial (step_r rfl rfl trivial ?_))))))))))
   refine step_storeB (H' := [(0, .box [_, _, _])]) rfl rfl rfl rfl rfl rfl (.inl rfl) rfl ?_
   refine step_nil (seqK_n (sem_seq ?_))
   refine sem_drawn rfl (by decide +kernel) rfl ?_
   refine step_r rfl rfl (by decide) (step_r rfl rfl trivial (step_call rfl rfl rfl rfl (nameC_ok x0.Name) rfl rfl rfl (step_r rfl rfl trivial (step_r rfl rfl trivial ?_))))
   refine step_gs rfl (fun h5 => ?_) (fun h5 => ?_)
   ·have g5 : ¬ (nameC x0.Name = true) := boo_f (not_t h5)
    refine step_g0 rfl h5 rfl (step_g0 rfl h5 rfl (step_g0 rfl h5 rfl (step_pickT rfl h5 rfl rfl (step_r rfl rfl trivial (step_gf rfl rfl (step_gf rfl rfl (step_gf rfl rfl (step_gf rfl rfl (step_gf rfl rfl (step_gf rfl rfl (step_gf rfl rfl ?_)))))))))))
    refine step_gf rfl rfl (step_gf rfl rfl (step_gf rfl rfl (step_gf rfl rfl (step_gf rfl rfl (step_r rfl rfl trivial (step_nil (seqK_n (sem_condT rfl (sem_seq (sem_region rfl (step_r rfl rfl trivial ?_)))))))))))
    refine step_nil (seqK_n (sem_ret (blkK_r (seqK_r (lupK_r (blkK_r (cutW_r (seqK_r ?_))))))))
    have e6 : rightL_L0 l l 0 = .inl false := by
     rewrite [← hI0, drop_cons hx0]
     rewrite [rightL_L0]
     try dsimp only
     rewrite [if_neg g5]
     all_goals rfl
    have e7 : rightL l = false := by
     unfold rightL
     try dsimp only
     rewrite [e6]
     try dsimp only
     all_goals rfl
    rw [e7]
    exact answersR rfl ⟨trivial, trivial⟩ (rfl) rfl
   ·have g5 : nameC x0.Name = true := (not_f h5)
    refine step_g1 rfl h5 (step_r rfl rfl (by decide) (step_g1 rfl h5 (step_r rfl rfl trivial (step_g1 rfl h5 (step_bin rfl rfl rfl rfl rfl trivial (step_pickF rfl h5 rfl rfl (step_r rfl rfl trivial ?_)))))))
    refine step_gs rfl (fun h9 => ?_) (fun h9 => ?_)
    ·have g9 : (x0.Foe : Int) < 1 := of_decide_eq_true h9
     refine step_g0 rfl h9 rfl (step_g0 rfl h9 rfl (step_g0 rfl h9 rfl (step_gf rfl rfl (step_gf rfl rfl (step_gf rfl rfl (step_gf rfl rfl (step_gf rfl rfl (step_gf rfl rfl (step_gf rfl rfl (step_gf rfl rfl (step_g0 rfl h9 rfl ?_)))))))))))
     refine step_pickT rfl h9 rfl rfl (step_nil (seqK_n (sem_condT rfl (sem_seq (sem_region rfl (step_r rfl rfl trivial (step_nil (seqK_n (sem_ret (blkK_r (seqK_r ?_)))))))))))
     refine lupK_r (blkK_r (cutW_r (seqK_r ?_)))
     have e10 : rightL_L0 l l 0 = .inl false := by
      rewrite [← hI0, drop_cons hx0]
      rewrite [rightL_L0]
      try dsimp only
      rewrite [if_pos g5, if_pos g9]
      all_goals rfl
     have e11 : rightL l = false := by
      unfold rightL
      try dsimp only
      rewrite [e10]
      try dsimp only
      all_goals rfl
     rw [e11]
     exact answersR rfl ⟨trivial, trivial⟩ (rfl) rfl
    ·have g9 : ¬ ((x0.Foe : Int) < 1) := of_decide_eq_false h9
     refine step_g1 rfl h9 (step_r rfl rfl trivial (step_g1 rfl h9 (step_bin rfl rfl rfl rfl rfl trivial (step_g1 rfl h9 (step_r rfl rfl trivial ?_)))))
     refine step_gs rfl (fun h13 => ?_) (fun h13 => ?_)
     ·have g13 : (k0 : Int) > 0 := of_decide_eq_true h13
      refine step_g1 rfl h13 (step_r rfl rfl trivial (step_g1 rfl h13 (step_r rfl rfl trivial (step_g1 rfl h13 (step_bin rfl rfl rfl rfl rfl trivial (step_g1 rfl h13 ?_))))))
      have jk14 : (IntKind.i64.wrap (k0 - 1)).toNat < l.length := by first | assumption | omega | (simp only [List.length_set, List.length_append]; omega) | (simp only [IntKind.wrap_i64] at *; omega) | (simp; omega) | simp_all
      refine step_idxS' (k := (IntKind.i64.wrap (k0 - 1)).toNat) rfl rfl (Int.toNat_of_nonneg (by first | omega | (simp only [IntKind.wrap_i64]; omega) | (simp only [IntKind.wrap_i64] at *; omega) | (simp; omega))).symm rfl rfl jk14 (flat_ne (s := 3) (enc := encGLock) (fun _ => rfl) (by decide) jk14) rfl ?_
      refine step_g1 rfl h13 (step_load_row rfl rfl rfl (flat_lt (s := 3) (enc := encGLock) (fun _ => rfl) jk14) (flat_take (s := 3) (enc := encGLock) (fun _ => rfl) (get_getD jk14)) rfl (step_g1 rfl h13 (step_r (v := (.agg [_, _, _])) rfl rfl (Nat.le_of_ble_eq_true rfl) (step_g1 rfl h13 (step_call rfl rfl rfl rfl (orderL_ok (l.getD ((IntKind.i64.wrap (k0 - 1)).toNat) default) x0) rfl rfl rfl (step_g1 rfl h13 (step_bin rfl rfl rfl rfl rfl trivial (step_g1 rfl h9 (step_pickT rfl h13 rfl rfl (step_pickF rfl h9 rfl rfl (step_nil ?_)))))))))))
      refine seqK_n ?_
      refine sem_cond rfl (fun h16 => ?_) (fun h16 => ?_)
      ·have g16 : (orderL (l.getD ((IntKind.i64.wrap (k0 - 1)).toNat) default) x0 : Int) ≥ 0 := of_decide_eq_true h16
       refine sem_seq (sem_region rfl (step_r rfl rfl trivial (step_nil (seqK_n (sem_ret (blkK_r (seqK_r (lupK_r (blkK_r (cutW_r (seqK_r ?_)))))))))))
       have e17 : rightL_L0 l l 0 = .inl false := by
        rewrite [← hI0, drop_cons hx0]
        rewrite [rightL_L0]
        try dsimp only
        rewrite [if_pos g5, if_neg g9, if_pos g13, if_pos g16]
        all_goals rfl
       have e18 : rightL l = false := by
        unfold rightL
        try dsimp only
        rewrite [e17]
        try dsimp only
        all_goals rfl
       rw [e18]
       exact answersR rfl ⟨trivial, trivial⟩ (rfl) rfl
      ·have g16 : ¬ ((orderL (l.getD ((IntKind.i64.wrap (k0 - 1)).toNat) default) x0 : Int) ≥ 0) := of_decide_eq_false h16
       refine sem_skip (blkK_n (seqK_n (sem_region rfl (step_bin rfl rfl rfl rfl rfl trivial (step_r rfl rfl trivial (step_nil ?_))))))
       have e20 : rightL_L0 l (l.drop k0) k0 = rightL_L0 l (l.drop (k0 + 1)) (k0 + 1) := by
        rewrite [drop_cons hx0]
        rewrite [rightL_L0]
        try dsimp only
        rewrite [if_pos g5, if_neg g9, if_pos g13, if_neg g16]
        all_goals rfl
       exact lup_againT (k0 + 1) ⟨e20.symm.trans hI0, hk0⟩ (by show l.length - (k0 + 1) < l.length - k0; omega) (Trans.ren [] (by decide +kernel) (by decide +kernel) rfl ⟨⟨rfl, rfl⟩, ⟨rfl, rfl⟩, ⟨rfl, rfl⟩, ⟨congrArg (fun n => some (I n)) (wrapI (k := k0) (by first | omega | (simp; omega))), rfl⟩, trivial⟩ trivial (by decide))
     ·have g13 : ¬ ((k0 : Int) > 0) := of_decide_eq_false h13
      refine step_g0 rfl h13 rfl (step_g0 rfl h13 rfl (step_g0 rfl h13 rfl (step_g0 rfl h13 rfl (step_g0 rfl h13 rfl (step_g0 rfl h13 rfl (step_g0 rfl h13 rfl (step_g0 rfl h13 rfl (step_g1 rfl h9 (step_pickF rfl h13 rfl rfl (step_pickF rfl h9 rfl rfl (step_nil ?_)))))))))))
      refine seqK_n (sem_condF rfl (sem_skip (blkK_n (seqK_n (sem_region rfl (step_bin rfl rfl rfl rfl rfl trivial (step_r rfl rfl trivial (step_nil ?_))))))))
      have e22 : rightL_L0 l (l.drop k0) k0 = rightL_L0 l (l.drop (k0 + 1)) (k0 + 1) := by
       rewrite [drop_cons hx0]
       rewrite [rightL_L0]
       try dsimp only
       rewrite [if_pos g5, if_neg g9, if_neg g13]
       all_goals rfl
      exact lup_againT (k0 + 1) ⟨e22.symm.trans hI0, hk0⟩ (by show l.length - (k0 + 1) < l.length - k0; omega) (Trans.ren [] (by decide +kernel) (by decide +kernel) rfl ⟨⟨rfl, rfl⟩, ⟨rfl, rfl⟩, ⟨rfl, rfl⟩, ⟨congrArg (fun n => some (I n)) (wrapI (k := k0) (by first | omega | (simp; omega))), rfl⟩, trivial⟩ trivial (by decide))
  ·have g2 : ¬ ((k0 : Int) < l.length) := of_decide_eq_false h2
   have hk0 : k0 = l.length := by omega
   refine sem_exit (seqK_e (lupK_e (blkK_t rfl ?_)))
   have e23 : rightL_L0 l l 0 = .inr () := by
    rewrite [← hI0, hk0, List.drop_length]
    rewrite [rightL_L0]
    try dsimp only
    all_goals rfl
   exact cutW_n () e23 (Trans.ren [] (by decide +kernel) (by decide +kernel) rfl ⟨⟨rfl, rfl⟩, trivial⟩ trivial (by decide))
 ·rintro ⟨⟩ (hJ1 : rightL_L0 l l 0 = .inr ())
  show seqK _ _ _ .normal (⟨[(0, .pv (.slc l.length l_f (l.flatMap encGLock)))], [], 0, [], 39, 0⟩ : St)
  refine seqK_n (sem_seq (sem_region rfl (step_r rfl rfl trivial (step_r rfl rfl trivial (step_bin rfl rfl rfl rfl rfl trivial (step_r rfl rfl trivial (step_nil (seqK_n (sem_ret ?_)))))))))
  have e25 : rightL l = (decide ((l.length : Int) ≤ 200)) := by
   unfold rightL
   try dsimp only
   rewrite [hJ1]
   try dsimp only
   all_goals rfl
  rw [e25]
  exact answersR rfl ⟨trivial, trivial⟩ (rfl) rfl

theorem withinL_iff {n lo hi : Int} : withinL n lo hi = true ↔ lo ≤ n ∧ n ≤ hi := by
  unfold withinL
  repeat' split
  all_goals simp_all <;> omega

def turnL_J27 (now : Int) (period : Int) (offset : Int) : Int :=
  if ((IntKind.i64.wrap (now - offset) : Int).tmod period : Int) < 0 then (IntKind.i64.wrap (((IntKind.i64.wrap (now - offset) : Int).tmod period) + period)) else ((IntKind.i64.wrap (now - offset) : Int).tmod period)
def turnL (now : Int) (period : Int) (offset : Int) : Int :=
  if withinL now (-1125899906842624) 1125899906842624 = true then (if withinL offset (-1125899906842624) 1125899906842624 = true then (if withinL period 1 1125899906842624 = true then (let left_27 := turnL_J27 now period offset; (IntKind.i64.wrap ((IntKind.i64.wrap (now + period)) - left_27))) else now) else now) else now
theorem turnL_ok (now : Int) (period : Int) (offset : Int) : Ok Tryd.prog 27 [I now, I period, I offset] [] (I (turnL now period offset)) [] [] := by
 refine ok_of_sem Tryd.func27 rfl ?_
 show Walks Tryd.prog _ _ ⟨[(0, I now), (1, I period), (2, I offset)], [], 0, [], 37, 0⟩
 refine sem_seq (sem_region rfl (step_r rfl rfl trivial (step_nil (seqK_n (sem_seq (sem_seq (sem_region rfl (step_r rfl rfl trivial (step_call rfl rfl rfl rfl (withinL_ok now (-1125899906842624) 1125899906842624) rfl rfl rfl (step_r rfl rfl trivial (step_r rfl rfl trivial ?_)))))))))))
 refine step_gs rfl (fun h3 => ?_) (fun h3 => ?_)
 ·have g3 : ¬ (withinL now (-1125899906842624) 1125899906842624 = true) := boo_f (not_t h3)
  refine step_g0 rfl h3 rfl (step_g0 rfl h3 rfl (step_g0 rfl h3 rfl (step_pickT rfl h3 rfl rfl (step_r rfl rfl trivial (step_gf rfl rfl (step_gf rfl rfl (step_gf rfl rfl (step_r rfl rfl trivial (step_nil (seqK_n (sem_condT rfl ?_)))))))))))
  refine sem_seq (sem_region rfl (step_r rfl rfl trivial (step_r rfl rfl trivial (step_nil (seqK_n (sem_ret (seqK_r ?_)))))))
  have e4 : turnL now period offset = now := by
   unfold turnL
   try dsimp only
   rewrite [if_neg g3]
   all_goals rfl
  rw [e4]
  exact answersR rfl ⟨trivial, trivial⟩ (rfl) rfl
 ·have g3 : withinL now (-1125899906842624) 1125899906842624 = true := (not_f h3)
  have qg3 := withinL_iff.1 g3
  refine step_g1 rfl h3 (step_r rfl rfl trivial (step_g1 rfl h3 (step_call rfl rfl rfl rfl (withinL_ok offset (-1125899906842624) 1125899906842624) rfl rfl rfl (step_g1 rfl h3 (step_r rfl rfl trivial (step_pickF rfl h3 rfl rfl (step_r rfl rfl trivial ?_)))))))
  refine step_gs rfl (fun h7 => ?_) (fun h7 => ?_)
  ·have g7 : ¬ (withinL offset (-1125899906842624) 1125899906842624 = true) := boo_f (not_t h7)
   refine step_g0 rfl h7 rfl (step_g0 rfl h7 rfl (step_g0 rfl h7 rfl (step_pickT rfl h7 rfl rfl (step_nil (seqK_n (sem_condT rfl (sem_seq (sem_region rfl (step_r rfl rfl trivial (step_r rfl rfl trivial (step_nil ?_)))))))))))
   refine seqK_n (sem_ret (seqK_r ?_))
   have e8 : turnL now period offset = now := by
    unfold turnL
    try dsimp only
    rewrite [if_pos g3, if_neg g7]
    all_goals rfl
   rw [e8]
   exact answersR rfl ⟨trivial, trivial⟩ (rfl) rfl
  ·have g7 : withinL offset (-1125899906842624) 1125899906842624 = true := (not_f h7)
   have qg7 := withinL_iff.1 g7
   refine step_g1 rfl h7 (step_r rfl rfl trivial (step_g1 rfl h7 (step_call rfl rfl rfl rfl (withinL_ok period 1 1125899906842624) rfl rfl rfl (step_g1 rfl h7 (step_r rfl rfl trivial (step_pickF rfl h7 rfl rfl (step_nil (seqK_n ?_))))))))
   refine sem_cond rfl (fun h11 => ?_) (fun h11 => ?_)
   ·have g11 : ¬ (withinL period 1 1125899906842624 = true) := boo_f (not_t h11)
    refine sem_seq (sem_region rfl (step_r rfl rfl trivial (step_r rfl rfl trivial (step_nil (seqK_n (sem_ret (seqK_r ?_)))))))
    have e12 : turnL now period offset = now := by
     unfold turnL
     try dsimp only
     rewrite [if_pos g3, if_pos g7, if_neg g11]
     all_goals rfl
    rw [e12]
    exact answersR rfl ⟨trivial, trivial⟩ (rfl) rfl
   ·have g11 : withinL period 1 1125899906842624 = true := (not_f h11)
    have qg11 := withinL_iff.1 g11
    refine sem_skip (seqK_n (sem_seq (sem_region rfl (step_r rfl rfl trivial (step_r rfl rfl trivial (step_bin rfl rfl rfl rfl rfl trivial (step_r rfl rfl trivial ?_)))))))
    refine step_bin rfl rfl rfl rfl rfl (by first | decide | omega | (show (0 : Int) ≤ IntKind.i64.wrap _; rw [wrap_lt (by omega) (by omega)]; omega) | simp_all) ?_
    refine step_r rfl rfl trivial (step_nil (seqK_n (sem_seq ?_)))
    refine sem_cutW (fun left_27 : Int => (⟨[(0, I now), (1, I period), (7, I left_27)], [], 0, [], 37, 0⟩ : St)) (fun w_ => turnL_J27 now period offset = w_) ?_ ?_
    ·refine sem_seq (sem_region rfl (step_r rfl rfl trivial (step_bin rfl rfl rfl rfl rfl trivial (step_nil (seqK_n ?_)))))
     refine sem_cond rfl (fun h15 => ?_) (fun h15 => ?_)
     ·have g15 : ((IntKind.i64.wrap (now - offset) : Int).tmod period : Int) < 0 := of_decide_eq_true h15
      refine sem_region rfl (step_r rfl rfl trivial (step_r rfl rfl trivial (step_bin rfl rfl rfl rfl rfl trivial (step_r rfl rfl trivial (step_nil ?_)))))
      have e17 : turnL_J27 now period offset = (IntKind.i64.wrap (((IntKind.i64.wrap (now - offset) : Int).tmod period) + period)) := by
       unfold turnL_J27
       try dsimp only
       rewrite [if_pos g15]
       all_goals rfl
      exact cutW_n (IntKind.i64.wrap (((IntKind.i64.wrap (now - offset) : Int).tmod period) + period)) e17 (Trans.ren [] (by decide +kernel) (by decide +kernel) rfl ⟨⟨rfl, rfl⟩, ⟨rfl, rfl⟩, ⟨rfl, rfl⟩, trivial⟩ trivial (by decide))
     ·have g15 : ¬ (((IntKind.i64.wrap (now - offset) : Int).tmod period : Int) < 0) := of_decide_eq_false h15
      refine sem_skip ?_
      have e18 : turnL_J27 now period offset = ((IntKind.i64.wrap (now - offset) : Int).tmod period) := by
       unfold turnL_J27
       try dsimp only
       rewrite [if_neg g15]
       all_goals rfl
      exact cutW_n ((IntKind.i64.wrap (now - offset) : Int).tmod period) e18 (Trans.ren [] (by decide +kernel) (by decide +kernel) rfl ⟨⟨rfl, rfl⟩, ⟨rfl, rfl⟩, ⟨rfl, rfl⟩, trivial⟩ trivial (by decide))
    ·rintro left_27 (hJ14 : turnL_J27 now period offset = left_27)
     show seqK _ _ _ .normal (⟨[(0, I now), (1, I period), (7, I left_27)], [], 0, [], 37, 0⟩ : St)
     refine seqK_n (sem_seq (sem_region rfl (step_r rfl rfl trivial (step_r rfl rfl trivial (step_bin rfl rfl rfl rfl rfl trivial (step_r rfl rfl trivial (step_bin rfl rfl rfl rfl rfl trivial (step_r rfl rfl trivial (step_nil (seqK_n (sem_ret ?_)))))))))))
     have e23 : turnL now period offset = (IntKind.i64.wrap ((IntKind.i64.wrap (now + period)) - left_27)) := by
      unfold turnL
      try dsimp only
      rewrite [if_pos g3, if_pos g7, if_pos g11, hJ14]
      try dsimp only
      all_goals rfl
     rw [e23]
     exact answersR rfl ⟨trivial, trivial⟩ (rfl) rfl

def addL (l : List GLock) (name : List UInt8) (foe : Int) (until_ : Int) : (List GLock) × Int :=
  if rightL l = true then (if nameC name = true then (if (foe : Int) < 1 then ([], 1) else if (bsL l (⟨name, foe, until_⟩ : GLock)).2 = true then ((l.set ((bsL l (⟨name, foe, until_⟩ : GLock)).1).toNat { (l.getD (((bsL l (⟨name, foe, until_⟩ : GLock)).1).toNat) default) with Until := (max ((l.getD (((bsL l (⟨name, foe, until_⟩ : GLock)).1).toNat) default).Until) until_) }), 0) else if (l.length : Int) ≥ 200 then ([], 4) else ((l.take ((bsL l (⟨name, foe, until_⟩ : GLock)).1).toNat ++ (([(⟨name, foe, until_⟩ : GLock)]) ++ l.drop ((bsL l (⟨name, foe, until_⟩ : GLock)).1).toNat)), 0)) else ([], 1)) else ([], 1)
theorem addL_ok (l : List GLock) (l_f : Bool) (name : List UInt8) (foe : Int) (until_ : Int) (hl : l.length ≤ 16777000) : Ok Tryd.prog 9 [.pv (.slc l.length l_f (l.flatMap encGLock)), .pv (.str name), I foe, I until_] [] (.tup [.ref 0 3 0 (addL l name foe until_).1.length, I (addL l name foe until_).2]) [.row 24 3 ((addL l name foe until_).1.flatMap encGLock)] [] := by
 refine Ok.len fun hlen => ?_
 have hl_l : l.length ≤ maxLen := hlen _ (by simp [lensL, lens, lensP])
 unfold maxLen at hl_l
 refine ok_of_sem Tryd.func9 rfl ?_
 show Walks Tryd.prog _ _ ⟨[(0, .pv (.slc l.length l_f (l.flatMap encGLock))), (1, .pv (.str name)), (2, I foe), (3, I until_)], [], 0, [], 61, 0⟩
 refine sem_seq (sem_region rfl (step_n (nx' := 1) rfl rfl rfl trivial (step_r rfl rfl trivial (step_nil (seqK_n (sem_seq (sem_seq (sem_region rfl (step_r rfl rfl trivial (step_call rfl rfl rfl rfl (rightL_ok l l_f) rfl rfl rfl (step_r rfl rfl trivial ?_)))))))))))
 refine step_r rfl rfl trivial ?_
 refine step_gs rfl (fun h2 => ?_) (fun h2 => ?_)
 ·have g2 : ¬ (rightL l = true) := boo_f (not_t h2)
  refine step_g0 rfl h2 rfl (step_g0 rfl h2 rfl (step_g0 rfl h2 rfl (step_pickT rfl h2 rfl rfl (step_r rfl rfl trivial (step_gf rfl rfl (step_gf rfl rfl (step_r rfl rfl trivial (step_nil (seqK_n (sem_condT rfl (sem_seq ?_)))))))))))
  refine sem_region rfl (step_n (nx' := 2) rfl rfl rfl trivial (step_r rfl rfl trivial (step_nil (seqK_n (sem_ret (seqK_r ?_))))))
  have e3 : addL l name foe until_ = ([], 1) := by
   unfold addL
   try dsimp only
   rewrite [if_neg g2]
   all_goals rfl
  rw [e3]
  exact answersGR [] [1] rfl ⟨trivial, trivial, trivial⟩ rfl (by (repeat' apply And.intro) <;> first | trivial | rfl | exact flat_len (fun _ => rfl) _ | exact encI_len _ | assumption) (rfl) rfl rfl rfl (by decide) rfl rfl ⟨⟨rfl, rfl⟩, trivial⟩
 ·have g2 : rightL l = true := (not_f h2)
  refine step_g1 rfl h2 (step_r rfl rfl trivial (step_g1 rfl h2 (step_call rfl rfl rfl rfl (nameC_ok name) rfl rfl rfl (step_g1 rfl h2 (step_r rfl rfl trivial (step_pickF rfl h2 rfl rfl (step_r rfl rfl trivial ?_)))))))
  refine step_gs rfl (fun h6 => ?_) (fun h6 => ?_)
  ·have g6 : ¬ (nameC name = true) := boo_f (not_t h6)
   refine step_g0 rfl h6 rfl (step_g0 rfl h6 rfl (step_pickT rfl h6 rfl rfl (step_nil (seqK_n (sem_condT rfl (sem_seq (sem_region rfl (step_n (nx' := 2) rfl rfl rfl trivial (step_r rfl rfl trivial (step_nil (seqK_n ?_)))))))))))
   refine sem_ret (seqK_r ?_)
   have e7 : addL l name foe until_ = ([], 1) := by
    unfold addL
    try dsimp only
    rewrite [if_pos g2, if_neg g6]
    all_goals rfl
   rw [e7]
   exact answersGR [] [1] rfl ⟨trivial, trivial, trivial⟩ rfl (by (repeat' apply And.intro) <;> first | trivial | rfl | exact flat_len (fun _ => rfl) _ | exact encI_len _ | assumption) (rfl) rfl rfl rfl (by decide) rfl rfl ⟨⟨rfl, rfl⟩, trivial⟩
  ·have g6 : nameC name = true := (not_f h6)
   refine step_g1 rfl h6 (step_r rfl rfl trivial (step_g1 rfl h6 (step_bin rfl rfl rfl rfl rfl trivial (step_pickF rfl h6 rfl rfl (step_nil (seqK_n ?_))))))
   refine sem_cond rfl (fun h10 => ?_) (fun h10 => ?_)
   ·have g10 : (foe : Int) < 1 := of_decide_eq_true h10
    refine sem_seq (sem_region rfl (step_n (nx' := 2) rfl rfl rfl trivial (step_r rfl rfl trivial (step_nil (seqK_n (sem_ret (seqK_r ?_)))))))
    have e11 : addL l name foe until_ = ([], 1) := by
     unfold addL
     try dsimp only
     rewrite [if_pos g2, if_pos g6, if_pos g10]
     all_goals rfl
    rw [e11]
    exact answersGR [] [1] rfl ⟨trivial, trivial, trivial⟩ rfl (by (repeat' apply And.intro) <;> first | trivial | rfl | exact flat_len (fun _ => rfl) _ | exact encI_len _ | assumption) (rfl) rfl rfl rfl (by decide) rfl rfl ⟨⟨rfl, rfl⟩, trivial⟩
   ·have g10 : ¬ ((foe : Int) < 1) := of_decide_eq_false h10
    refine sem_skip (seqK_n (sem_seq (sem_region rfl (step_r rfl rfl trivial ?_))))
    refine step_callN (out' := .ref 1 _ _ _) (H' := [(1, .row _ _ _), (0, _)]) (nx' := 2) rfl rfl rfl rfl rfl rfl rfl (by (repeat' apply And.intro) <;> first | trivial | rfl | exact flat_len (fun _ => rfl) _ | exact encI_len _ | exact encS_len _ | exact Nat.le_of_ble_eq_true rfl | assumption) (clone_GLock l false (by first | assumption | omega | (simp; omega) | simp_all)) rfl rfl rfl rfl ?_
    refine step_r rfl rfl trivial (step_nil (seqK_n (sem_seq (sem_region rfl (step_r rfl rfl trivial (step_r rfl rfl trivial (step_r rfl rfl trivial (step_r (v := (.agg [_, _, _])) rfl rfl trivial (step_n (o := .box [_, _, _]) (nx' := 3) rfl rfl rfl trivial ?_)))))))))
    refine step_storeB (H' := [(2, .box [_, _, _]), (1, _), (0, _)]) rfl rfl rfl rfl rfl rfl (.inl rfl) rfl ?_
    refine step_nil (seqK_n (sem_seq (sem_region rfl (step_r rfl rfl trivial (step_r (v := (.agg [_, _, _])) rfl rfl (Nat.le_of_ble_eq_true rfl) ?_)))))
    refine step_callJ (Hin := [.row _ _ _]) (out' := .tup [_, _]) (H' := [(2, _), (1, _), (0, _)]) (nx' := 3) [1] rfl rfl rfl rfl rfl rfl rfl rfl rfl (by (repeat' apply And.intro) <;> first | trivial | rfl | exact flat_len (s := 3) (enc := encGLock) (fun _ => rfl) _ | exact flat_len (fun _ => rfl) _ | exact encI_len _ | exact encS_len _ | exact Nat.le_of_ble_eq_true rfl | assumption) (bsL_ok l false (⟨name, foe, until_⟩ : GLock) (by first | omega | (simp only [IntKind.wrap_i64]; omega) | (simp only [IntKind.wrap_i64] at *; omega) | (simp; omega))) rfl (by decide) rfl rfl trivial rfl rfl rfl rfl ?_
    have p13 := bsL_b l (⟨name, foe, until_⟩ : GLock) (by first | omega | (simp only [IntKind.wrap_i64]; omega) | (simp only [IntKind.wrap_i64] at *; omega) | (simp; omega))
    refine step_r rfl rfl trivial (step_r rfl rfl trivial (step_r rfl rfl trivial (step_r rfl rfl trivial (step_r rfl rfl trivial (step_nil (seqK_n (sem_seq (sem_block (sem_seq (sem_region rfl (step_r rfl rfl trivial ?_)))))))))))
    refine step_r rfl rfl trivial (step_nil (seqK_n ?_))
    refine sem_cond rfl (fun h16 => ?_) (fun h16 => ?_)
    ·have g16 : (bsL l (⟨name, foe, until_⟩ : GLock)).2 = true := h16
     refine sem_seq (sem_region rfl (step_r rfl rfl trivial (step_r rfl rfl trivial (step_r rfl rfl trivial (step_r rfl rfl trivial ?_)))))
     have jk17 : ((bsL l (⟨name, foe, until_⟩ : GLock)).1).toNat < l.length := by first | assumption | omega | (simp only [List.length_set, List.length_append]; omega) | (simp only [IntKind.wrap_i64] at *; omega) | (simp; omega) | simp_all
     refine step_idxR' (k := ((bsL l (⟨name, foe, until_⟩ : GLock)).1).toNat) rfl rfl (Int.toNat_of_nonneg (by first | omega | (simp only [IntKind.wrap_i64]; omega) | (simp only [IntKind.wrap_i64] at *; omega) | (simp; omega))).symm rfl rfl jk17 rfl ?_
     refine step_r rfl rfl (by decide) ?_
     refine step_load_oneR rfl rfl rfl rfl (flat_get (s := 3) (enc := encGLock) (fun _ => rfl) (get_getD jk17) (o := 2) rfl (by decide)) rfl ?_
     refine step_r rfl rfl trivial ?_
     refine step_max rfl rfl rfl ?_
     refine step_idxR' (k := ((bsL l (⟨name, foe, until_⟩ : GLock)).1).toNat) rfl rfl (Int.toNat_of_nonneg (by first | omega | (simp only [IntKind.wrap_i64]; omega) | (simp only [IntKind.wrap_i64] at *; omega) | (simp; omega))).symm rfl rfl jk17 rfl ?_
     refine step_r rfl rfl (by decide) ?_
     refine step_storeR rfl rfl rfl rfl (by first | decide | (have := flat_lt (s := 3) (enc := encGLock) (fun _ => rfl) jk17; show (((bsL l (⟨name, foe, until_⟩ : GLock)).1).toNat) * 3 + 2 < _; omega)) (flat_set (enc := encGLock) (s := 3) (y := { (l.getD (((bsL l (⟨name, foe, until_⟩ : GLock)).1).toNat) default) with Until := (max ((l.getD (((bsL l (⟨name, foe, until_⟩ : GLock)).1).toNat) default).Until) until_) }) (fun _ => rfl) (get_getD jk17) (by decide) rfl) (.inl rfl) rfl ?_
     refine step_nil (seqK_n (sem_seq (sem_region rfl (step_r rfl rfl trivial (step_r rfl rfl trivial (step_r rfl rfl trivial (step_nil (seqK_n (sem_ret (blkK_r (seqK_r ?_)))))))))))
     have e18 : addL l name foe until_ = ((l.set ((bsL l (⟨name, foe, until_⟩ : GLock)).1).toNat { (l.getD (((bsL l (⟨name, foe, until_⟩ : GLock)).1).toNat) default) with Until := (max ((l.getD (((bsL l (⟨name, foe, until_⟩ : GLock)).1).toNat) default).Until) until_) }), 0) := by
      unfold addL
      try dsimp only
      rewrite [if_pos g2, if_pos g6, if_neg g10, if_pos g16]
      all_goals rfl
     rw [e18]
     try simp only [List.length_set]
     exact answersGR [] [1] rfl ⟨trivial, trivial, trivial⟩ rfl (by (repeat' apply And.intro) <;> first | trivial | rfl | exact flat_len (fun _ => rfl) _ | exact encI_len _ | assumption) (rfl) rfl rfl rfl (by decide) rfl rfl ⟨⟨rfl, rfl⟩, trivial⟩
    ·have g16 : ¬ ((bsL l (⟨name, foe, until_⟩ : GLock)).2 = true) := boo_f h16
     refine sem_seq (sem_region rfl (step_r rfl rfl trivial (step_r rfl rfl trivial (step_bin rfl rfl rfl rfl rfl trivial (step_r rfl rfl trivial (step_nil (seqK_n ?_)))))))
     refine sem_cond rfl (fun h20 => ?_) (fun h20 => ?_)
     ·have g20 : (l.length : Int) ≥ 200 := of_decide_eq_true h20
      refine sem_seq (sem_region rfl (step_n (nx' := 4) rfl rfl rfl trivial (step_r rfl rfl trivial (step_nil (seqK_n (sem_ret (blkK_r (seqK_r ?_))))))))
      have e21 : addL l name foe until_ = ([], 4) := by
       unfold addL
       try dsimp only
       rewrite [if_pos g2, if_pos g6, if_neg g10, if_neg g16, if_pos g20]
       all_goals rfl
      rw [e21]
      exact answersGR [] [3] rfl ⟨trivial, trivial, trivial⟩ rfl (by (repeat' apply And.intro) <;> first | trivial | rfl | exact flat_len (fun _ => rfl) _ | exact encI_len _ | assumption) (rfl) rfl rfl rfl (by decide) rfl rfl ⟨⟨rfl, rfl⟩, trivial⟩
     ·have g20 : ¬ ((l.length : Int) ≥ 200) := of_decide_eq_false h20
      refine sem_skip (blkK_n (seqK_n (sem_seq (sem_region rfl (step_r rfl rfl trivial (step_r rfl rfl trivial (step_r (v := (.agg [_, _, _])) rfl rfl (Nat.le_of_ble_eq_true rfl) (step_n (o := .row _ _ [_, _, _]) (nx' := 4) rfl rfl rfl (by decide) ?_))))))))
      refine step_callV (Hin := [.row _ _ _, .row _ _ _]) (out' := .ref 1 _ _ _) (H' := [(3, .row _ _ _), (2, .box [_, _, _]), (1, .row _ _ _), (0, .row _ _ _)]) (nx' := 4) [1, 3] rfl rfl rfl rfl (.inl rfl) rfl rfl rfl rfl (insertv_GLock l ((bsL l (⟨name, foe, until_⟩ : GLock)).1) ([(⟨name, foe, until_⟩ : GLock)]) (by first | omega | (simp only [IntKind.wrap_i64]; omega) | (simp only [IntKind.wrap_i64] at *; omega) | (simp; omega)) (by first | omega | (simp only [IntKind.wrap_i64]; omega) | (simp only [IntKind.wrap_i64] at *; omega) | (simp; omega)) (by first | omega | (simp only [IntKind.wrap_i64]; omega) | (simp only [IntKind.wrap_i64] at *; omega) | (simp; omega)) (by first | rfl | simp)) rfl (by decide) rfl rfl (.keep rfl (.keep rfl (.keep rfl (.keep rfl .nil)))) (.keep rfl (.keep rfl (.keep rfl (.lose (v' := .undef) rfl (.keep rfl (.keep rfl (.keep rfl (.lose (v' := .undef) rfl (.keep rfl (.keep rfl (.keep rfl (.keep rfl (.keep rfl (.keep rfl (.keep rfl (.keep rfl (.keep rfl (.lose (v' := .undef) rfl (.keep rfl (.keep rfl (.keep rfl (.keep rfl (.keep rfl (.lose (v' := .undef) rfl (.lose (v' := .undef) rfl (.keep rfl (.keep rfl (.keep rfl (.keep rfl (.keep rfl (.keep rfl (.keep rfl (.keep rfl (.keep rfl (.keep rfl (.keep rfl (.keep rfl (.keep rfl (.keep rfl (.keep rfl (.keep rfl (.keep rfl (.keep rfl (.keep rfl .nil)))))))))))))))))))))))))))))))))))))))))))) rfl rfl rfl rfl ?_
      refine step_r rfl rfl trivial (step_r rfl rfl trivial (step_nil (seqK_n (sem_ret ?_))))
      have e22 : addL l name foe until_ = ((l.take ((bsL l (⟨name, foe, until_⟩ : GLock)).1).toNat ++ (([(⟨name, foe, until_⟩ : GLock)]) ++ l.drop ((bsL l (⟨name, foe, until_⟩ : GLock)).1).toNat)), 0) := by
       unfold addL
       try dsimp only
       rewrite [if_pos g2, if_pos g6, if_neg g10, if_neg g16, if_neg g20]
       all_goals rfl
      rw [e22]
      exact answersGR [] [1] rfl ⟨trivial, trivial, trivial⟩ rfl (by (repeat' apply And.intro) <;> first | trivial | rfl | exact flat_len (fun _ => rfl) _ | exact encI_len _ | assumption) (rfl) rfl rfl rfl (by decide) rfl rfl ⟨⟨rfl, rfl⟩, trivial⟩

def lockIs (x_ : GLock) (c1 : List UInt8) (c2 : Int) : Bool :=
  if x_.Name = c1 then ((x_.Foe : Int) == c2) else false
theorem lockIs_ok (x_ : GLock) (c1 : List UInt8) (c2 : Int) : Ok Tryd.prog 37 [aGLock x_, .pptr [.str c1] 0, .pptr [i64 c2] 0] [] (B (lockIs x_ c1 c2)) [] [] := by
 refine ok_of_sem Tryd.func37 rfl ?_
 show Walks Tryd.prog _ _ ⟨[(0, aGLock x_), (1, .pptr [.str c1] 0), (2, .pptr [i64 c2] 0)], [], 0, [], 15, 0⟩
 refine sem_seq (sem_region rfl (step_n (o := .box [_, _, _]) (nx' := 1) rfl rfl rfl trivial (step_r rfl rfl trivial (step_nil (seqK_n (sem_seq (sem_region rfl (step_r rfl rfl (by decide) (step_r rfl rfl trivial (step_load_one rfl rfl rfl (rfl) rfl (step_bin rfl rfl rfl rfl rfl trivial ?_)))))))))))
 refine step_r rfl rfl trivial ?_
 refine step_gs rfl (fun h2 => ?_) (fun h2 => ?_)
 ·have g2 : x_.Name = c1 := beq_t h2
  refine step_g1 rfl h2 (step_r rfl rfl (by decide) (step_g1 rfl h2 (step_r rfl rfl trivial (step_g1 rfl h2 (step_load_one rfl rfl rfl (rfl) rfl (step_g1 rfl h2 (step_bin rfl rfl rfl rfl rfl trivial (step_pickT rfl h2 rfl rfl (step_r rfl rfl trivial (step_nil (seqK_n ?_)))))))))))
  refine sem_ret ?_
  have e4 : lockIs x_ c1 c2 = ((x_.Foe : Int) == c2) := by
   unfold lockIs
   try dsimp only
   rewrite [if_pos g2]
   all_goals rfl
  rw [e4]
  exact answersR rfl ⟨trivial, trivial⟩ (rfl) rfl
 ·have g2 : ¬ (x_.Name = c1) := beq_f h2
  refine step_g0 rfl h2 rfl (step_g0 rfl h2 rfl (step_g0 rfl h2 rfl (step_g0 rfl h2 rfl (step_pickF rfl h2 rfl rfl (step_r rfl rfl trivial (step_nil (seqK_n (sem_ret ?_))))))))
  have e5 : lockIs x_ c1 c2 = false := by
   unfold lockIs
   try dsimp only
   rewrite [if_neg g2]
   all_goals rfl
  rw [e5]
  exact answersR rfl ⟨trivial, trivial⟩ (rfl) rfl

def untilL (l : List GLock) (name : List UInt8) (foe : Int) (now : Int) : Int × Bool :=
  if (fidx (fun x_ => lockIs x_ name foe) l : Int) < 0 then (0, false) else if ((l.getD ((fidx (fun x_ => lockIs x_ name foe) l).toNat) default).Until : Int) ≤ now then (0, false) else ((l.getD ((fidx (fun x_ => lockIs x_ name foe) l).toNat) default).Until, true)
theorem untilL_ok (l : List GLock) (l_f : Bool) (name : List UInt8) (foe : Int) (now : Int) : Ok Tryd.prog 11 [.pv (.slc l.length l_f (l.flatMap encGLock)), .pv (.str name), I foe, I now] [] (.tup [I (untilL l name foe now).1, B (untilL l name foe now).2]) [] [] := by
 refine Ok.len fun hlen => ?_
 have hl_l : l.length ≤ maxLen := hlen _ (by simp [lensL, lens, lensP])
 unfold maxLen at hl_l
 refine ok_of_sem Tryd.func11 rfl ?_
 show Walks Tryd.prog _ _ ⟨[(0, .pv (.slc l.length l_f (l.flatMap encGLock))), (1, .pv (.str name)), (2, I foe), (3, I now)], [], 0, [], 30, 0⟩
 refine sem_seq (sem_region rfl (step_n (o := .box [_]) (nx' := 1) rfl rfl rfl trivial (step_n (o := .box [_]) (nx' := 2) rfl rfl rfl trivial (step_r rfl rfl trivial (step_r rfl rfl trivial (step_nil (seqK_n (sem_seq (sem_region rfl (step_r rfl rfl trivial (step_r rfl rfl trivial ?_)))))))))))
 refine step_callJ (Hin := [.box [.pv _], .box [.pv _]]) (H' := [(1, _), (0, _)]) (nx' := 2) [0, 1] rfl rfl rfl rfl rfl rfl rfl rfl rfl (by (repeat' apply And.intro) <;> first | trivial | rfl | exact flat_len (fun _ => rfl) _ | exact encI_len _ | exact encS_len _ | exact Nat.le_of_ble_eq_true rfl | assumption) (ixf_GLock l false 37 [.pptr [(.str name)] 0, .pptr [i64 foe] 0] (fun x_ => lockIs x_ name foe) ⟨rfl, rfl, fun _ => rfl, fun _ => rfl, fun x_ => lockIs_ok x_ name foe⟩) rfl (by decide) rfl rfl trivial rfl rfl rfl rfl ?_
 have p1 := fidx_lt (fun x_ => lockIs x_ name foe) l
 refine step_r rfl rfl trivial (step_nil (seqK_n (sem_seq (sem_seq (sem_region rfl (step_r rfl rfl trivial (step_bin rfl rfl rfl rfl rfl trivial (step_r rfl rfl trivial ?_))))))))
 refine step_gs rfl (fun h4 => ?_) (fun h4 => ?_)
 ·have g4 : (fidx (fun x_ => lockIs x_ name foe) l : Int) < 0 := of_decide_eq_true h4
  refine step_g0 rfl h4 rfl (step_g0 rfl h4 rfl (step_g0 rfl h4 rfl (step_g0 rfl h4 rfl (step_g0 rfl h4 rfl (step_g0 rfl h4 rfl (step_g0 rfl h4 rfl (step_pickT rfl h4 rfl rfl (step_nil (seqK_n (sem_condT rfl (sem_seq ?_)))))))))))
  refine sem_region rfl (step_r rfl rfl trivial (step_r rfl rfl trivial (step_nil (seqK_n (sem_ret (seqK_r ?_))))))
  have e5 : untilL l name foe now = (0, false) := by
   unfold untilL
   try dsimp only
   rewrite [if_pos g4]
   all_goals rfl
  rw [e5]
  exact answersR rfl ⟨trivial, trivial, trivial⟩ (rfl) rfl
 ·have g4 : ¬ ((fidx (fun x_ => lockIs x_ name foe) l : Int) < 0) := of_decide_eq_false h4
  refine step_g1 rfl h4 (step_r rfl rfl trivial (step_g1 rfl h4 (step_r rfl rfl trivial (step_g1 rfl h4 ?_))))
  have jk6 : (fidx (fun x_ => lockIs x_ name foe) l).toNat < l.length := by first | assumption | omega | (simp only [List.length_set, List.length_append]; omega) | (simp only [IntKind.wrap_i64] at *; omega) | (simp; omega) | simp_all
  refine step_idxS' (k := (fidx (fun x_ => lockIs x_ name foe) l).toNat) rfl rfl (Int.toNat_of_nonneg (by first | omega | (simp only [IntKind.wrap_i64]; omega) | (simp only [IntKind.wrap_i64] at *; omega) | (simp; omega))).symm rfl rfl jk6 (flat_ne (s := 3) (enc := encGLock) (fun _ => rfl) (by decide) jk6) rfl ?_
  refine step_g1 rfl h4 (step_r rfl rfl (by decide) (step_g1 rfl h4 (step_load_one rfl rfl rfl (flat_get (s := 3) (enc := encGLock) (fun _ => rfl) (get_getD jk6) (o := 2) rfl (by decide)) rfl (step_g1 rfl h4 (step_r rfl rfl trivial (step_g1 rfl h4 (step_bin rfl rfl rfl rfl rfl trivial (step_pickF rfl h4 rfl rfl (step_nil (seqK_n ?_))))))))))
  refine sem_cond rfl (fun h9 => ?_) (fun h9 => ?_)
  ·have g9 : ((l.getD ((fidx (fun x_ => lockIs x_ name foe) l).toNat) default).Until : Int) ≤ now := of_decide_eq_true h9
   refine sem_seq (sem_region rfl (step_r rfl rfl trivial (step_r rfl rfl trivial (step_nil (seqK_n (sem_ret (seqK_r ?_)))))))
   have e10 : untilL l name foe now = (0, false) := by
    unfold untilL
    try dsimp only
    rewrite [if_neg g4, if_pos g9]
    all_goals rfl
   rw [e10]
   exact answersR rfl ⟨trivial, trivial, trivial⟩ (rfl) rfl
  ·have g9 : ¬ (((l.getD ((fidx (fun x_ => lockIs x_ name foe) l).toNat) default).Until : Int) ≤ now) := of_decide_eq_false h9
   refine sem_skip (seqK_n (sem_seq (sem_region rfl (step_r rfl rfl trivial (step_r rfl rfl trivial ?_)))))
   refine step_idxS' (k := (fidx (fun x_ => lockIs x_ name foe) l).toNat) rfl rfl (Int.toNat_of_nonneg (by first | omega | (simp only [IntKind.wrap_i64]; omega) | (simp only [IntKind.wrap_i64] at *; omega) | (simp; omega))).symm rfl rfl jk6 (flat_ne (s := 3) (enc := encGLock) (fun _ => rfl) (by decide) jk6) rfl ?_
   refine step_r rfl rfl (by decide) (step_load_one rfl rfl rfl (flat_get (s := 3) (enc := encGLock) (fun _ => rfl) (get_getD jk6) (o := 2) rfl (by decide)) rfl (step_r rfl rfl trivial (step_r rfl rfl trivial (step_nil (seqK_n (sem_ret ?_))))))
   have e12 : untilL l name foe now = ((l.getD ((fidx (fun x_ => lockIs x_ name foe) l).toNat) default).Until, true) := by
    unfold untilL
    try dsimp only
    rewrite [if_neg g4, if_neg g9]
    all_goals rfl
   rw [e12]
   exact answersR rfl ⟨trivial, trivial, trivial⟩ (rfl) rfl

def ofL_L0 (name : List UInt8) (now : Int) : List GLock → Nat → (List Int) → List Int
  | [], k0, out0 => out0
  | x0 :: l_, k0, out0 => if x0.Name = name then (if (x0.Until : Int) > now then ofL_L0 name now l_ (k0 + 1) (out0 ++ [x0.Foe]) else ofL_L0 name now l_ (k0 + 1) out0) else ofL_L0 name now l_ (k0 + 1) out0
def ofL (l : List GLock) (name : List UInt8) (now : Int) : List Int :=
  (let out_0 := ofL_L0 name now l 0 ([]); out_0)
theorem ofL_ok (l : List GLock) (l_f : Bool) (name : List UInt8) (now : Int) (hl : l.length ≤ 16777000) : Ok Tryd.prog 19 [.pv (.slc l.length l_f (l.flatMap encGLock)), .pv (.str name), I now] [] (.ref 0 1 0 (ofL l name now).length) [.row 3 1 (encI (ofL l name now))] [] := by
 refine Ok.len fun hlen => ?_
 have hl_l : l.length ≤ maxLen := hlen _ (by simp [lensL, lens, lensP])
 unfold maxLen at hl_l
 refine ok_of_sem Tryd.func19 rfl ?_
 show Walks Tryd.prog _ _ ⟨[(0, .pv (.slc l.length l_f (l.flatMap encGLock))), (1, .pv (.str name)), (2, I now)], [], 0, [], 33, 0⟩
 refine sem_seq (sem_region rfl (step_n (nx' := 1) rfl rfl rfl trivial (step_nil (seqK_n (sem_seq (sem_region rfl (step_n (nx' := 2) rfl rfl rfl trivial (step_nil (seqK_n (sem_seq (sem_seq ?_)))))))))))
 refine sem_region rfl (step_r rfl rfl trivial (step_r rfl rfl trivial (step_r rfl rfl trivial (step_nil (seqK_n ?_)))))
 refine sem_cutW (fun out_0 : List Int => (⟨[(7, .ref 0 1 0 out_0.length)], [(0, .row 3 1 (encI out_0))], 1, [], 33, 0⟩ : St)) (fun w_ => ofL_L0 name now l 0 ([]) = w_) ?_ ?_
 ·refine sem_block ?_
  refine sem_loopT (fun w_ : Nat × (List Int) => match w_ with | (k0, out0) => (⟨[(1, .pv (.str name)), (2, I now), (7, .ref 0 1 0 out0.length), (10, .pv (.slc l.length l_f (l.flatMap encGLock))), (11, I l.length), (12, I k0)], [(0, .row 3 1 (encI out0))], 1, [], 33, 0⟩ : St)) (fun w_ : Nat × (List Int) => match w_ with | (k0, out0) => ofL_L0 name now (l.drop k0) k0 out0 = ofL_L0 name now l 0 ([]) ∧ k0 ≤ l.length ∧ out0.length ≤ k0) (fun w_ : Nat × (List Int) => match w_ with | (k0, out0) => l.length - k0) (0, []) (⟨rfl, Nat.zero_le _, by first | omega | simp | (simp; omega)⟩) ?_ (fun w_ hh_ => ?_)
  ·exact (Trans.ren [(0, 1), (1, 0)] (by decide +kernel) (by decide +kernel) rfl ⟨⟨rfl, rfl⟩, ⟨rfl, rfl⟩, ⟨congrArg (fun n => some (AV.ref 1 1 0 n)) (by first | rfl | simp only [List.length_set] | simp | omega | (simp; omega)), rfl⟩, ⟨rfl, rfl⟩, ⟨rfl, rfl⟩, ⟨rfl, rfl⟩, trivial⟩ ⟨⟨rfl, rfl, rfl⟩, trivial⟩ (by decide))
  obtain ⟨k0, out0⟩ := w_
  obtain ⟨hI0, hb0, hv0⟩ := hh_
  show Walks Tryd.prog _ _ (⟨[(1, .pv (.str name)), (2, I now), (7, .ref 0 1 0 out0.length), (10, .pv (.slc l.length l_f (l.flatMap encGLock))), (11, I l.length), (12, I k0)], [(0, .row 3 1 (encI out0))], 1, [], 33, 0⟩ : St)
  refine sem_seq (sem_region rfl (step_bin rfl rfl rfl rfl rfl trivial (step_nil (seqK_n (sem_seq ?_)))))
  refine sem_cond rfl (fun h2 => ?_) (fun h2 => ?_)
  ·have g2 : (k0 : Int) < l.length := of_decide_eq_true h2
   have hk0 : k0 < l.length := by omega
   obtain ⟨x0, hx0⟩ : ∃ z_, l[k0]? = some z_ := ⟨_, List.getElem?_eq_getElem hk0⟩
   refine sem_skip (seqK_n (sem_seq (sem_block (sem_seq (sem_region rfl (step_idxS (k := k0) rfl rfl rfl rfl hk0 (flat_ne (s := 3) (enc := encGLock) (fun _ => rfl) (by decide) hk0) rfl (step_load_row rfl rfl rfl (flat_lt (s := 3) (enc := encGLock) (fun _ => rfl) hk0) (flat_take (s := 3) (enc := encGLock) (fun _ => rfl) hx0) rfl (step_n (o := .box [_, _, _]) (nx' := 2) rfl rfl rfl trivial ?_))))))))
   refine step_storeB (H' := [(1, .box [_, _, _]), (0, _)]) rfl rfl rfl rfl rfl rfl (.inl rfl) rfl ?_
   refine step_nil (seqK_n (sem_seq (sem_region rfl (step_r rfl rfl (by decide) (step_r rfl rfl trivial (step_r rfl rfl trivial (step_bin rfl rfl rfl rfl rfl trivial (step_r rfl rfl trivial ?_))))))))
   refine step_gs rfl (fun h5 => ?_) (fun h5 => ?_)
   ·have g5 : x0.Name = name := beq_t h5
    refine step_g1 rfl h5 (step_r rfl rfl (by decide) (step_g1 rfl h5 (step_r rfl rfl trivial (step_g1 rfl h5 (step_r rfl rfl trivial (step_g1 rfl h5 (step_bin rfl rfl rfl rfl rfl trivial (step_pickT rfl h5 rfl rfl (step_nil (seqK_n ?_))))))))))
    refine sem_cond rfl (fun h8 => ?_) (fun h8 => ?_)
    ·have g8 : (x0.Until : Int) > now := of_decide_eq_true h8
     refine sem_region rfl (step_r rfl rfl trivial (step_r rfl rfl (by decide) (step_r rfl rfl trivial (step_n (o := .row _ _ [_]) (nx' := 3) rfl rfl rfl (by decide) ?_))))
     refine step_appendC (m := 1) (new := [_]) (cs' := encI (out0 ++ [x0.Foe])) (n' := (out0 ++ [x0.Foe]).length) (H' := [(2, .row _ _ _), (1, .box [_, _, _]), (0, .row _ _ _)]) rfl rfl rfl (rfl) rfl rfl rfl rfl rfl rfl (encI_len out0) (rfl) (by first | decide | (unfold maxGrow; omega) | (unfold maxGrow; simp; omega) | (unfold maxGrow; simp only [List.length_append, List.length_take, List.length_drop, List.length_cons, List.length_nil, IntKind.wrap_i64] at *; omega)) (len_snoc out0 _) (((encI_snoc out0 x0.Foe)).symm) (.inl rfl) rfl rfl (.keep rfl (.keep rfl (.keep rfl .nil))) (.keep rfl (.keep rfl (.keep rfl (.lose (v' := .undef) rfl (.keep rfl (.keep rfl (.keep rfl (.keep rfl (.keep rfl (.keep rfl (.keep rfl (.keep rfl (.keep rfl (.keep rfl (.keep rfl (.keep rfl (.keep rfl (.keep rfl (.keep rfl (.keep rfl (.lose (v' := .undef) rfl (.keep rfl (.keep rfl (.keep rfl .nil)))))))))))))))))))))))) ?_
     refine step_r rfl rfl trivial (step_nil (blkK_n (seqK_n (sem_region rfl (step_bin rfl rfl rfl rfl rfl trivial (step_r rfl rfl trivial (step_nil ?_)))))))
     have e10 : ofL_L0 name now (l.drop k0) k0 out0 = ofL_L0 name now (l.drop (k0 + 1)) (k0 + 1) (out0 ++ [x0.Foe]) := by
      rewrite [drop_cons hx0]
      rewrite [ofL_L0]
      try dsimp only
      rewrite [if_pos g5, if_pos g8]
      all_goals rfl
     exact lup_againT (k0 + 1, (out0 ++ [x0.Foe])) ⟨e10.symm.trans hI0, hk0, by first | omega | assumption | (simp only [List.length_append, List.length_cons, List.length_nil, List.length_set]; omega) | (simp; omega) | grind⟩ (by show l.length - (k0 + 1) < l.length - k0; omega) (Trans.ren [] (by decide +kernel) (by decide +kernel) rfl ⟨⟨rfl, rfl⟩, ⟨rfl, rfl⟩, ⟨rfl, rfl⟩, ⟨rfl, rfl⟩, ⟨rfl, rfl⟩, ⟨congrArg (fun n => some (I n)) (wrapI (k := k0) (by first | omega | (simp; omega))), rfl⟩, trivial⟩ ⟨⟨rfl, rfl, rfl⟩, trivial⟩ (by decide))
    ·have g8 : ¬ ((x0.Until : Int) > now) := of_decide_eq_false h8
     refine sem_skip (blkK_n (seqK_n (sem_region rfl (step_bin rfl rfl rfl rfl rfl trivial (step_r rfl rfl trivial (step_nil ?_))))))
     have e12 : ofL_L0 name now (l.drop k0) k0 out0 = ofL_L0 name now (l.drop (k0 + 1)) (k0 + 1) out0 := by
      rewrite [drop_cons hx0]
      rewrite [ofL_L0]
      try dsimp only
      rewrite [if_pos g5, if_neg g8]
      all_goals rfl
     exact lup_againT (k0 + 1, out0) ⟨e12.symm.trans hI0, hk0, by first | omega | assumption | (simp only [List.length_append, List.length_cons, List.length_nil, List.length_set]; omega) | (simp; omega) | grind⟩ (by show l.length - (k0 + 1) < l.length - k0; omega) (Trans.ren [] (by decide +kernel) (by decide +kernel) rfl ⟨⟨rfl, rfl⟩, ⟨rfl, rfl⟩, ⟨rfl, rfl⟩, ⟨rfl, rfl⟩, ⟨rfl, rfl⟩, ⟨congrArg (fun n => some (I n)) (wrapI (k := k0) (by first | omega | (simp; omega))), rfl⟩, trivial⟩ ⟨⟨rfl, rfl, rfl⟩, trivial⟩ (by decide))
   ·have g5 : ¬ (x0.Name = name) := beq_f h5
    refine step_g0 rfl h5 rfl (step_g0 rfl h5 rfl (step_g0 rfl h5 rfl (step_g0 rfl h5 rfl (step_pickF rfl h5 rfl rfl (step_nil (seqK_n (sem_condF rfl (sem_skip (blkK_n (seqK_n (sem_region rfl ?_)))))))))))
    refine step_bin rfl rfl rfl rfl rfl trivial (step_r rfl rfl trivial (step_nil ?_))
    have e14 : ofL_L0 name now (l.drop k0) k0 out0 = ofL_L0 name now (l.drop (k0 + 1)) (k0 + 1) out0 := by
     rewrite [drop_cons hx0]
     rewrite [ofL_L0]
     try dsimp only
     rewrite [if_neg g5]
     all_goals rfl
    exact lup_againT (k0 + 1, out0) ⟨e14.symm.trans hI0, hk0, by first | omega | assumption | (simp only [List.length_append, List.length_cons, List.length_nil, List.length_set]; omega) | (simp; omega) | grind⟩ (by show l.length - (k0 + 1) < l.length - k0; omega) (Trans.ren [] (by decide +kernel) (by decide +kernel) rfl ⟨⟨rfl, rfl⟩, ⟨rfl, rfl⟩, ⟨rfl, rfl⟩, ⟨rfl, rfl⟩, ⟨rfl, rfl⟩, ⟨congrArg (fun n => some (I n)) (wrapI (k := k0) (by first | omega | (simp; omega))), rfl⟩, trivial⟩ ⟨⟨rfl, rfl, rfl⟩, trivial⟩ (by decide))
  ·have g2 : ¬ ((k0 : Int) < l.length) := of_decide_eq_false h2
   have hk0 : k0 = l.length := by omega
   refine sem_exit (seqK_e (lupK_e (blkK_t rfl ?_)))
   have e15 : ofL_L0 name now l 0 ([]) = out0 := by
    rewrite [← hI0, hk0, List.drop_length]
    rewrite [ofL_L0]
    try dsimp only
    all_goals rfl
   exact cutW_n out0 e15 (Trans.ren [] (by decide +kernel) (by decide +kernel) rfl ⟨⟨rfl, rfl⟩, trivial⟩ ⟨⟨rfl, rfl, rfl⟩, trivial⟩ (by decide))
 ·rintro out_0 (hJ1 : ofL_L0 name now l 0 ([]) = out_0)
  show seqK _ _ _ .normal (⟨[(7, .ref 0 1 0 out_0.length)], [(0, .row 3 1 (encI out_0))], 1, [], 33, 0⟩ : St)
  refine seqK_n (sem_seq (sem_region rfl (step_r rfl rfl trivial (step_r rfl rfl trivial (step_nil (seqK_n (sem_ret ?_)))))))
  have e16 : ofL l name now = out_0 := by
   unfold ofL
   try dsimp only
   rewrite [hJ1]
   try dsimp only
   all_goals rfl
  rw [e16]
  exact answersGR [] [0] rfl ⟨trivial, trivial⟩ rfl (by (repeat' apply And.intro) <;> first | trivial | rfl | exact flat_len (fun _ => rfl) _ | exact encI_len _ | assumption) (rfl) rfl rfl rfl (by decide) rfl rfl ⟨⟨rfl, rfl⟩, trivial⟩

def overL (x_ : GLock) (c1 : Int) : Bool :=
  (decide ((x_.Until : Int) ≤ c1))
theorem overL_ok (x_ : GLock) (c1 : Int) : Ok Tryd.prog 39 [aGLock x_, .pptr [i64 c1] 0] [] (B (overL x_ c1)) [] [] := by
 refine ok_of_sem Tryd.func39 rfl ?_
 show Walks Tryd.prog _ _ ⟨[(0, aGLock x_), (1, .pptr [i64 c1] 0)], [], 0, [], 8, 0⟩
 refine sem_seq (sem_region rfl (step_n (o := .box [_, _, _]) (nx' := 1) rfl rfl rfl trivial (step_r rfl rfl trivial (step_nil (seqK_n (sem_seq (sem_region rfl (step_r rfl rfl (by decide) (step_r rfl rfl trivial (step_load_one rfl rfl rfl (rfl) rfl (step_bin rfl rfl rfl rfl rfl trivial ?_)))))))))))
 refine step_r rfl rfl trivial (step_nil (seqK_n (sem_ret ?_)))
 have e2 : overL x_ c1 = (decide ((x_.Until : Int) ≤ c1)) := by
  unfold overL
  try dsimp only
  all_goals rfl
 rw [e2]
 exact answersR rfl ⟨trivial, trivial⟩ (rfl) rfl

def cleanL (l : List GLock) (now : Int) : List GLock :=
  (l.filter (fun x => !(fun x_ => overL x_ now) x))
theorem cleanL_ok (l : List GLock) (l_f : Bool) (now : Int) (hl : l.length ≤ 16777000) : Ok Tryd.prog 13 [.pv (.slc l.length l_f (l.flatMap encGLock)), I now] [] (.ref 0 3 0 (cleanL l now).length) [.row 24 3 ((cleanL l now).flatMap encGLock)] [] := by
 refine Ok.len fun hlen => ?_
 have hl_l : l.length ≤ maxLen := hlen _ (by simp [lensL, lens, lensP])
 unfold maxLen at hl_l
 refine ok_of_sem Tryd.func13 rfl ?_
 show Walks Tryd.prog _ _ ⟨[(0, .pv (.slc l.length l_f (l.flatMap encGLock))), (1, I now)], [], 0, [], 9, 0⟩
 refine sem_seq (sem_region rfl (step_n (o := .box [_]) (nx' := 1) rfl rfl rfl trivial (step_n (nx' := 2) rfl rfl rfl trivial (step_nil (seqK_n (sem_seq ?_))))))
 refine sem_regionS rfl (opsS_cut 3 (j := 0) ?_)
 simp only [List.take_succ_cons, List.take_zero, List.drop_succ_cons, List.drop_zero]
 refine step_r rfl rfl trivial ?_
 refine step_callN (out' := .ref 2 _ _ _) (H' := [(2, .row _ _ _), (1, _), (0, _)]) (nx' := 3) rfl rfl rfl rfl rfl rfl rfl (by (repeat' apply And.intro) <;> first | trivial | rfl | exact flat_len (fun _ => rfl) _ | exact encI_len _ | exact encS_len _ | exact Nat.le_of_ble_eq_true rfl | assumption) (clone_GLock l false (by first | assumption | omega | (simp; omega) | simp_all)) rfl rfl rfl rfl ?_
 refine step_r rfl rfl trivial (step_nil ?_)
 refine opsS_trans (Trans.freezeJ (T' := [(0, .pv (.slc l.length false (l.flatMap encGLock))), (1, I now), (3, .pptr [i64 now] 0), (4, .ref 1 3 0 0), (5, .pv (.slc l.length false (l.flatMap encGLock))), (6, .ref 2 3 0 l.length), (7, .fnc 39 [.pptr [i64 now] 0])]) (H' := [(2, .row 24 3 (l.flatMap encGLock)), (1, .row 24 3 [])]) [0] (by decide) ⟨⟨_, _, rfl, rfl, (by (repeat' apply And.intro) <;> first | trivial | rfl | exact flat_len (fun _ => rfl) _ | exact encI_len _ | exact encS_len _ | exact Nat.le_of_ble_eq_true rfl | assumption)⟩, ⟨_, _, rfl, rfl, (by (repeat' apply And.intro) <;> first | trivial | rfl | exact flat_len (fun _ => rfl) _ | exact encI_len _ | exact encS_len _ | exact Nat.le_of_ble_eq_true rfl | assumption)⟩, ⟨_, _, rfl, rfl, (by (repeat' apply And.intro) <;> first | trivial | rfl | exact flat_len (fun _ => rfl) _ | exact encI_len _ | exact encS_len _ | exact Nat.le_of_ble_eq_true rfl | assumption)⟩, ⟨_, _, rfl, rfl, (by (repeat' apply And.intro) <;> first | trivial | rfl | exact flat_len (fun _ => rfl) _ | exact encI_len _ | exact encS_len _ | exact Nat.le_of_ble_eq_true rfl | assumption)⟩, ⟨_, _, rfl, rfl, (by (repeat' apply And.intro) <;> first | trivial | rfl | exact flat_len (fun _ => rfl) _ | exact encI_len _ | exact encS_len _ | exact Nat.le_of_ble_eq_true rfl | assumption)⟩, ⟨_, _, rfl, rfl, (by (repeat' apply And.intro) <;> first | trivial | rfl | exact flat_len (fun _ => rfl) _ | exact encI_len _ | exact encS_len _ | exact Nat.le_of_ble_eq_true rfl | assumption)⟩, ⟨_, _, rfl, rfl, (by (repeat' apply And.intro) <;> first | trivial | rfl | exact flat_len (fun _ => rfl) _ | exact encI_len _ | exact encS_len _ | exact Nat.le_of_ble_eq_true rfl | assumption)⟩, trivial⟩ ⟨⟨rfl, _, _, rfl, rfl, (by (repeat' apply And.intro) <;> first | trivial | rfl | exact flat_len (fun _ => rfl) _ | exact encI_len _ | exact encS_len _ | exact Nat.le_of_ble_eq_true rfl | assumption)⟩, ⟨rfl, _, _, rfl, rfl, (by (repeat' apply And.intro) <;> first | trivial | rfl | exact flat_len (fun _ => rfl) _ | exact encI_len _ | exact encS_len _ | exact Nat.le_of_ble_eq_true rfl | assumption)⟩, trivial⟩) ?_
 refine opsS_of (j := 3) ?_
 refine step_callM (Hin := [.row _ _ _]) (out' := .ref 2 _ _ _) (H' := [(2, .row _ _ _), (1, .row _ _ _)]) (nx' := 3) [2] rfl rfl rfl rfl (.inl rfl) rfl rfl rfl rfl (delf_GLock l 39 [.pptr [i64 now] 0] (fun x_ => overL x_ now) ⟨rfl, rfl, fun _ => rfl, fun _ => rfl, fun x_ => overL_ok x_ now⟩ (by first | omega | (simp only [IntKind.wrap_i64]; omega) | (simp only [IntKind.wrap_i64] at *; omega) | (simp; omega))) rfl (by decide) rfl rfl rfl rfl rfl ?_
 refine step_r rfl rfl trivial (step_nil (seqK_n (sem_ret ?_)))
 have e1 : cleanL l now = (l.filter (fun x => !(fun x_ => overL x_ now) x)) := by
  unfold cleanL
  try dsimp only
  all_goals rfl
 rw [e1]
 exact answersGR [] [2] rfl ⟨trivial, trivial⟩ rfl (by (repeat' apply And.intro) <;> first | trivial | rfl | exact flat_len (fun _ => rfl) _ | exact encI_len _ | assumption) (rfl) rfl rfl rfl (by decide) rfl rfl ⟨⟨rfl, rfl⟩, trivial⟩

def lockedL (name : List UInt8) (c1 : List GLock) (c2 : Int) (c3 : Int) : Bool :=
  (untilL c1 name c2 c3).2
theorem lockedL_ok (name : List UInt8) (c1 : List GLock) (c1_f : Bool) (c2 : Int) (c3 : Int) : Ok Tryd.prog 42 [.pv (.str name), .pptr [.slc c1.length c1_f (c1.flatMap encGLock)] 0, .pptr [i64 c2] 0, .pptr [i64 c3] 0] [] (B (lockedL name c1 c2 c3)) [] [] := by
 refine ok_of_sem Tryd.func42 rfl ?_
 show Walks Tryd.prog _ _ ⟨[(0, .pv (.str name)), (1, .pptr [.slc c1.length c1_f (c1.flatMap encGLock)] 0), (2, .pptr [i64 c2] 0), (3, .pptr [i64 c3] 0)], [], 0, [], 17, 0⟩
 refine sem_seq (sem_region rfl (step_r rfl rfl trivial (step_nil (seqK_n (sem_seq (sem_region rfl (step_load_one rfl rfl rfl (rfl) rfl (step_r rfl rfl trivial (step_load_one rfl rfl rfl (rfl) rfl (step_load_one rfl rfl rfl (rfl) rfl (step_call rfl rfl rfl rfl (untilL_ok c1 c1_f name c2 c3) rfl rfl rfl ?_)))))))))))
 refine step_r rfl rfl trivial (step_r rfl rfl trivial (step_r rfl rfl trivial (step_r rfl rfl trivial (step_r rfl rfl trivial (step_nil (seqK_n (sem_seq (sem_region rfl (step_r rfl rfl trivial (step_r rfl rfl trivial (step_nil ?_)))))))))))
 refine seqK_n (sem_ret ?_)
 have e4 : lockedL name c1 c2 c3 = (untilL c1 name c2 c3).2 := by
  unfold lockedL
  try dsimp only
  all_goals rfl
 rw [e4]
 exact answersR rfl ⟨trivial, trivial⟩ (rfl) rfl

def freeL (l : List GLock) (names : List ((List UInt8))) (foe : Int) (now : Int) : List (List UInt8) :=
  (names.filter (fun x => !(fun x_ => lockedL x_ l foe now) x))
theorem freeL_ok (l : List GLock) (l_f : Bool) (names : List ((List UInt8))) (names_f : Bool) (foe : Int) (now : Int) (hl : names.length ≤ 16777000) : Ok Tryd.prog 22 [.pv (.slc l.length l_f (l.flatMap encGLock)), .pv (.slc names.length names_f (encS names)), I foe, I now] [] (.ref 0 1 0 (freeL l names foe now).length) [.row 9 1 (encS (freeL l names foe now))] [] := by
 refine Ok.len fun hlen => ?_
 have hl_l : l.length ≤ maxLen := hlen _ (by simp [lensL, lens, lensP])
 have hl_names : names.length ≤ maxLen := hlen _ (by simp [lensL, lens, lensP])
 unfold maxLen at hl_l hl_names
 refine ok_of_sem Tryd.func22 rfl ?_
 show Walks Tryd.prog _ _ ⟨[(0, .pv (.slc l.length l_f (l.flatMap encGLock))), (1, .pv (.slc names.length names_f (encS names))), (2, I foe), (3, I now)], [], 0, [], 13, 0⟩
 refine sem_seq (sem_region rfl (step_n (o := .box [_]) (nx' := 1) rfl rfl rfl trivial (step_n (o := .box [_]) (nx' := 2) rfl rfl rfl trivial (step_n (o := .box [_]) (nx' := 3) rfl rfl rfl trivial (step_n (nx' := 4) rfl rfl rfl trivial (step_nil (seqK_n (sem_seq ?_))))))))
 refine sem_regionS rfl (opsS_cut 3 (j := 0) ?_)
 simp only [List.take_succ_cons, List.take_zero, List.drop_succ_cons, List.drop_zero]
 refine step_r rfl rfl trivial ?_
 refine step_callN (out' := .ref 4 _ _ _) (H' := [(4, .row _ _ _), (3, _), (2, _), (1, _), (0, _)]) (nx' := 5) rfl rfl rfl rfl rfl rfl rfl (by (repeat' apply And.intro) <;> first | trivial | rfl | exact flat_len (fun _ => rfl) _ | exact encI_len _ | exact encS_len _ | exact Nat.le_of_ble_eq_true rfl | assumption) (clone_LUInt8 names false (by first | assumption | omega | (simp; omega) | simp_all)) rfl rfl rfl rfl ?_
 refine step_r rfl rfl trivial (step_nil ?_)
 refine opsS_trans (Trans.freezeJ (T' := [(0, .pv (.slc l.length false (l.flatMap encGLock))), (1, .pv (.slc names.length false (encS names))), (2, I foe), (3, I now), (4, .pptr [(.slc l.length l_f (l.flatMap encGLock))] 0), (6, .pptr [i64 foe] 0), (7, .pptr [i64 now] 0), (8, .ref 3 1 0 0), (9, .pv (.slc names.length false (encS names))), (10, .ref 4 1 0 names.length), (11, .fnc 42 [.pptr [(.slc l.length l_f (l.flatMap encGLock))] 0, .pptr [i64 foe] 0, .pptr [i64 now] 0])]) (H' := [(4, .row 9 1 (encS names)), (3, .row 9 1 [])]) [0, 1, 2] (by decide) ⟨⟨_, _, rfl, rfl, (by (repeat' apply And.intro) <;> first | trivial | rfl | exact flat_len (fun _ => rfl) _ | exact encI_len _ | exact encS_len _ | exact Nat.le_of_ble_eq_true rfl | assumption)⟩, ⟨_, _, rfl, rfl, (by (repeat' apply And.intro) <;> first | trivial | rfl | exact flat_len (fun _ => rfl) _ | exact encI_len _ | exact encS_len _ | exact Nat.le_of_ble_eq_true rfl | assumption)⟩, ⟨_, _, rfl, rfl, (by (repeat' apply And.intro) <;> first | trivial | rfl | exact flat_len (fun _ => rfl) _ | exact encI_len _ | exact encS_len _ | exact Nat.le_of_ble_eq_true rfl | assumption)⟩, ⟨_, _, rfl, rfl, (by (repeat' apply And.intro) <;> first | trivial | rfl | exact flat_len (fun _ => rfl) _ | exact encI_len _ | exact encS_len _ | exact Nat.le_of_ble_eq_true rfl | assumption)⟩, ⟨_, _, rfl, rfl, (by (repeat' apply And.intro) <;> first | trivial | rfl | exact flat_len (fun _ => rfl) _ | exact encI_len _ | exact encS_len _ | exact Nat.le_of_ble_eq_true rfl | assumption)⟩, ⟨_, _, rfl, rfl, (by (repeat' apply And.intro) <;> first | trivial | rfl | exact flat_len (fun _ => rfl) _ | exact encI_len _ | exact encS_len _ | exact Nat.le_of_ble_eq_true rfl | assumption)⟩, ⟨_, _, rfl, rfl, (by (repeat' apply And.intro) <;> first | trivial | rfl | exact flat_len (fun _ => rfl) _ | exact encI_len _ | exact encS_len _ | exact Nat.le_of_ble_eq_true rfl | assumption)⟩, ⟨_, _, rfl, rfl, (by (repeat' apply And.intro) <;> first | trivial | rfl | exact flat_len (fun _ => rfl) _ | exact encI_len _ | exact encS_len _ | exact Nat.le_of_ble_eq_true rfl | assumption)⟩, ⟨_, _, rfl, rfl, (by (repeat' apply And.intro) <;> first | trivial | rfl | exact flat_len (fun _ => rfl) _ | exact encI_len _ | exact encS_len _ | exact Nat.le_of_ble_eq_true rfl | assumption)⟩, ⟨_, _, rfl, rfl, (by (repeat' apply And.intro) <;> first | trivial | rfl | exact flat_len (fun _ => rfl) _ | exact encI_len _ | exact encS_len _ | exact Nat.le_of_ble_eq_true rfl | assumption)⟩, ⟨_, _, rfl, rfl, (by (repeat' apply And.intro) <;> first | trivial | rfl | exact flat_len (fun _ => rfl) _ | exact encI_len _ | exact encS_len _ | exact Nat.le_of_ble_eq_true rfl | assumption)⟩, trivial⟩ ⟨⟨rfl, _, _, rfl, rfl, (by (repeat' apply And.intro) <;> first | trivial | rfl | exact flat_len (fun _ => rfl) _ | exact encI_len _ | exact encS_len _ | exact Nat.le_of_ble_eq_true rfl | assumption)⟩, ⟨rfl, _, _, rfl, rfl, (by (repeat' apply And.intro) <;> first | trivial | rfl | exact flat_len (fun _ => rfl) _ | exact encI_len _ | exact encS_len _ | exact Nat.le_of_ble_eq_true rfl | assumption)⟩, trivial⟩) ?_
 refine opsS_of (j := 3) ?_
 refine step_callM (Hin := [.row _ _ _]) (out' := .ref 4 _ _ _) (H' := [(4, .row _ _ _), (3, .row _ _ _)]) (nx' := 5) [4] rfl rfl rfl rfl (.inl rfl) rfl rfl rfl rfl (delf_LUInt8 names 42 [.pptr [(.slc l.length l_f (l.flatMap encGLock))] 0, .pptr [i64 foe] 0, .pptr [i64 now] 0] (fun x_ => lockedL x_ l foe now) ⟨rfl, rfl, fun _ => rfl, fun _ => rfl, fun x_ => lockedL_ok x_ l l_f foe now⟩ (by first | omega | (simp only [IntKind.wrap_i64]; omega) | (simp only [IntKind.wrap_i64] at *; omega) | (simp; omega))) rfl (by decide) rfl rfl rfl rfl rfl ?_
 refine step_r rfl rfl trivial (step_nil (seqK_n (sem_ret ?_)))
 have e1 : freeL l names foe now = (names.filter (fun x => !(fun x_ => lockedL x_ l foe now) x)) := by
  unfold freeL
  try dsimp only
  all_goals rfl
 rw [e1]
 exact answersGR [] [4] rfl ⟨trivial, trivial⟩ rfl (by (repeat' apply And.intro) <;> first | trivial | rfl | exact flat_len (fun _ => rfl) _ | exact encI_len _ | assumption) (rfl) rfl rfl rfl (by decide) rfl rfl ⟨⟨rfl, rfl⟩, trivial⟩

theorem addL_len (l : List GLock) (name : List UInt8) (foe u : Int) (hl : l.length ≤ 16777000) : (addL l name foe u).1.length ≤ l.length + 1 := by
  unfold addL
  try dsimp only
  repeat' split
  all_goals first | exact Nat.zero_le _ | (simp; done) | (simp; omega)

def joinL_L0 : List GLock → Nat → (List GLock) → Sum ((List GLock) × Int) (List GLock)
  | [], k0, out0 => .inr out0
  | x0 :: l_, k0, out0 => if ((addL out0 x0.Name x0.Foe x0.Until).2 : Int) = 0 then joinL_L0 l_ (k0 + 1) ((addL out0 x0.Name x0.Foe x0.Until).1) else .inl ([], (addL out0 x0.Name x0.Foe x0.Until).2)
def joinL (a : List GLock) (b : List GLock) : (List GLock) × Int :=
  if rightL a = true then (if rightL b = true then (match joinL_L0 b 0 a with
    | .inl r_ => r_
    | .inr out_0 => (out_0, 0)) else ([], 1)) else ([], 1)
theorem joinL_ok (a : List GLock) (a_f : Bool) (b : List GLock) (b_f : Bool) (ha : a.length ≤ 16700000) (hb : b.length ≤ 70000) : Ok Tryd.prog 25 [.pv (.slc a.length a_f (a.flatMap encGLock)), .pv (.slc b.length b_f (b.flatMap encGLock))] [] (.tup [.ref 0 3 0 (joinL a b).1.length, I (joinL a b).2]) [.row 24 3 ((joinL a b).1.flatMap encGLock)] [] := by
 refine Ok.len fun hlen => ?_
 have hl_a : a.length ≤ maxLen := hlen _ (by simp [lensL, lens, lensP])
 have hl_b : b.length ≤ maxLen := hlen _ (by simp [lensL, lens, lensP])
 unfold maxLen at hl_a hl_b
 refine ok_of_sem Tryd.func25 rfl ?_
 show Walks Tryd.prog _ _ ⟨[(0, .pv (.slc a.length a_f (a.flatMap encGLock))), (1, .pv (.slc b.length b_f (b.flatMap encGLock)))], [], 0, [], 44, 0⟩
 refine sem_seq (sem_region rfl (step_n (nx' := 1) rfl rfl rfl trivial (step_r rfl rfl trivial (step_nil (seqK_n (sem_seq (sem_seq (sem_region rfl (step_r rfl rfl trivial (step_call rfl rfl rfl rfl (rightL_ok a a_f) rfl rfl rfl (step_r rfl rfl trivial ?_)))))))))))
 refine step_r rfl rfl trivial ?_
 refine step_gs rfl (fun h2 => ?_) (fun h2 => ?_)
 ·have g2 : ¬ (rightL a = true) := boo_f (not_t h2)
  refine step_g0 rfl h2 rfl (step_g0 rfl h2 rfl (step_g0 rfl h2 rfl (step_pickT rfl h2 rfl rfl (step_nil (seqK_n (sem_condT rfl (sem_seq (sem_region rfl (step_n (nx' := 2) rfl rfl rfl trivial (step_r rfl rfl trivial (step_nil ?_)))))))))))
  refine seqK_n (sem_ret (seqK_r ?_))
  have e3 : joinL a b = ([], 1) := by
   unfold joinL
   try dsimp only
   rewrite [if_neg g2]
   all_goals rfl
  rw [e3]
  exact answersGR [] [1] rfl ⟨trivial, trivial, trivial⟩ rfl (by (repeat' apply And.intro) <;> first | trivial | rfl | exact flat_len (fun _ => rfl) _ | exact encI_len _ | assumption) (rfl) rfl rfl rfl (by decide) rfl rfl ⟨⟨rfl, rfl⟩, trivial⟩
 ·have g2 : rightL a = true := (not_f h2)
  refine step_g1 rfl h2 (step_r rfl rfl trivial (step_g1 rfl h2 (step_call rfl rfl rfl rfl (rightL_ok b b_f) rfl rfl rfl (step_g1 rfl h2 (step_r rfl rfl trivial (step_pickF rfl h2 rfl rfl (step_nil (seqK_n ?_))))))))
  refine sem_cond rfl (fun h5 => ?_) (fun h5 => ?_)
  ·have g5 : ¬ (rightL b = true) := boo_f (not_t h5)
   refine sem_seq (sem_region rfl (step_n (nx' := 2) rfl rfl rfl trivial (step_r rfl rfl trivial (step_nil (seqK_n (sem_ret (seqK_r ?_)))))))
   have e6 : joinL a b = ([], 1) := by
    unfold joinL
    try dsimp only
    rewrite [if_pos g2, if_neg g5]
    all_goals rfl
   rw [e6]
   exact answersGR [] [1] rfl ⟨trivial, trivial, trivial⟩ rfl (by (repeat' apply And.intro) <;> first | trivial | rfl | exact flat_len (fun _ => rfl) _ | exact encI_len _ | assumption) (rfl) rfl rfl rfl (by decide) rfl rfl ⟨⟨rfl, rfl⟩, trivial⟩
  ·have g5 : rightL b = true := (not_f h5)
   refine sem_skip (seqK_n (sem_seq (sem_region rfl (step_r rfl rfl trivial ?_))))
   refine step_callN (out' := .ref 1 _ _ _) (H' := [(1, .row _ _ _), (0, _)]) (nx' := 2) rfl rfl rfl rfl rfl rfl rfl (by (repeat' apply And.intro) <;> first | trivial | rfl | exact flat_len (fun _ => rfl) _ | exact encI_len _ | exact encS_len _ | exact Nat.le_of_ble_eq_true rfl | assumption) (clone_GLock a false (by first | assumption | omega | (simp; omega) | simp_all)) rfl rfl rfl rfl ?_
   refine step_r rfl rfl trivial (step_nil (seqK_n (sem_seq (sem_seq (sem_region rfl (step_r rfl rfl trivial (step_r rfl rfl trivial (step_r rfl rfl trivial (step_nil (seqK_n ?_))))))))))
   refine sem_cutW (fun out_0 : List GLock => (⟨[(6, .ref 0 3 0 out_0.length)], [(0, .row 24 3 (out_0.flatMap encGLock))], 1, [], 44, 0⟩ : St)) (fun w_ => joinL_L0 b 0 a = .inr w_) ?_ ?_
   ·refine sem_block ?_
    refine sem_loopT (fun w_ : Nat × (List GLock) => match w_ with | (k0, out0) => (⟨[(6, .ref 0 3 0 out0.length), (21, .pv (.slc b.length b_f (b.flatMap encGLock))), (22, I b.length), (23, I k0)], [(0, .row 24 3 (out0.flatMap encGLock))], 1, [], 44, 0⟩ : St)) (fun w_ : Nat × (List GLock) => match w_ with | (k0, out0) => joinL_L0 (b.drop k0) k0 out0 = joinL_L0 b 0 a ∧ k0 ≤ b.length ∧ out0.length ≤ a.length + k0) (fun w_ : Nat × (List GLock) => match w_ with | (k0, out0) => b.length - k0) (0, a) (⟨rfl, Nat.zero_le _, by first | omega | simp | (simp; omega)⟩) ?_ (fun w_ hh_ => ?_)
    ·exact (Trans.ren [(0, 1), (1, 0)] (by decide +kernel) (by decide +kernel) rfl ⟨⟨rfl, rfl⟩, ⟨rfl, rfl⟩, ⟨rfl, rfl⟩, ⟨rfl, rfl⟩, trivial⟩ ⟨⟨rfl, rfl, rfl⟩, trivial⟩ (by decide))
    obtain ⟨k0, out0⟩ := w_
    obtain ⟨hI0, hb0, hv0⟩ := hh_
    show Walks Tryd.prog _ _ (⟨[(6, .ref 0 3 0 out0.length), (21, .pv (.slc b.length b_f (b.flatMap encGLock))), (22, I b.length), (23, I k0)], [(0, .row 24 3 (out0.flatMap encGLock))], 1, [], 44, 0⟩ : St)
    refine sem_seq (sem_region rfl (step_bin rfl rfl rfl rfl rfl trivial (step_nil (seqK_n (sem_seq ?_)))))
    refine sem_cond rfl (fun h8 => ?_) (fun h8 => ?_)
    ·have g8 : (k0 : Int) < b.length := of_decide_eq_true h8
     have hk0 : k0 < b.length := by omega
     obtain ⟨x0, hx0⟩ : ∃ z_, b[k0]? = some z_ := ⟨_, List.getElem?_eq_getElem hk0⟩
     refine sem_skip (seqK_n (sem_seq (sem_block (sem_seq (sem_region rfl (step_idxS (k := k0) rfl rfl rfl rfl hk0 (flat_ne (s := 3) (enc := encGLock) (fun _ => rfl) (by decide) hk0) rfl (step_load_row rfl rfl rfl (flat_lt (s := 3) (enc := encGLock) (fun _ => rfl) hk0) (flat_take (s := 3) (enc := encGLock) (fun _ => rfl) hx0) rfl (step_n (o := .box [_, _, _]) (nx' := 2) rfl rfl rfl trivial ?_))))))))
     refine step_storeB (H' := [(1, .box [_, _, _]), (0, _)]) rfl rfl rfl rfl rfl rfl (.inl rfl) rfl ?_
     refine step_nil (seqK_n (sem_seq (sem_region rfl (step_r rfl rfl trivial (step_r rfl rfl (by decide) (step_r rfl rfl trivial (step_r rfl rfl (by decide) (step_r rfl rfl trivial (step_r rfl rfl (by decide) (step_r rfl rfl trivial ?_))))))))))
     refine step_callJ (Hin := [.row _ _ _]) (out' := .tup [.ref 2 _ _ _, _]) (H' := [(2, .row _ _ _), (1, _), (0, _)]) (nx' := 3) [0] rfl rfl rfl rfl rfl rfl rfl rfl rfl (by (repeat' apply And.intro) <;> first | trivial | rfl | exact flat_len (s := 3) (enc := encGLock) (fun _ => rfl) _ | exact flat_len (fun _ => rfl) _ | exact encI_len _ | exact encS_len _ | exact Nat.le_of_ble_eq_true rfl | assumption) (addL_ok out0 false x0.Name x0.Foe x0.Until (by first | omega | (simp only [IntKind.wrap_i64]; omega) | (simp only [IntKind.wrap_i64] at *; omega) | (simp; omega))) rfl (by decide) rfl rfl ⟨encGLock_solid, trivial⟩ rfl rfl rfl rfl ?_
     have p9 := addL_len out0 x0.Name x0.Foe x0.Until (by first | omega | (simp only [IntKind.wrap_i64]; omega) | (simp only [IntKind.wrap_i64] at *; omega) | (simp; omega))
     refine step_r rfl rfl trivial (step_r rfl rfl trivial (step_r rfl rfl trivial (step_r rfl rfl trivial (step_r rfl rfl trivial (step_nil (seqK_n (sem_seq (sem_seq (sem_region rfl (step_r rfl rfl trivial (step_bin rfl rfl rfl rfl rfl trivial ?_)))))))))))
     refine step_nil (seqK_n ?_)
     refine sem_cond rfl (fun h11 => ?_) (fun h11 => ?_)
     ·have g11 : ¬ (((addL out0 x0.Name x0.Foe x0.Until).2 : Int) = 0) := bne_t h11
      refine sem_seq (sem_region rfl (step_r rfl rfl trivial (step_n (nx' := 4) rfl rfl rfl trivial (step_r rfl rfl trivial (step_nil (seqK_n (sem_ret (seqK_r (blkK_r (seqK_r (lupK_r ?_)))))))))))
      refine blkK_r (cutW_r (seqK_r ?_))
      have e12 : joinL_L0 b 0 a = .inl ([], (addL out0 x0.Name x0.Foe x0.Until).2) := by
       rewrite [← hI0, drop_cons hx0]
       rewrite [joinL_L0]
       try dsimp only
       rewrite [if_neg g11]
       all_goals rfl
      have e13 : joinL a b = ([], (addL out0 x0.Name x0.Foe x0.Until).2) := by
       unfold joinL
       try dsimp only
       rewrite [if_pos g2, if_pos g5, e12]
       try dsimp only
       all_goals rfl
      rw [e13]
      exact answersGR [] [3] rfl ⟨trivial, trivial, trivial⟩ rfl (by (repeat' apply And.intro) <;> first | trivial | rfl | exact flat_len (fun _ => rfl) _ | exact encI_len _ | assumption) (rfl) rfl rfl rfl (by decide) rfl rfl ⟨⟨rfl, rfl⟩, trivial⟩
     ·have g11 : ((addL out0 x0.Name x0.Foe x0.Until).2 : Int) = 0 := bne_f h11
      refine sem_skip (seqK_n (sem_region rfl (step_r rfl rfl trivial (step_r rfl rfl trivial (step_nil (blkK_n (seqK_n (sem_region rfl (step_bin rfl rfl rfl rfl rfl trivial (step_r rfl rfl trivial (step_nil ?_)))))))))))
      have e15 : joinL_L0 (b.drop k0) k0 out0 = joinL_L0 (b.drop (k0 + 1)) (k0 + 1) ((addL out0 x0.Name x0.Foe x0.Until).1) := by
       rewrite [drop_cons hx0]
       rewrite [joinL_L0]
       try dsimp only
       rewrite [if_pos g11]
       all_goals rfl
      exact lup_againT (k0 + 1, (addL out0 x0.Name x0.Foe x0.Until).1) ⟨e15.symm.trans hI0, hk0, by first | omega | assumption | (simp only [List.length_append, List.length_cons, List.length_nil, List.length_set]; omega) | (simp; omega) | grind⟩ (by show b.length - (k0 + 1) < b.length - k0; omega) (Trans.ren [(0, 2), (2, 0)] (by decide +kernel) (by decide +kernel) rfl ⟨⟨rfl, rfl⟩, ⟨rfl, rfl⟩, ⟨rfl, rfl⟩, ⟨congrArg (fun n => some (I n)) (wrapI (k := k0) (by first | omega | (simp; omega))), rfl⟩, trivial⟩ ⟨⟨rfl, rfl, rfl⟩, trivial⟩ (by decide))
    ·have g8 : ¬ ((k0 : Int) < b.length) := of_decide_eq_false h8
     have hk0 : k0 = b.length := by omega
     refine sem_exit (seqK_e (lupK_e (blkK_t rfl ?_)))
     have e16 : joinL_L0 b 0 a = .inr out0 := by
      rewrite [← hI0, hk0, List.drop_length]
      rewrite [joinL_L0]
      try dsimp only
      all_goals rfl
     exact cutW_n out0 e16 (Trans.ren [] (by decide +kernel) (by decide +kernel) rfl ⟨⟨rfl, rfl⟩, trivial⟩ ⟨⟨rfl, rfl, rfl⟩, trivial⟩ (by decide))
   ·rintro out_0 (hJ7 : joinL_L0 b 0 a = .inr out_0)
    show seqK _ _ _ .normal (⟨[(6, .ref 0 3 0 out_0.length)], [(0, .row 24 3 (out_0.flatMap encGLock))], 1, [], 44, 0⟩ : St)
    refine seqK_n (sem_seq (sem_region rfl (step_r rfl rfl trivial (step_r rfl rfl trivial (step_r rfl rfl trivial (step_nil (seqK_n (sem_ret ?_))))))))
    have e17 : joinL a b = (out_0, 0) := by
     unfold joinL
     try dsimp only
     rewrite [if_pos g2, if_pos g5, hJ7]
     try dsimp only
     all_goals rfl
    rw [e17]
    exact answersGR [] [0] rfl ⟨trivial, trivial, trivial⟩ rfl (by (repeat' apply And.intro) <;> first | trivial | rfl | exact flat_len (fun _ => rfl) _ | exact encI_len _ | assumption) (rfl) rfl rfl rfl (by decide) rfl rfl ⟨⟨rfl, rfl⟩, trivial⟩
end Go.Proofs.YtnboadipofkcjaaDoor

import Derived.Test.YtcbdecknbfabaaaTake15
namespace Go.Proofs.Ytcbdecknbfabaaa
open Go Go.RowKit Go.Proofs.YtcbdecknbfabaaaVm
attribute [local irreducible] opsWp AnswersE OpsS
set_option maxHeartbeats 400000
set_option maxRecDepth 100000
set_option linter.all false
def take14R_L0 : List GShield → Nat → (List GShield) → (List Int) → Int → (List GShield) × (List Int) × Int
  | [], k0, out0, gone0, n0 => (out0, gone0, n0)
  | x0 :: l_, k0, out0, gone0, n0 => if (IntKind.i64.wrap (x0.Left - (min (max x0.Left 0) n0)) : Int) > 0 then take14R_L0 l_ (k0 + 1) (out0 ++ [(⟨x0.Aura, (IntKind.i64.wrap (x0.Left - (min (max x0.Left 0) n0)))⟩ : GShield)]) gone0 (IntKind.i64.wrap (n0 - (min (max x0.Left 0) n0))) else take14R_L0 l_ (k0 + 1) out0 (gone0 ++ [x0.Aura]) (IntKind.i64.wrap (n0 - (min (max x0.Left 0) n0)))
def take14R (l : List GShield) (n : Int) : (List GShield) × Int × (List Int) :=
  if (n : Int) < 1 then (l, 0, []) else (match take14R_L0 l 0 ([]) ([]) n with
    | (out_0, gone_0, n_0) => (out_0, n_0, gone_0))
theorem take14R_ok (l : List GShield) (l_f : Bool) (n : Int) (hl : l.length ≤ 16777215) : Ok Try.prog 49 [.pv (.slc l.length l_f (l.flatMap encGShield)), I n] [] (.tup [.ref 0 2 0 (take14R l n).1.length, I (take14R l n).2.1, .ref 1 1 0 (take14R l n).2.2.length]) [.row 83 2 ((take14R l n).1.flatMap encGShield), .row 3 1 (encI (take14R l n).2.2)] [] := by
 refine Ok.len fun hlen => ?_
 have hl_l : l.length ≤ maxLen := hlen _ (by simp [lensL, lens, lensP])
 unfold maxLen at hl_l
 refine ok_of_sem Try.func49 rfl ?_
 show Walks Try.prog _ _ ⟨[(0, .pv (.slc l.length l_f (l.flatMap encGShield))), (1, I n)], [], 0, [], 68, 0⟩
 refine sem_seq (sem_region rfl (step_n (nx' := 1) rfl rfl rfl trivial (step_r rfl rfl trivial (step_n (nx' := 2) rfl rfl rfl trivial (step_nil (seqK_n (sem_seq (sem_seq (sem_region rfl (step_r rfl rfl trivial (step_bin rfl rfl rfl rfl rfl trivial ?_)))))))))))
 refine step_nil (seqK_n ?_)
 refine sem_cond rfl (fun h2 => ?_) (fun h2 => ?_)
 ·have g2 : (n : Int) < 1 := of_decide_eq_true h2
  refine sem_seq (sem_region rfl (step_r rfl rfl ⟨by decide, rfl⟩ (step_r rfl rfl trivial ?_)))
  refine step_appendN (m := l.length) (new := l.flatMap encGShield) (cs' := l.flatMap encGShield) (n' := l.length) rfl rfl (rfl) rfl rfl rfl rfl rfl rfl (flat_len (s := 2) (enc := encGShield) (fun _ => rfl) l) (by first | decide | (unfold maxGrow; omega) | (unfold maxGrow; simp; omega) | (unfold maxGrow; simp only [List.length_append, List.length_take, List.length_drop, List.length_cons, List.length_nil, IntKind.wrap_i64] at *; omega)) rfl rfl rfl rfl ?_
  refine step_r rfl rfl trivial (step_r rfl rfl trivial (step_n (nx' := 4) rfl rfl rfl trivial (step_nil (seqK_n (sem_ret (seqK_r ?_))))))
  have e3 : take14R l n = (l, 0, []) := by
   unfold take14R
   try dsimp only
   rewrite [if_pos g2]
   all_goals rfl
  rw [e3]
  exact answersGR [] [2, 3] rfl ⟨trivial, trivial, trivial, trivial⟩ rfl (by (repeat' apply And.intro) <;> first | trivial | rfl | exact flat_len (fun _ => rfl) _ | exact encI_len _ | assumption) (rfl) rfl rfl rfl (by decide) rfl rfl ⟨⟨rfl, rfl⟩, ⟨rfl, rfl⟩, trivial⟩
 ·have g2 : ¬ ((n : Int) < 1) := of_decide_eq_false h2
  refine sem_skip (seqK_n (sem_seq (sem_region rfl (step_n (nx' := 3) rfl rfl rfl trivial (step_nil (seqK_n (sem_seq (sem_region rfl (step_n (nx' := 4) rfl rfl rfl trivial (step_nil (seqK_n ?_)))))))))))
  refine sem_seq (sem_seq (sem_region rfl (step_r rfl rfl trivial (step_nil (seqK_n ?_)))))
  refine sem_cutW (fun w_ : (List GShield) × (List Int) × Int => match w_ with | (out_0, gone_0, n_0) => (⟨[(1, I n_0), (7, .ref 0 2 0 out_0.length), (8, .ref 1 1 0 gone_0.length)], [(0, .row 83 2 (out_0.flatMap encGShield)), (1, .row 3 1 (encI gone_0))], 2, [], 68, 0⟩ : St)) (fun w_ => take14R_L0 l 0 ([]) ([]) n = w_) ?_ ?_
  ·refine sem_block ?_
   refine sem_loopT (fun w_ : Nat × (List GShield) × (List Int) × Int => match w_ with | (k0, out0, gone0, n0) => (⟨[(0, .pv (.slc l.length l_f (l.flatMap encGShield))), (1, I n0), (7, .ref 0 2 0 out0.length), (8, .ref 1 1 0 gone0.length), (9, I k0)], [(0, .row 83 2 (out0.flatMap encGShield)), (1, .row 3 1 (encI gone0))], 2, [], 68, 0⟩ : St)) (fun w_ : Nat × (List GShield) × (List Int) × Int => match w_ with | (k0, out0, gone0, n0) => take14R_L0 (l.drop k0) k0 out0 gone0 n0 = take14R_L0 l 0 ([]) ([]) n ∧ k0 ≤ l.length ∧ out0.length ≤ k0 ∧ gone0.length ≤ k0) (fun w_ : Nat × (List GShield) × (List Int) × Int => match w_ with | (k0, out0, gone0, n0) => l.length - k0) (0, [], [], n) (⟨rfl, Nat.zero_le _, by first | omega | simp | (simp; omega)⟩) ?_ (fun w_ hh_ => ?_)
   ·exact (Trans.ren [(0, 2), (1, 3), (2, 0), (3, 1)] (by decide +kernel) (by decide +kernel) rfl ⟨⟨rfl, rfl⟩, ⟨rfl, rfl⟩, ⟨congrArg (fun n => some (AV.ref 2 2 0 n)) (by first | rfl | simp only [List.length_set] | simp | omega | (simp; omega)), rfl⟩, ⟨congrArg (fun n => some (AV.ref 3 1 0 n)) (by first | rfl | simp only [List.length_set] | simp | omega | (simp; omega)), rfl⟩, ⟨rfl, rfl⟩, trivial⟩ ⟨⟨rfl, rfl, rfl⟩, ⟨rfl, rfl, rfl⟩, trivial⟩ (by decide))
   obtain ⟨k0, out0, gone0, n0⟩ := w_
   obtain ⟨hI0, hb0, hv0⟩ := hh_
   show Walks Try.prog _ _ (⟨[(0, .pv (.slc l.length l_f (l.flatMap encGShield))), (1, I n0), (7, .ref 0 2 0 out0.length), (8, .ref 1 1 0 gone0.length), (9, I k0)], [(0, .row 83 2 (out0.flatMap encGShield)), (1, .row 3 1 (encI gone0))], 2, [], 68, 0⟩ : St)
   refine sem_seq (sem_seq (sem_region rfl (step_r rfl rfl trivial (step_r rfl rfl trivial (step_r rfl rfl trivial (step_bin rfl rfl rfl rfl rfl trivial (step_nil (seqK_n ?_))))))))
   refine sem_cond rfl (fun h6 => ?_) (fun h6 => ?_)
   ·have g6 : (k0 : Int) < l.length := of_decide_eq_true h6
    have hk0 : k0 < l.length := by omega
    obtain ⟨x0, hx0⟩ : ∃ z_, l[k0]? = some z_ := ⟨_, List.getElem?_eq_getElem hk0⟩
    refine sem_skip (seqK_n (sem_seq (sem_block (sem_seq (sem_region rfl (step_r rfl rfl trivial (step_r rfl rfl trivial (step_idxS (k := k0) rfl rfl rfl rfl hk0 (flat_ne (s := 2) (enc := encGShield) (fun _ => rfl) (by decide) hk0) rfl (step_r rfl rfl (by decide) (step_load_one rfl rfl rfl (flat_get (s := 2) (enc := encGShield) (fun _ => rfl) hx0 (o := 1) rfl (by decide)) rfl ?_))))))))))
    refine step_max rfl rfl rfl ?_
    refine step_r rfl rfl trivial ?_
    refine step_min rfl rfl rfl ?_
    refine step_r rfl rfl trivial (step_nil (seqK_n (sem_seq (sem_region rfl (step_r rfl rfl trivial (step_r rfl rfl trivial (step_bin rfl rfl rfl rfl rfl trivial (step_r rfl rfl trivial (step_nil (seqK_n (sem_seq ?_)))))))))))
    refine sem_region rfl (step_r rfl rfl trivial (step_r rfl rfl trivial (step_idxS (k := k0) rfl rfl rfl rfl hk0 (flat_ne (s := 2) (enc := encGShield) (fun _ => rfl) (by decide) hk0) rfl (step_r rfl rfl (by decide) (step_load_one rfl rfl rfl (flat_get (s := 2) (enc := encGShield) (fun _ => rfl) hx0 (o := 1) rfl (by decide)) rfl (step_r rfl rfl trivial (step_bin rfl rfl rfl rfl rfl trivial (step_bin rfl rfl rfl rfl rfl trivial (step_nil (seqK_n ?_))))))))))
    refine sem_cond rfl (fun h10 => ?_) (fun h10 => ?_)
    ·have g10 : (IntKind.i64.wrap (x0.Left - (min (max x0.Left 0) n0)) : Int) > 0 := of_decide_eq_true h10
     refine sem_drawn rfl (by decide +kernel) rfl ?_
     refine step_r rfl rfl trivial (step_r rfl rfl trivial (step_r rfl rfl trivial (step_idxS (k := k0) rfl rfl rfl rfl hk0 (flat_ne (s := 2) (enc := encGShield) (fun _ => rfl) (by decide) hk0) rfl (step_r rfl rfl (by decide) (step_load_one rfl rfl rfl (flat_get (s := 2) (enc := encGShield) (fun _ => rfl) hx0 (o := 0) rfl (by decide)) rfl (step_r rfl rfl trivial (step_r rfl rfl trivial (step_idxS (k := k0) rfl rfl rfl rfl hk0 (flat_ne (s := 2) (enc := encGShield) (fun _ => rfl) (by decide) hk0) rfl (step_r rfl rfl (by decide) (step_load_one rfl rfl rfl (flat_get (s := 2) (enc := encGShield) (fun _ => rfl) hx0 (o := 1) rfl (by decide)) rfl (step_r rfl rfl trivial ?_)))))))))))
     refine step_bin rfl rfl rfl rfl rfl trivial (step_r (v := (.agg [_, _])) rfl rfl trivial (step_n (o := .row _ _ [_, _]) (nx' := 3) rfl rfl rfl (by decide) ?_))
     refine step_appendC (m := 1) (new := [_, _]) (cs' := (out0 ++ [(⟨x0.Aura, (IntKind.i64.wrap (x0.Left - (min (max x0.Left 0) n0)))⟩ : GShield)]).flatMap encGShield) (n' := (out0 ++ [(⟨x0.Aura, (IntKind.i64.wrap (x0.Left - (min (max x0.Left 0) n0)))⟩ : GShield)]).length) (H' := [(2, .row _ _ _), (0, .row _ _ _), (1, .row _ _ _)]) rfl rfl rfl (rfl) rfl rfl rfl rfl rfl rfl (flat_len (s := 2) (enc := encGShield) (fun _ => rfl) out0) (rfl) (by first | decide | (unfold maxGrow; omega) | (unfold maxGrow; simp; omega) | (unfold maxGrow; simp only [List.length_append, List.length_take, List.length_drop, List.length_cons, List.length_nil, IntKind.wrap_i64] at *; omega)) (len_snoc out0 _) (((flat_snoc (enc := encGShield) (l := out0) (⟨x0.Aura, (IntKind.i64.wrap (x0.Left - (min (max x0.Left 0) n0)))⟩ : GShield))).symm) (.inr (by decide +kernel)) rfl rfl (.keep rfl (.keep rfl (.keep rfl .nil))) (.keep rfl (.keep rfl (.keep rfl (.keep rfl (.keep rfl (.keep rfl (.keep rfl (.keep rfl (.keep rfl (.keep rfl (.keep rfl (.keep rfl (.keep rfl (.keep rfl (.lose (v' := .undef) rfl (.keep rfl (.keep rfl (.keep rfl (.keep rfl (.keep rfl (.keep rfl (.keep rfl (.keep rfl (.keep rfl (.keep rfl (.keep rfl (.keep rfl (.keep rfl (.keep rfl (.keep rfl (.keep rfl (.keep rfl (.keep rfl (.keep rfl (.keep rfl (.keep rfl (.keep rfl (.keep rfl (.keep rfl (.keep rfl (.keep rfl (.keep rfl (.lose (v' := .undef) rfl (.keep rfl (.keep rfl .nil))))))))))))))))))))))))))))))))))))))))))))) ?_
     refine step_r rfl rfl trivial (step_nil (blkK_n (seqK_n (sem_region rfl (step_r rfl rfl trivial (step_bin rfl rfl rfl rfl rfl trivial (step_r rfl rfl trivial (step_nil ?_))))))))
     have e12 : take14R_L0 (l.drop k0) k0 out0 gone0 n0 = take14R_L0 (l.drop (k0 + 1)) (k0 + 1) (out0 ++ [(⟨x0.Aura, (IntKind.i64.wrap (x0.Left - (min (max x0.Left 0) n0)))⟩ : GShield)]) gone0 (IntKind.i64.wrap (n0 - (min (max x0.Left 0) n0))) := by
      rewrite [drop_cons hx0]
      rewrite [take14R_L0]
      try dsimp only
      rewrite [if_pos g10]
      all_goals rfl
     exact lup_againT (k0 + 1, (out0 ++ [(⟨x0.Aura, (IntKind.i64.wrap (x0.Left - (min (max x0.Left 0) n0)))⟩ : GShield)]), gone0, (IntKind.i64.wrap (n0 - (min (max x0.Left 0) n0)))) ⟨e12.symm.trans hI0, hk0, by first | omega | assumption | (simp only [List.length_append, List.length_cons, List.length_nil, List.length_set]; omega) | (simp; omega) | grind⟩ (by show l.length - (k0 + 1) < l.length - k0; omega) (Trans.ren [] (by decide +kernel) (by decide +kernel) rfl ⟨⟨rfl, rfl⟩, ⟨rfl, rfl⟩, ⟨rfl, rfl⟩, ⟨rfl, rfl⟩, ⟨congrArg (fun n => some (I n)) (wrapI (k := k0) (by first | omega | (simp; omega))), rfl⟩, trivial⟩ ⟨⟨rfl, rfl, rfl⟩, ⟨rfl, rfl, rfl⟩, trivial⟩ (by decide))
    ·have g10 : ¬ ((IntKind.i64.wrap (x0.Left - (min (max x0.Left 0) n0)) : Int) > 0) := of_decide_eq_false h10
     refine sem_region rfl (step_r rfl rfl trivial (step_r rfl rfl trivial (step_r rfl rfl trivial (step_idxS (k := k0) rfl rfl rfl rfl hk0 (flat_ne (s := 2) (enc := encGShield) (fun _ => rfl) (by decide) hk0) rfl (step_r rfl rfl (by decide) (step_load_one rfl rfl rfl (flat_get (s := 2) (enc := encGShield) (fun _ => rfl) hx0 (o := 0) rfl (by decide)) rfl (step_n (o := .row _ _ [_]) (nx' := 3) rfl rfl rfl (by decide) ?_)))))))
     refine step_appendC (m := 1) (new := [_]) (cs' := encI (gone0 ++ [x0.Aura])) (n' := (gone0 ++ [x0.Aura]).length) (H' := [(2, .row _ _ _), (0, .row _ _ _), (1, .row _ _ _)]) rfl rfl rfl (rfl) rfl rfl rfl rfl rfl rfl (encI_len gone0) (rfl) (by first | decide | (unfold maxGrow; omega) | (unfold maxGrow; simp; omega) | (unfold maxGrow; simp only [List.length_append, List.length_take, List.length_drop, List.length_cons, List.length_nil, IntKind.wrap_i64] at *; omega)) (len_snoc gone0 _) (((encI_snoc gone0 x0.Aura)).symm) (.inl rfl) rfl rfl (.keep rfl (.keep rfl (.keep rfl .nil))) (.keep rfl (.keep rfl (.keep rfl (.keep rfl (.keep rfl (.keep rfl (.lose (v' := .undef) rfl (.keep rfl (.keep rfl (.keep rfl (.keep rfl (.keep rfl (.keep rfl (.keep rfl (.keep rfl (.keep rfl (.keep rfl (.keep rfl (.keep rfl (.keep rfl (.keep rfl (.keep rfl (.keep rfl (.keep rfl (.keep rfl (.keep rfl (.keep rfl (.keep rfl (.keep rfl (.keep rfl (.keep rfl (.keep rfl (.keep rfl (.keep rfl (.keep rfl (.lose (v' := .undef) rfl (.keep rfl .nil))))))))))))))))))))))))))))))))))))) ?_
     refine step_r rfl rfl trivial (step_nil (blkK_n (seqK_n (sem_region rfl (step_r rfl rfl trivial (step_bin rfl rfl rfl rfl rfl trivial (step_r rfl rfl trivial (step_nil ?_))))))))
     have e14 : take14R_L0 (l.drop k0) k0 out0 gone0 n0 = take14R_L0 (l.drop (k0 + 1)) (k0 + 1) out0 (gone0 ++ [x0.Aura]) (IntKind.i64.wrap (n0 - (min (max x0.Left 0) n0))) := by
      rewrite [drop_cons hx0]
      rewrite [take14R_L0]
      try dsimp only
      rewrite [if_neg g10]
      all_goals rfl
     exact lup_againT (k0 + 1, out0, (gone0 ++ [x0.Aura]), (IntKind.i64.wrap (n0 - (min (max x0.Left 0) n0)))) ⟨e14.symm.trans hI0, hk0, by first | omega | assumption | (simp only [List.length_append, List.length_cons, List.length_nil, List.length_set]; omega) | (simp; omega) | grind⟩ (by show l.length - (k0 + 1) < l.length - k0; omega) (Trans.ren [] (by decide +kernel) (by decide +kernel) rfl ⟨⟨rfl, rfl⟩, ⟨rfl, rfl⟩, ⟨rfl, rfl⟩, ⟨rfl, rfl⟩, ⟨congrArg (fun n => some (I n)) (wrapI (k := k0) (by first | omega | (simp; omega))), rfl⟩, trivial⟩ ⟨⟨rfl, rfl, rfl⟩, ⟨rfl, rfl, rfl⟩, trivial⟩ (by decide))
   ·have g6 : ¬ ((k0 : Int) < l.length) := of_decide_eq_false h6
    have hk0 : k0 = l.length := by omega
    refine sem_exit (seqK_e (lupK_e (blkK_t rfl ?_)))
    have e15 : take14R_L0 l 0 ([]) ([]) n = (out0, gone0, n0) := by
     rewrite [← hI0, hk0, List.drop_length]
     rewrite [take14R_L0]
     try dsimp only
     all_goals rfl
    exact cutW_n (out0, gone0, n0) e15 (Trans.ren [] (by decide +kernel) (by decide +kernel) rfl ⟨⟨rfl, rfl⟩, ⟨rfl, rfl⟩, ⟨rfl, rfl⟩, trivial⟩ ⟨⟨rfl, rfl, rfl⟩, ⟨rfl, rfl, rfl⟩, trivial⟩ (by decide))
  ·rintro ⟨out_0, gone_0, n_0⟩ (hJ4 : take14R_L0 l 0 ([]) ([]) n = (out_0, gone_0, n_0))
   show seqK _ _ _ .normal (⟨[(1, I n_0), (7, .ref 0 2 0 out_0.length), (8, .ref 1 1 0 gone_0.length)], [(0, .row 83 2 (out_0.flatMap encGShield)), (1, .row 3 1 (encI gone_0))], 2, [], 68, 0⟩ : St)
   refine seqK_n (sem_seq (sem_region rfl (step_r rfl rfl trivial (step_r rfl rfl trivial (step_r rfl rfl trivial (step_r rfl rfl trivial (step_r rfl rfl trivial (step_r rfl rfl trivial (step_nil (seqK_n (sem_ret ?_)))))))))))
   have e17 : take14R l n = (out_0, n_0, gone_0) := by
    unfold take14R
    try dsimp only
    rewrite [if_neg g2, hJ4]
    try dsimp only
    all_goals rfl
   rw [e17]
   exact answersGR [] [0, 1] rfl ⟨trivial, trivial, trivial, trivial⟩ rfl (by (repeat' apply And.intro) <;> first | trivial | rfl | exact flat_len (fun _ => rfl) _ | exact encI_len _ | assumption) (rfl) rfl rfl rfl (by decide) rfl rfl ⟨⟨rfl, rfl⟩, ⟨rfl, rfl⟩, trivial⟩

theorem take14R_go : ∀ (l : List GShield) (k : Nat) (left : List GShield) (gone : List Int) (n : Int), (take14R_L0 l k left gone n).1.length ≤ left.length + l.length ∧ (take14R_L0 l k left gone n).2.1.length ≤ gone.length + l.length
  | [], k, left, gone, n => by rw [take14R_L0]; simp
  | x :: l, k, left, gone, n => by
    rw [take14R_L0]
    split
    · have h := take14R_go l (k + 1) (left ++ [⟨x.Aura, IntKind.i64.wrap (x.Left - min (max x.Left 0) n)⟩]) gone (IntKind.i64.wrap (n - min (max x.Left 0) n))
      simp only [List.length_cons, List.length_append, List.length_nil] at h ⊢; omega
    · have h := take14R_go l (k + 1) left (gone ++ [x.Aura]) (IntKind.i64.wrap (n - min (max x.Left 0) n))
      simp only [List.length_cons, List.length_append, List.length_nil] at h ⊢; omega
theorem take14R_len (l : List GShield) (n : Int) : (take14R l n).1.length ≤ l.length ∧ (take14R l n).2.2.length ≤ l.length := by
  unfold take14R
  split
  · simp
  · have h := take14R_go l 0 [] [] n
    simpa using h

def takeR_L0 (c : GContent) : List GActive → Nat → (List GShield) → List GShield
  | [], k0, shields0 => shields0
  | x0 :: l_, k0, shields0 => if (getUR c x0.Aura).2 = true then (if (((getUR c x0.Aura).1).Kind : Int) = 5 then takeR_L0 c l_ (k0 + 1) (shields0 ++ [(⟨(k0 : Int), x0.Left⟩ : GShield)]) else takeR_L0 c l_ (k0 + 1) shields0) else takeR_L0 c l_ (k0 + 1) shields0
def takeR_L2 (k1 : Nat) : List GShield → Nat → GActive → GActive
  | [], k2, x2' => x2'
  | x2 :: l_, k2, x2' => if (x2.Aura : Int) = k1 then takeR_L2 k1 l_ (k2 + 1) (⟨x2'.Aura, x2'.Source, x2'.Stacks, x2'.Until, x2'.Next, x2.Left⟩ : GActive) else takeR_L2 k1 l_ (k2 + 1) (x2')
def takeR_L3 (k1 : Nat) : List Int → Nat → Bool → Bool
  | [], k3, lost3 => lost3
  | x3 :: l_, k3, lost3 => if lost3 = true then takeR_L3 k1 l_ (k3 + 1) true else takeR_L3 k1 l_ (k3 + 1) ((x3 : Int) == k1)
def takeR_L1 (n : Int) (shields_0 : List GShield) : List GActive → Nat → (List GActive) → List GActive
  | [], k1, out1 => out1
  | x1 :: l_, k1, out1 => (let x_2 := takeR_L2 k1 ((take14R shields_0 n).1) 0 x1; (let lost_3 := takeR_L3 k1 ((take14R shields_0 n).2.2) 0 false; if lost_3 = true then takeR_L1 n shields_0 l_ (k1 + 1) out1 else takeR_L1 n shields_0 l_ (k1 + 1) (out1 ++ [x_2])))
def takeR (c : GContent) (l : List GActive) (n : Int) : (List GActive) × Int :=
  (let shields_0 := takeR_L0 c l 0 ([]); (let out_1 := takeR_L1 n shields_0 l 0 ([]); (out_1, (take14R shields_0 n).2.1)))
theorem takeR_ok (c : GContent) (l : List GActive) (l_f : Bool) (n : Int) (hl : l.length ≤ 16777215) : Ok Try.prog 23 [aGContent c, .pv (.slc l.length l_f (l.flatMap encGActive)), I n] [] (.tup [.ref 0 6 0 (takeR c l n).1.length, I (takeR c l n).2]) [.row 42 6 ((takeR c l n).1.flatMap encGActive)] [] := by
 refine Ok.len fun hlen => ?_
 have hl_c_Abilities : c.Abilities.length ≤ maxLen := hlen _ (by simp [lensL, lens, lensP])
 have hl_c_Auras : c.Auras.length ≤ maxLen := hlen _ (by simp [lensL, lens, lensP])
 have hl_c_Foes : c.Foes.length ≤ maxLen := hlen _ (by simp [lensL, lens, lensP])
 have hl_c_Map_Wall : c.Map.Wall.length ≤ maxLen := hlen _ (by simp [lensL, lens, lensP])
 have hl_l : l.length ≤ maxLen := hlen _ (by simp [lensL, lens, lensP])
 unfold maxLen at hl_c_Abilities hl_c_Auras hl_c_Foes hl_c_Map_Wall hl_l
 refine ok_of_sem Try.func23 rfl ?_
 show Walks Try.prog _ _ ⟨[(0, aGContent c), (1, .pv (.slc l.length l_f (l.flatMap encGActive))), (2, I n)], [], 0, [], 112, 0⟩
 refine sem_seq (sem_region rfl (step_n (o := .box [_, _, _, _, _, _, _, _, _, _]) (nx' := 1) rfl rfl rfl trivial (step_n (nx' := 2) rfl rfl rfl trivial (step_r rfl rfl trivial (step_nil (seqK_n (sem_seq (sem_region rfl (step_n (nx' := 3) rfl rfl rfl trivial (step_nil (seqK_n ?_)))))))))))
 refine sem_seq (sem_seq (sem_region rfl (step_r rfl rfl trivial (step_nil (seqK_n ?_)))))
 refine sem_cutW (fun shields_0 : List GShield => (⟨[(1, .pv (.slc l.length l_f (l.flatMap encGActive))), (2, I n), (8, .ref 0 2 0 shields_0.length)], [(0, .row 83 2 (shields_0.flatMap encGShield))], 1, [], 112, 0⟩ : St)) (fun shields_0 : List GShield => takeR_L0 c l 0 ([]) = shields_0 ∧ (shields_0.length ≤ l.length)) ?_ ?_
 ·refine sem_block ?_
  refine sem_loopT (fun w_ : Nat × (List GShield) => match w_ with | (k0, shields0) => (⟨[(1, .pv (.slc l.length l_f (l.flatMap encGActive))), (2, I n), (3, .ptr 0 0), (8, .ref 1 2 0 shields0.length), (9, I k0)], [(0, .box [.pv (.slc c.Abilities.length false (c.Abilities.flatMap encGAbility)), .pv (.slc c.Auras.length false (c.Auras.flatMap encGAura)), .pv (.slc c.Foes.length false (c.Foes.flatMap encGFoe)), I c.Map.W, I c.Map.H, .pv (.slc c.Map.Wall.length false (encB c.Map.Wall)), I c.Door.X, I c.Door.Y, I c.Lair.X, I c.Lair.Y]), (1, .row 83 2 (shields0.flatMap encGShield))], 2, [], 112, 0⟩ : St)) (fun w_ : Nat × (List GShield) => match w_ with | (k0, shields0) => takeR_L0 c (l.drop k0) k0 shields0 = takeR_L0 c l 0 ([]) ∧ k0 ≤ l.length ∧ shields0.length ≤ k0) (fun w_ : Nat × (List GShield) => match w_ with | (k0, shields0) => l.length - k0) (0, []) (⟨rfl, Nat.zero_le _, by first | omega | simp | (simp; omega)⟩) ?_ (fun w_ hh_ => ?_)
  ·exact (Trans.ren [(1, 2), (2, 1)] (by decide +kernel) (by decide +kernel) rfl ⟨⟨rfl, rfl⟩, ⟨rfl, rfl⟩, ⟨rfl, rfl⟩, ⟨congrArg (fun n => some (AV.ref 2 2 0 n)) (by first | rfl | simp only [List.length_set] | simp | omega | (simp; omega)), rfl⟩, ⟨rfl, rfl⟩, trivial⟩ ⟨⟨rfl, rfl, rfl⟩, ⟨rfl, rfl, rfl⟩, trivial⟩ (by decide))
  obtain ⟨k0, shields0⟩ := w_
  obtain ⟨hI0, hb0, hv0⟩ := hh_
  show Walks Try.prog _ _ (⟨[(1, .pv (.slc l.length l_f (l.flatMap encGActive))), (2, I n), (3, .ptr 0 0), (8, .ref 1 2 0 shields0.length), (9, I k0)], [(0, .box [.pv (.slc c.Abilities.length false (c.Abilities.flatMap encGAbility)), .pv (.slc c.Auras.length false (c.Auras.flatMap encGAura)), .pv (.slc c.Foes.length false (c.Foes.flatMap encGFoe)), I c.Map.W, I c.Map.H, .pv (.slc c.Map.Wall.length false (encB c.Map.Wall)), I c.Door.X, I c.Door.Y, I c.Lair.X, I c.Lair.Y]), (1, .row 83 2 (shields0.flatMap encGShield))], 2, [], 112, 0⟩ : St)
  refine sem_seq (sem_seq (sem_region rfl (step_r rfl rfl trivial (step_r rfl rfl trivial (step_r rfl rfl trivial (step_bin rfl rfl rfl rfl rfl trivial (step_nil (seqK_n ?_))))))))
  refine sem_cond rfl (fun h3 => ?_) (fun h3 => ?_)
  ·have g3 : (k0 : Int) < l.length := of_decide_eq_true h3
   have hk0 : k0 < l.length := by omega
   obtain ⟨x0, hx0⟩ : ∃ z_, l[k0]? = some z_ := ⟨_, List.getElem?_eq_getElem hk0⟩
   refine sem_skip (seqK_n (sem_seq (sem_block (sem_seq ?_))))
   refine sem_drawnE [(11, 9)] rfl (by decide +kernel) (by decide +kernel) rfl ?_
   refine step_r (v := (.agg [_, _, _, _, _, _, _, _, _, _])) rfl rfl (Nat.le_of_ble_eq_true rfl) (step_r rfl rfl trivial (step_r rfl rfl trivial (step_idxS (k := k0) rfl rfl rfl rfl hk0 (flat_ne (s := 6) (enc := encGActive) (fun _ => rfl) (by decide) hk0) rfl (step_r rfl rfl (by decide) (step_load_one rfl rfl rfl (flat_get (s := 6) (enc := encGActive) (fun _ => rfl) hx0 (o := 0) rfl (by decide)) rfl (step_call rfl rfl rfl rfl (getUR_ok c x0.Aura) rfl rfl rfl (step_r rfl rfl trivial (step_r rfl rfl trivial (step_r rfl rfl trivial (step_n (o := .box [_, _, _, _, _, _, _]) (nx' := 3) rfl rfl rfl trivial (step_store (H' := [(2, .box [_, _, _, _, _, _, _]), (0, .box [_, _, _, _, _, _, _, _, _, _]), (1, .row _ _ _)]) rfl rfl rfl rfl rfl rfl (Nat.le_of_ble_eq_true rfl) (.inr (by decide +kernel)) rfl ?_)))))))))))
   refine step_r rfl rfl trivial (step_nil (seqK_n (sem_seq (sem_region rfl (step_r rfl rfl trivial (step_r rfl rfl trivial ?_))))))
   refine step_gs rfl (fun h5 => ?_) (fun h5 => ?_)
   ·have g5 : (getUR c x0.Aura).2 = true := h5
    refine step_g1 rfl h5 (step_r rfl rfl (by decide) (step_g1 rfl h5 (step_r rfl rfl trivial (step_g1 rfl h5 (step_bin rfl rfl rfl rfl rfl trivial (step_pickT rfl h5 rfl rfl (step_nil (seqK_n ?_))))))))
    refine sem_cond rfl (fun h7 => ?_) (fun h7 => ?_)
    ·have g7 : (((getUR c x0.Aura).1).Kind : Int) = 5 := beq_t h7
     refine sem_region rfl (step_r rfl rfl trivial (step_r rfl rfl trivial (step_r rfl rfl trivial (step_r rfl rfl trivial (step_idxS (k := k0) rfl rfl rfl rfl hk0 (flat_ne (s := 6) (enc := encGActive) (fun _ => rfl) (by decide) hk0) rfl (step_r rfl rfl (by decide) (step_load_one rfl rfl rfl (flat_get (s := 6) (enc := encGActive) (fun _ => rfl) hx0 (o := 5) rfl (by decide)) rfl (step_r (v := (.agg [_, _])) rfl rfl trivial (step_n (o := .row _ _ [_, _]) (nx' := 4) rfl rfl rfl (by decide) ?_)))))))))
     refine step_appendC (m := 1) (new := [_, _]) (cs' := (shields0 ++ [(⟨(k0 : Int), x0.Left⟩ : GShield)]).flatMap encGShield) (n' := (shields0 ++ [(⟨(k0 : Int), x0.Left⟩ : GShield)]).length) (H' := [(3, .row _ _ _), (2, .box [_, _, _, _, _, _, _]), (0, .box [_, _, _, _, _, _, _, _, _, _]), (1, .row _ _ _)]) rfl rfl rfl (rfl) rfl rfl rfl rfl rfl rfl (flat_len (s := 2) (enc := encGShield) (fun _ => rfl) shields0) (rfl) (by first | decide | (unfold maxGrow; omega) | (unfold maxGrow; simp; omega) | (unfold maxGrow; simp only [List.length_append, List.length_take, List.length_drop, List.length_cons, List.length_nil, IntKind.wrap_i64] at *; omega)) (len_snoc shields0 _) (((flat_snoc (enc := encGShield) (l := shields0) (⟨(k0 : Int), x0.Left⟩ : GShield))).symm) (.inl rfl) rfl rfl (.keep rfl (.keep rfl (.keep rfl (.keep rfl .nil)))) (.keep rfl (.keep rfl (.keep rfl (.keep rfl (.keep rfl (.keep rfl (.keep rfl (.keep rfl (.lose (v' := .undef) rfl (.keep rfl (.keep rfl (.keep rfl (.keep rfl (.keep rfl (.keep rfl (.keep rfl (.keep rfl (.keep rfl (.keep rfl (.keep rfl (.keep rfl (.keep rfl (.keep rfl (.keep rfl (.keep rfl (.keep rfl (.keep rfl (.keep rfl (.keep rfl (.keep rfl (.keep rfl (.keep rfl (.keep rfl (.keep rfl (.lose (v' := .undef) rfl (.keep rfl .nil)))))))))))))))))))))))))))))))))))) ?_
     refine step_r rfl rfl trivial (step_nil (blkK_n (seqK_n (sem_region rfl (step_r rfl rfl trivial (step_bin rfl rfl rfl rfl rfl trivial (step_r rfl rfl trivial (step_nil ?_))))))))
     have e9 : takeR_L0 c (l.drop k0) k0 shields0 = takeR_L0 c (l.drop (k0 + 1)) (k0 + 1) (shields0 ++ [(⟨(k0 : Int), x0.Left⟩ : GShield)]) := by
      rewrite [drop_cons hx0]
      rewrite [takeR_L0]
      try dsimp only
      rewrite [if_pos g5, if_pos g7]
      all_goals rfl
     exact lup_againT (k0 + 1, (shields0 ++ [(⟨(k0 : Int), x0.Left⟩ : GShield)])) ⟨e9.symm.trans hI0, hk0, by first | omega | assumption | (simp only [List.length_append, List.length_cons, List.length_nil, List.length_set]; omega) | (simp; omega) | grind⟩ (by show l.length - (k0 + 1) < l.length - k0; omega) (Trans.ren [] (by decide +kernel) (by decide +kernel) rfl ⟨⟨rfl, rfl⟩, ⟨rfl, rfl⟩, ⟨rfl, rfl⟩, ⟨rfl, rfl⟩, ⟨congrArg (fun n => some (I n)) (wrapI (k := k0) (by first | omega | (simp; omega))), rfl⟩, trivial⟩ ⟨⟨rfl, rfl, rfl⟩, ⟨rfl, rfl, rfl⟩, trivial⟩ (by decide))
    ·have g7 : ¬ ((((getUR c x0.Aura).1).Kind : Int) = 5) := beq_f h7
     refine sem_skip (blkK_n (seqK_n (sem_region rfl (step_r rfl rfl trivial (step_bin rfl rfl rfl rfl rfl trivial (step_r rfl rfl trivial (step_nil ?_)))))))
     have e11 : takeR_L0 c (l.drop k0) k0 shields0 = takeR_L0 c (l.drop (k0 + 1)) (k0 + 1) shields0 := by
      rewrite [drop_cons hx0]
      rewrite [takeR_L0]
      try dsimp only
      rewrite [if_pos g5, if_neg g7]
      all_goals rfl
     exact lup_againT (k0 + 1, shields0) ⟨e11.symm.trans hI0, hk0, by first | omega | assumption | (simp only [List.length_append, List.length_cons, List.length_nil, List.length_set]; omega) | (simp; omega) | grind⟩ (by show l.length - (k0 + 1) < l.length - k0; omega) (Trans.ren [] (by decide +kernel) (by decide +kernel) rfl ⟨⟨rfl, rfl⟩, ⟨rfl, rfl⟩, ⟨rfl, rfl⟩, ⟨rfl, rfl⟩, ⟨congrArg (fun n => some (I n)) (wrapI (k := k0) (by first | omega | (simp; omega))), rfl⟩, trivial⟩ ⟨⟨rfl, rfl, rfl⟩, ⟨rfl, rfl, rfl⟩, trivial⟩ (by decide))
   ·have g5 : ¬ ((getUR c x0.Aura).2 = true) := boo_f h5
    refine step_g0 rfl h5 rfl (step_g0 rfl h5 rfl (step_g0 rfl h5 rfl (step_pickF rfl h5 rfl rfl (step_nil (seqK_n (sem_condF rfl (sem_skip (blkK_n (seqK_n (sem_region rfl (step_r rfl rfl trivial ?_)))))))))))
    refine step_bin rfl rfl rfl rfl rfl trivial (step_r rfl rfl trivial (step_nil ?_))
    have e13 : takeR_L0 c (l.drop k0) k0 shields0 = takeR_L0 c (l.drop (k0 + 1)) (k0 + 1) shields0 := by
     rewrite [drop_cons hx0]
     rewrite [takeR_L0]
     try dsimp only
     rewrite [if_neg g5]
     all_goals rfl
    exact lup_againT (k0 + 1, shields0) ⟨e13.symm.trans hI0, hk0, by first | omega | assumption | (simp only [List.length_append, List.length_cons, List.length_nil, List.length_set]; omega) | (simp; omega) | grind⟩ (by show l.length - (k0 + 1) < l.length - k0; omega) (Trans.ren [] (by decide +kernel) (by decide +kernel) rfl ⟨⟨rfl, rfl⟩, ⟨rfl, rfl⟩, ⟨rfl, rfl⟩, ⟨rfl, rfl⟩, ⟨congrArg (fun n => some (I n)) (wrapI (k := k0) (by first | omega | (simp; omega))), rfl⟩, trivial⟩ ⟨⟨rfl, rfl, rfl⟩, ⟨rfl, rfl, rfl⟩, trivial⟩ (by decide))
  ·have g3 : ¬ ((k0 : Int) < l.length) := of_decide_eq_false h3
   have hk0 : k0 = l.length := by omega
   refine sem_exit (seqK_e (lupK_e (blkK_t rfl ?_)))
   have e14 : takeR_L0 c l 0 ([]) = shields0 := by
    rewrite [← hI0, hk0, List.drop_length]
    rewrite [takeR_L0]
    try dsimp only
    all_goals rfl
   exact cutW_n shields0 ⟨e14, by first | assumption | omega | (simp; omega) | simp_all | grind⟩ (Trans.ren [(0, 1), (1, 0)] (by decide +kernel) (by decide +kernel) rfl ⟨⟨rfl, rfl⟩, ⟨rfl, rfl⟩, ⟨rfl, rfl⟩, trivial⟩ ⟨⟨rfl, rfl, rfl⟩, trivial⟩ (by decide))
 ·rintro shields_0 ⟨(hJ1 : takeR_L0 c l 0 ([]) = shields_0), hE0⟩
  show seqK _ _ _ .normal (⟨[(1, .pv (.slc l.length l_f (l.flatMap encGActive))), (2, I n), (8, .ref 0 2 0 shields_0.length)], [(0, .row 83 2 (shields_0.flatMap encGShield))], 1, [], 112, 0⟩ : St)
  refine seqK_n (sem_seq (sem_region rfl (step_r rfl rfl trivial (step_r rfl rfl trivial ?_))))
  refine step_callJ (Hin := [.row _ _ _]) (out' := .tup [.ref 1 _ _ _, _, .ref 2 _ _ _]) (H' := [(1, .row _ _ _), (2, .row _ _ _), (0, .row _ _ _)]) (nx' := 3) [0] rfl rfl rfl rfl rfl rfl rfl rfl rfl (by (repeat' apply And.intro) <;> first | trivial | rfl | exact flat_len (s := 2) (enc := encGShield) (fun _ => rfl) _ | exact flat_len (fun _ => rfl) _ | exact encI_len _ | exact Nat.le_of_ble_eq_true rfl | assumption) (take14R_ok shields_0 false n (by first | assumption | omega | (simp only [List.length_nil, List.length_cons, List.length_append] at *; omega) | (simp; done) | (simp; omega))) rfl (by decide) rfl rfl ⟨encGShield_solid, encI_solid, trivial⟩ rfl rfl rfl rfl ?_
  have p16 := take14R_len shields_0 n
  refine step_r rfl rfl trivial (step_r rfl rfl trivial (step_r rfl rfl trivial (step_r rfl rfl trivial (step_r rfl rfl trivial (step_r rfl rfl trivial (step_r rfl rfl trivial (step_nil (seqK_n (sem_seq (sem_region rfl (step_n (nx' := 4) rfl rfl rfl trivial ?_)))))))))))
  refine step_nil (seqK_n (sem_seq (sem_seq (sem_region rfl (step_r rfl rfl trivial (step_nil (seqK_n ?_)))))))
  refine sem_cutW (fun out_1 : List GActive => (⟨[(13, I (take14R shields_0 n).2.1), (15, .ref 0 6 0 out_1.length)], [(0, .row 42 6 (out_1.flatMap encGActive))], 1, [], 112, 0⟩ : St)) (fun w_ => takeR_L1 n shields_0 l 0 ([]) = w_) ?_ ?_
  ·refine sem_block ?_
   refine sem_loopT (fun w_ : Nat × (List GActive) => match w_ with | (k1, out1) => (⟨[(1, .pv (.slc l.length l_f (l.flatMap encGActive))), (12, .ref 0 2 0 (take14R shields_0 n).1.length), (13, I (take14R shields_0 n).2.1), (14, .ref 1 1 0 (take14R shields_0 n).2.2.length), (15, .ref 2 6 0 out1.length), (16, I k1)], [(0, .row 83 2 ((take14R shields_0 n).1.flatMap encGShield)), (1, .row 3 1 (encI (take14R shields_0 n).2.2)), (2, .row 42 6 (out1.flatMap encGActive))], 3, [], 112, 0⟩ : St)) (fun w_ : Nat × (List GActive) => match w_ with | (k1, out1) => takeR_L1 n shields_0 (l.drop k1) k1 out1 = takeR_L1 n shields_0 l 0 ([]) ∧ k1 ≤ l.length ∧ out1.length ≤ k1) (fun w_ : Nat × (List GActive) => match w_ with | (k1, out1) => l.length - k1) (0, []) (⟨rfl, Nat.zero_le _, by first | omega | simp | (simp; omega)⟩) ?_ (fun w_ hh_ => ?_)
   ·exact (Trans.ren [(0, 1), (1, 2), (2, 3), (3, 0)] (by decide +kernel) (by decide +kernel) rfl ⟨⟨rfl, rfl⟩, ⟨rfl, rfl⟩, ⟨rfl, rfl⟩, ⟨rfl, rfl⟩, ⟨congrArg (fun n => some (AV.ref 3 6 0 n)) (by first | rfl | simp only [List.length_set] | simp | omega | (simp; omega)), rfl⟩, ⟨rfl, rfl⟩, trivial⟩ ⟨⟨rfl, rfl, rfl⟩, ⟨rfl, rfl, rfl⟩, ⟨rfl, rfl, rfl⟩, trivial⟩ (by decide))
   obtain ⟨k1, out1⟩ := w_
   obtain ⟨hI1, hb1, hv1⟩ := hh_
   show Walks Try.prog _ _ (⟨[(1, .pv (.slc l.length l_f (l.flatMap encGActive))), (12, .ref 0 2 0 (take14R shields_0 n).1.length), (13, I (take14R shields_0 n).2.1), (14, .ref 1 1 0 (take14R shields_0 n).2.2.length), (15, .ref 2 6 0 out1.length), (16, I k1)], [(0, .row 83 2 ((take14R shields_0 n).1.flatMap encGShield)), (1, .row 3 1 (encI (take14R shields_0 n).2.2)), (2, .row 42 6 (out1.flatMap encGActive))], 3, [], 112, 0⟩ : St)
   refine sem_seq (sem_seq (sem_region rfl (step_r rfl rfl trivial (step_r rfl rfl trivial (step_r rfl rfl trivial (step_bin rfl rfl rfl rfl rfl trivial (step_nil (seqK_n ?_))))))))
   refine sem_cond rfl (fun h20 => ?_) (fun h20 => ?_)
   ·have g20 : (k1 : Int) < l.length := of_decide_eq_true h20
    have hk1 : k1 < l.length := by omega
    obtain ⟨x1, hx1⟩ : ∃ z_, l[k1]? = some z_ := ⟨_, List.getElem?_eq_getElem hk1⟩
    refine sem_skip (seqK_n (sem_seq (sem_block (sem_seq (sem_region rfl (step_r rfl rfl trivial (step_r rfl rfl trivial (step_idxS (k := k1) rfl rfl rfl rfl hk1 (flat_ne (s := 6) (enc := encGActive) (fun _ => rfl) (by decide) hk1) rfl (step_load_row rfl rfl rfl (flat_lt (s := 6) (enc := encGActive) (fun _ => rfl) hk1) (flat_take (s := 6) (enc := encGActive) (fun _ => rfl) hx1) rfl (step_n (o := .box [_, _, _, _, _, _]) (nx' := 4) rfl rfl rfl trivial (step_store (H' := [(3, .box [_, _, _, _, _, _]), (0, .row _ _ _), (1, .row _ _ _), (2, .row _ _ _)]) rfl rfl rfl rfl rfl rfl (Nat.le_of_ble_eq_true rfl) (.inl rfl) rfl ?_)))))))))))
    refine step_nil (seqK_n (sem_seq (sem_region rfl (step_r rfl rfl trivial (step_nil (seqK_n (sem_seq (sem_seq (sem_region rfl (step_r rfl rfl trivial (step_nil ?_)))))))))))
    refine seqK_n ?_
    refine sem_cutW (fun x_2 : GActive => (⟨[(1, .pv (.slc l.length l_f (l.flatMap encGActive))), (12, .ref 0 2 0 (take14R shields_0 n).1.length), (13, I (take14R shields_0 n).2.1), (14, .ref 1 1 0 (take14R shields_0 n).2.2.length), (15, .ref 2 6 0 out1.length), (16, I k1), (17, .ptr 3 0), (18, B false)], [(0, .row 83 2 ((take14R shields_0 n).1.flatMap encGShield)), (1, .row 3 1 (encI (take14R shields_0 n).2.2)), (2, .row 42 6 (out1.flatMap encGActive)), (3, .box [I x_2.Aura, I x_2.Source, I x_2.Stacks, I x_2.Until, I x_2.Next, I x_2.Left])], 4, [], 112, 0⟩ : St)) (fun w_ => takeR_L2 k1 ((take14R shields_0 n).1) 0 x1 = w_) ?_ ?_
    ·refine sem_block ?_
     refine sem_loopT (fun w_ : Nat × GActive => match w_ with | (k2, x2') => (⟨[(1, .pv (.slc l.length l_f (l.flatMap encGActive))), (12, .ref 0 2 0 (take14R shields_0 n).1.length), (13, I (take14R shields_0 n).2.1), (14, .ref 1 1 0 (take14R shields_0 n).2.2.length), (15, .ref 2 6 0 out1.length), (16, I k1), (17, .ptr 3 0), (18, B false), (19, I k2)], [(0, .row 83 2 ((take14R shields_0 n).1.flatMap encGShield)), (1, .row 3 1 (encI (take14R shields_0 n).2.2)), (2, .row 42 6 (out1.flatMap encGActive)), (3, .box [I x2'.Aura, I x2'.Source, I x2'.Stacks, I x2'.Until, I x2'.Next, I x2'.Left])], 4, [], 112, 0⟩ : St)) (fun w_ : Nat × GActive => match w_ with | (k2, x2') => takeR_L2 k1 (((take14R shields_0 n).1).drop k2) k2 (x2') = takeR_L2 k1 ((take14R shields_0 n).1) 0 x1 ∧ k2 ≤ ((take14R shields_0 n).1).length) (fun w_ : Nat × GActive => match w_ with | (k2, x2') => ((take14R shields_0 n).1).length - k2) (0, x1) (⟨rfl, Nat.zero_le _⟩) ?_ (fun w_ hh_ => ?_)
     ·exact (Trans.ren [] (by decide +kernel) (by decide +kernel) rfl ⟨⟨rfl, rfl⟩, ⟨rfl, rfl⟩, ⟨rfl, rfl⟩, ⟨rfl, rfl⟩, ⟨rfl, rfl⟩, ⟨rfl, rfl⟩, ⟨rfl, rfl⟩, ⟨rfl, rfl⟩, ⟨rfl, rfl⟩, trivial⟩ ⟨⟨rfl, rfl, rfl⟩, ⟨rfl, rfl, rfl⟩, ⟨rfl, rfl, rfl⟩, ⟨rfl, rfl, rfl⟩, trivial⟩ (by decide))
     obtain ⟨k2, x2'⟩ := w_
     obtain ⟨hI2, hb2⟩ := hh_
     show Walks Try.prog _ _ (⟨[(1, .pv (.slc l.length l_f (l.flatMap encGActive))), (12, .ref 0 2 0 (take14R shields_0 n).1.length), (13, I (take14R shields_0 n).2.1), (14, .ref 1 1 0 (take14R shields_0 n).2.2.length), (15, .ref 2 6 0 out1.length), (16, I k1), (17, .ptr 3 0), (18, B false), (19, I k2)], [(0, .row 83 2 ((take14R shields_0 n).1.flatMap encGShield)), (1, .row 3 1 (encI (take14R shields_0 n).2.2)), (2, .row 42 6 (out1.flatMap encGActive)), (3, .box [I x2'.Aura, I x2'.Source, I x2'.Stacks, I x2'.Until, I x2'.Next, I x2'.Left])], 4, [], 112, 0⟩ : St)
     refine sem_seq (sem_seq (sem_region rfl (step_r rfl rfl trivial (step_r rfl rfl trivial (step_r rfl rfl trivial (step_bin rfl rfl rfl rfl rfl trivial (step_nil (seqK_n ?_))))))))
     refine sem_cond rfl (fun h23 => ?_) (fun h23 => ?_)
     ·have g23 : (k2 : Int) < ((take14R shields_0 n).1.length) := of_decide_eq_true h23
      have hk2 : k2 < ((take14R shields_0 n).1).length := by omega
      obtain ⟨x2, hx2⟩ : ∃ z_, ((take14R shields_0 n).1)[k2]? = some z_ := ⟨_, List.getElem?_eq_getElem hk2⟩
      refine sem_skip (seqK_n (sem_seq (sem_block (sem_seq (sem_region rfl (step_r rfl rfl trivial (step_r rfl rfl trivial (step_idxR (k := k2) rfl rfl rfl rfl hk2 rfl (step_r rfl rfl (by decide) ?_)))))))))
      refine step_load_oneR rfl rfl rfl rfl (flat_get (s := 2) (enc := encGShield) (fun _ => rfl) hx2 (o := 0) rfl (by decide)) rfl ?_
      refine step_r rfl rfl trivial (step_bin rfl rfl rfl rfl rfl trivial (step_nil (seqK_n ?_)))
      refine sem_cond rfl (fun h25 => ?_) (fun h25 => ?_)
      ·have g25 : (x2.Aura : Int) = k1 := beq_t h25
       refine sem_region rfl (step_r rfl rfl trivial (step_r rfl rfl trivial (step_idxR (k := k2) rfl rfl rfl rfl hk2 rfl (step_r rfl rfl (by decide) ?_))))
       refine step_load_oneR rfl rfl rfl rfl (flat_get (s := 2) (enc := encGShield) (fun _ => rfl) hx2 (o := 1) rfl (by decide)) rfl ?_
       refine step_r rfl rfl (by decide) (step_store (H' := [(0, .row _ _ _), (1, .row _ _ _), (2, .row _ _ _), (3, .box [_, _, _, _, _, _])]) rfl rfl rfl rfl rfl rfl (Nat.le_of_ble_eq_true rfl) (.inl rfl) rfl (step_nil (blkK_n (seqK_n (sem_region rfl (step_r rfl rfl trivial (step_bin rfl rfl rfl rfl rfl trivial (step_r rfl rfl trivial (step_nil ?_)))))))))
       have e27 : takeR_L2 k1 (((take14R shields_0 n).1).drop k2) k2 (x2') = takeR_L2 k1 (((take14R shields_0 n).1).drop (k2 + 1)) (k2 + 1) (⟨x2'.Aura, x2'.Source, x2'.Stacks, x2'.Until, x2'.Next, x2.Left⟩ : GActive) := by
        rewrite [drop_cons hx2]
        rewrite [takeR_L2]
        try dsimp only
        rewrite [if_pos g25]
        all_goals rfl
       exact lup_againT (k2 + 1, (⟨x2'.Aura, x2'.Source, x2'.Stacks, x2'.Until, x2'.Next, x2.Left⟩ : GActive)) ⟨e27.symm.trans hI2, hk2⟩ (by show ((take14R shields_0 n).1).length - (k2 + 1) < ((take14R shields_0 n).1).length - k2; omega) (Trans.ren [] (by decide +kernel) (by decide +kernel) rfl ⟨⟨rfl, rfl⟩, ⟨rfl, rfl⟩, ⟨rfl, rfl⟩, ⟨rfl, rfl⟩, ⟨rfl, rfl⟩, ⟨rfl, rfl⟩, ⟨rfl, rfl⟩, ⟨rfl, rfl⟩, ⟨congrArg (fun n => some (I n)) (wrapI (k := k2) (by first | omega | (simp; omega))), rfl⟩, trivial⟩ ⟨⟨rfl, rfl, rfl⟩, ⟨rfl, rfl, rfl⟩, ⟨rfl, rfl, rfl⟩, ⟨rfl, rfl, rfl⟩, trivial⟩ (by decide))
      ·have g25 : ¬ ((x2.Aura : Int) = k1) := beq_f h25
       refine sem_skip (blkK_n (seqK_n (sem_region rfl (step_r rfl rfl trivial (step_bin rfl rfl rfl rfl rfl trivial (step_r rfl rfl trivial (step_nil ?_)))))))
       have e29 : takeR_L2 k1 (((take14R shields_0 n).1).drop k2) k2 (x2') = takeR_L2 k1 (((take14R shields_0 n).1).drop (k2 + 1)) (k2 + 1) (x2') := by
        rewrite [drop_cons hx2]
        rewrite [takeR_L2]
        try dsimp only
        rewrite [if_neg g25]
        all_goals rfl
       exact lup_againT (k2 + 1, x2') ⟨e29.symm.trans hI2, hk2⟩ (by show ((take14R shields_0 n).1).length - (k2 + 1) < ((take14R shields_0 n).1).length - k2; omega) (Trans.ren [] (by decide +kernel) (by decide +kernel) rfl ⟨⟨rfl, rfl⟩, ⟨rfl, rfl⟩, ⟨rfl, rfl⟩, ⟨rfl, rfl⟩, ⟨rfl, rfl⟩, ⟨rfl, rfl⟩, ⟨rfl, rfl⟩, ⟨rfl, rfl⟩, ⟨congrArg (fun n => some (I n)) (wrapI (k := k2) (by first | omega | (simp; omega))), rfl⟩, trivial⟩ ⟨⟨rfl, rfl, rfl⟩, ⟨rfl, rfl, rfl⟩, ⟨rfl, rfl, rfl⟩, ⟨rfl, rfl, rfl⟩, trivial⟩ (by decide))
     ·have g23 : ¬ ((k2 : Int) < ((take14R shields_0 n).1.length)) := of_decide_eq_false h23
      have hk2 : k2 = ((take14R shields_0 n).1).length := by omega
      refine sem_exit (seqK_e (lupK_e (blkK_t rfl ?_)))
      have e30 : takeR_L2 k1 ((take14R shields_0 n).1) 0 x1 = x2' := by
       rewrite [← hI2, hk2, List.drop_length]
       rewrite [takeR_L2]
       try dsimp only
       all_goals rfl
      exact cutW_n (x2') e30 (Trans.ren [] (by decide +kernel) (by decide +kernel) rfl ⟨⟨rfl, rfl⟩, ⟨rfl, rfl⟩, ⟨rfl, rfl⟩, ⟨rfl, rfl⟩, ⟨rfl, rfl⟩, ⟨rfl, rfl⟩, ⟨rfl, rfl⟩, ⟨rfl, rfl⟩, trivial⟩ ⟨⟨rfl, rfl, rfl⟩, ⟨rfl, rfl, rfl⟩, ⟨rfl, rfl, rfl⟩, ⟨rfl, rfl, rfl⟩, trivial⟩ (by decide))
    ·rintro x_2 (hJ21 : takeR_L2 k1 ((take14R shields_0 n).1) 0 x1 = x_2)
     show seqK _ _ _ .normal (⟨[(1, .pv (.slc l.length l_f (l.flatMap encGActive))), (12, .ref 0 2 0 (take14R shields_0 n).1.length), (13, I (take14R shields_0 n).2.1), (14, .ref 1 1 0 (take14R shields_0 n).2.2.length), (15, .ref 2 6 0 out1.length), (16, I k1), (17, .ptr 3 0), (18, B false)], [(0, .row 83 2 ((take14R shields_0 n).1.flatMap encGShield)), (1, .row 3 1 (encI (take14R shields_0 n).2.2)), (2, .row 42 6 (out1.flatMap encGActive)), (3, .box [I x_2.Aura, I x_2.Source, I x_2.Stacks, I x_2.Until, I x_2.Next, I x_2.Left])], 4, [], 112, 0⟩ : St)
     refine seqK_n (sem_seq (sem_seq (sem_region rfl (step_r rfl rfl trivial (step_nil (seqK_n ?_))))))
     refine sem_cutW (fun lost_3 : Bool => (⟨[(1, .pv (.slc l.length l_f (l.flatMap encGActive))), (12, .ref 0 2 0 (take14R shields_0 n).1.length), (13, I (take14R shields_0 n).2.1), (14, .ref 1 1 0 (take14R shields_0 n).2.2.length), (15, .ref 2 6 0 out1.length), (16, I k1), (17, .ptr 3 0), (18, B lost_3)], [(0, .row 83 2 ((take14R shields_0 n).1.flatMap encGShield)), (1, .row 3 1 (encI (take14R shields_0 n).2.2)), (2, .row 42 6 (out1.flatMap encGActive)), (3, .box [I x_2.Aura, I x_2.Source, I x_2.Stacks, I x_2.Until, I x_2.Next, I x_2.Left])], 4, [], 112, 0⟩ : St)) (fun w_ => takeR_L3 k1 ((take14R shields_0 n).2.2) 0 false = w_) ?_ ?_
     ·refine sem_block ?_
      refine sem_loopT (fun w_ : Nat × Bool => match w_ with | (k3, lost3) => (⟨[(1, .pv (.slc l.length l_f (l.flatMap encGActive))), (12, .ref 0 2 0 (take14R shields_0 n).1.length), (13, I (take14R shields_0 n).2.1), (14, .ref 1 1 0 (take14R shields_0 n).2.2.length), (15, .ref 2 6 0 out1.length), (16, I k1), (17, .ptr 3 0), (18, B lost3), (20, I k3)], [(0, .row 83 2 ((take14R shields_0 n).1.flatMap encGShield)), (1, .row 3 1 (encI (take14R shields_0 n).2.2)), (2, .row 42 6 (out1.flatMap encGActive)), (3, .box [I x_2.Aura, I x_2.Source, I x_2.Stacks, I x_2.Until, I x_2.Next, I x_2.Left])], 4, [], 112, 0⟩ : St)) (fun w_ : Nat × Bool => match w_ with | (k3, lost3) => takeR_L3 k1 (((take14R shields_0 n).2.2).drop k3) k3 lost3 = takeR_L3 k1 ((take14R shields_0 n).2.2) 0 false ∧ k3 ≤ ((take14R shields_0 n).2.2).length) (fun w_ : Nat × Bool => match w_ with | (k3, lost3) => ((take14R shields_0 n).2.2).length - k3) (0, false) (⟨rfl, Nat.zero_le _⟩) ?_ (fun w_ hh_ => ?_)
      ·exact (Trans.ren [] (by decide +kernel) (by decide +kernel) rfl ⟨⟨rfl, rfl⟩, ⟨rfl, rfl⟩, ⟨rfl, rfl⟩, ⟨rfl, rfl⟩, ⟨rfl, rfl⟩, ⟨rfl, rfl⟩, ⟨rfl, rfl⟩, ⟨rfl, rfl⟩, ⟨rfl, rfl⟩, trivial⟩ ⟨⟨rfl, rfl, rfl⟩, ⟨rfl, rfl, rfl⟩, ⟨rfl, rfl, rfl⟩, ⟨rfl, rfl, rfl⟩, trivial⟩ (by decide))
      obtain ⟨k3, lost3⟩ := w_
      obtain ⟨hI3, hb3⟩ := hh_
      show Walks Try.prog _ _ (⟨[(1, .pv (.slc l.length l_f (l.flatMap encGActive))), (12, .ref 0 2 0 (take14R shields_0 n).1.length), (13, I (take14R shields_0 n).2.1), (14, .ref 1 1 0 (take14R shields_0 n).2.2.length), (15, .ref 2 6 0 out1.length), (16, I k1), (17, .ptr 3 0), (18, B lost3), (20, I k3)], [(0, .row 83 2 ((take14R shields_0 n).1.flatMap encGShield)), (1, .row 3 1 (encI (take14R shields_0 n).2.2)), (2, .row 42 6 (out1.flatMap encGActive)), (3, .box [I x_2.Aura, I x_2.Source, I x_2.Stacks, I x_2.Until, I x_2.Next, I x_2.Left])], 4, [], 112, 0⟩ : St)
      refine sem_seq (sem_seq (sem_region rfl (step_r rfl rfl trivial (step_r rfl rfl trivial (step_r rfl rfl trivial (step_bin rfl rfl rfl rfl rfl trivial (step_nil (seqK_n ?_))))))))
      refine sem_cond rfl (fun h33 => ?_) (fun h33 => ?_)
      ·have g33 : (k3 : Int) < ((take14R shields_0 n).2.2.length) := of_decide_eq_true h33
       have hk3 : k3 < ((take14R shields_0 n).2.2).length := by omega
       obtain ⟨x3, hx3⟩ : ∃ z_, ((take14R shields_0 n).2.2)[k3]? = some z_ := ⟨_, List.getElem?_eq_getElem hk3⟩
       refine sem_skip (seqK_n (sem_seq (sem_block (sem_region rfl (step_r rfl rfl trivial (step_r rfl rfl trivial ?_))))))
       refine step_gs rfl (fun h35 => ?_) (fun h35 => ?_)
       ·have g35 : lost3 = true := h35
        refine step_g0 rfl h35 rfl (step_g0 rfl h35 rfl (step_g0 rfl h35 rfl (step_g0 rfl h35 rfl (step_g0 rfl h35 rfl (step_g0 rfl h35 rfl (step_pickT rfl h35 rfl rfl (step_r rfl rfl trivial (step_nil (blkK_n (seqK_n (sem_region rfl ?_)))))))))))
        refine step_r rfl rfl trivial (step_bin rfl rfl rfl rfl rfl trivial (step_r rfl rfl trivial (step_nil ?_)))
        have e37 : takeR_L3 k1 (((take14R shields_0 n).2.2).drop k3) k3 lost3 = takeR_L3 k1 (((take14R shields_0 n).2.2).drop (k3 + 1)) (k3 + 1) true := by
         rewrite [drop_cons hx3]
         rewrite [takeR_L3]
         try dsimp only
         rewrite [if_pos g35]
         all_goals rfl
        exact lup_againT (k3 + 1, true) ⟨e37.symm.trans hI3, hk3⟩ (by show ((take14R shields_0 n).2.2).length - (k3 + 1) < ((take14R shields_0 n).2.2).length - k3; omega) (Trans.ren [] (by decide +kernel) (by decide +kernel) rfl ⟨⟨rfl, rfl⟩, ⟨rfl, rfl⟩, ⟨rfl, rfl⟩, ⟨rfl, rfl⟩, ⟨rfl, rfl⟩, ⟨rfl, rfl⟩, ⟨rfl, rfl⟩, ⟨rfl, rfl⟩, ⟨congrArg (fun n => some (I n)) (wrapI (k := k3) (by first | omega | (simp; omega))), rfl⟩, trivial⟩ ⟨⟨rfl, rfl, rfl⟩, ⟨rfl, rfl, rfl⟩, ⟨rfl, rfl, rfl⟩, ⟨rfl, rfl, rfl⟩, trivial⟩ (by decide))
       ·have g35 : ¬ (lost3 = true) := boo_f h35
        refine step_g1 rfl h35 (step_r rfl rfl trivial (step_g1 rfl h35 (step_r rfl rfl trivial (step_g1 rfl h35 (step_idxR (k := k3) rfl rfl rfl rfl hk3 rfl (step_g1 rfl h35 ?_))))))
        refine step_load_oneR rfl rfl rfl rfl (encI_get hx3) rfl ?_
        refine step_g1 rfl h35 (step_r rfl rfl trivial (step_g1 rfl h35 (step_bin rfl rfl rfl rfl rfl trivial (step_pickF rfl h35 rfl rfl (step_r rfl rfl trivial (step_nil (blkK_n (seqK_n (sem_region rfl (step_r rfl rfl trivial (step_bin rfl rfl rfl rfl rfl trivial ?_)))))))))))
        refine step_r rfl rfl trivial (step_nil ?_)
        have e41 : takeR_L3 k1 (((take14R shields_0 n).2.2).drop k3) k3 lost3 = takeR_L3 k1 (((take14R shields_0 n).2.2).drop (k3 + 1)) (k3 + 1) ((x3 : Int) == k1) := by
         rewrite [drop_cons hx3]
         rewrite [takeR_L3]
         try dsimp only
         rewrite [if_neg g35]
         all_goals rfl
        exact lup_againT (k3 + 1, ((x3 : Int) == k1)) ⟨e41.symm.trans hI3, hk3⟩ (by show ((take14R shields_0 n).2.2).length - (k3 + 1) < ((take14R shields_0 n).2.2).length - k3; omega) (Trans.ren [] (by decide +kernel) (by decide +kernel) rfl ⟨⟨rfl, rfl⟩, ⟨rfl, rfl⟩, ⟨rfl, rfl⟩, ⟨rfl, rfl⟩, ⟨rfl, rfl⟩, ⟨rfl, rfl⟩, ⟨rfl, rfl⟩, ⟨rfl, rfl⟩, ⟨congrArg (fun n => some (I n)) (wrapI (k := k3) (by first | omega | (simp; omega))), rfl⟩, trivial⟩ ⟨⟨rfl, rfl, rfl⟩, ⟨rfl, rfl, rfl⟩, ⟨rfl, rfl, rfl⟩, ⟨rfl, rfl, rfl⟩, trivial⟩ (by decide))
      ·have g33 : ¬ ((k3 : Int) < ((take14R shields_0 n).2.2.length)) := of_decide_eq_false h33
       have hk3 : k3 = ((take14R shields_0 n).2.2).length := by omega
       refine sem_exit (seqK_e (lupK_e (blkK_t rfl ?_)))
       have e42 : takeR_L3 k1 ((take14R shields_0 n).2.2) 0 false = lost3 := by
        rewrite [← hI3, hk3, List.drop_length]
        rewrite [takeR_L3]
        try dsimp only
        all_goals rfl
       exact cutW_n lost3 e42 (Trans.ren [] (by decide +kernel) (by decide +kernel) rfl ⟨⟨rfl, rfl⟩, ⟨rfl, rfl⟩, ⟨rfl, rfl⟩, ⟨rfl, rfl⟩, ⟨rfl, rfl⟩, ⟨rfl, rfl⟩, ⟨rfl, rfl⟩, ⟨rfl, rfl⟩, trivial⟩ ⟨⟨rfl, rfl, rfl⟩, ⟨rfl, rfl, rfl⟩, ⟨rfl, rfl, rfl⟩, ⟨rfl, rfl, rfl⟩, trivial⟩ (by decide))
     ·rintro lost_3 (hJ31 : takeR_L3 k1 ((take14R shields_0 n).2.2) 0 false = lost_3)
      show seqK _ _ _ .normal (⟨[(1, .pv (.slc l.length l_f (l.flatMap encGActive))), (12, .ref 0 2 0 (take14R shields_0 n).1.length), (13, I (take14R shields_0 n).2.1), (14, .ref 1 1 0 (take14R shields_0 n).2.2.length), (15, .ref 2 6 0 out1.length), (16, I k1), (17, .ptr 3 0), (18, B lost_3)], [(0, .row 83 2 ((take14R shields_0 n).1.flatMap encGShield)), (1, .row 3 1 (encI (take14R shields_0 n).2.2)), (2, .row 42 6 (out1.flatMap encGActive)), (3, .box [I x_2.Aura, I x_2.Source, I x_2.Stacks, I x_2.Until, I x_2.Next, I x_2.Left])], 4, [], 112, 0⟩ : St)
      refine seqK_n (sem_seq (sem_region rfl (step_r rfl rfl trivial (step_r rfl rfl trivial (step_nil (seqK_n ?_))))))
      refine sem_cond rfl (fun h44 => ?_) (fun h44 => ?_)
      ·have g44 : ¬ (lost_3 = true) := boo_f (not_t h44)
       refine sem_region rfl (step_r rfl rfl trivial (step_r (v := (.agg [_, _, _, _, _, _])) rfl rfl (Nat.le_of_ble_eq_true rfl) (step_n (o := .row _ _ [_, _, _, _, _, _]) (nx' := 5) rfl rfl rfl (by decide) ?_)))
       refine step_appendC (m := 1) (new := [_, _, _, _, _, _]) (cs' := (out1 ++ [x_2]).flatMap encGActive) (n' := (out1 ++ [x_2]).length) (H' := [(4, .row _ _ _), (0, .row _ _ _), (1, .row _ _ _), (2, .row _ _ _), (3, .box [_, _, _, _, _, _])]) rfl rfl rfl (rfl) rfl rfl rfl rfl rfl rfl (flat_len (s := 6) (enc := encGActive) (fun _ => rfl) out1) (rfl) (by first | decide | (unfold maxGrow; omega) | (unfold maxGrow; simp; omega) | (unfold maxGrow; simp only [List.length_append, List.length_take, List.length_drop, List.length_cons, List.length_nil, IntKind.wrap_i64] at *; omega)) (len_snoc out1 _) (((flat_snoc (enc := encGActive) (l := out1) x_2)).symm) (.inl rfl) rfl rfl (.keep rfl (.keep rfl (.keep rfl (.keep rfl (.keep rfl .nil))))) (.keep rfl (.keep rfl (.lose (v' := .undef) rfl (.keep rfl (.keep rfl (.keep rfl (.keep rfl (.keep rfl (.keep rfl (.lose (v' := .undef) rfl (.keep rfl (.keep rfl (.keep rfl .nil))))))))))))) ?_
       refine step_r rfl rfl trivial (step_nil (blkK_n (seqK_n (sem_region rfl (step_r rfl rfl trivial (step_bin rfl rfl rfl rfl rfl trivial (step_r rfl rfl trivial (step_nil ?_))))))))
       have e47 : takeR_L1 n shields_0 (l.drop k1) k1 out1 = takeR_L1 n shields_0 (l.drop (k1 + 1)) (k1 + 1) (out1 ++ [x_2]) := by
        rewrite [drop_cons hx1]
        rewrite [takeR_L1]
        try dsimp only
        rewrite [hJ21]
        try dsimp only
        rewrite [hJ31]
        try dsimp only
        rewrite [if_neg g44]
        all_goals rfl
       exact lup_againT (k1 + 1, (out1 ++ [x_2])) ⟨e47.symm.trans hI1, hk1, by first | omega | assumption | (simp only [List.length_append, List.length_cons, List.length_nil, List.length_set]; omega) | (simp; omega) | grind⟩ (by show l.length - (k1 + 1) < l.length - k1; omega) (Trans.ren [] (by decide +kernel) (by decide +kernel) rfl ⟨⟨rfl, rfl⟩, ⟨rfl, rfl⟩, ⟨rfl, rfl⟩, ⟨rfl, rfl⟩, ⟨rfl, rfl⟩, ⟨congrArg (fun n => some (I n)) (wrapI (k := k1) (by first | omega | (simp; omega))), rfl⟩, trivial⟩ ⟨⟨rfl, rfl, rfl⟩, ⟨rfl, rfl, rfl⟩, ⟨rfl, rfl, rfl⟩, trivial⟩ (by decide))
      ·have g44 : lost_3 = true := (not_f h44)
       refine sem_skip (blkK_n (seqK_n (sem_region rfl (step_r rfl rfl trivial (step_bin rfl rfl rfl rfl rfl trivial (step_r rfl rfl trivial (step_nil ?_)))))))
       have e50 : takeR_L1 n shields_0 (l.drop k1) k1 out1 = takeR_L1 n shields_0 (l.drop (k1 + 1)) (k1 + 1) out1 := by
        rewrite [drop_cons hx1]
        rewrite [takeR_L1]
        try dsimp only
        rewrite [hJ21]
        try dsimp only
        rewrite [hJ31]
        try dsimp only
        rewrite [if_pos g44]
        all_goals rfl
       exact lup_againT (k1 + 1, out1) ⟨e50.symm.trans hI1, hk1, by first | omega | assumption | (simp only [List.length_append, List.length_cons, List.length_nil, List.length_set]; omega) | (simp; omega) | grind⟩ (by show l.length - (k1 + 1) < l.length - k1; omega) (Trans.ren [] (by decide +kernel) (by decide +kernel) rfl ⟨⟨rfl, rfl⟩, ⟨rfl, rfl⟩, ⟨rfl, rfl⟩, ⟨rfl, rfl⟩, ⟨rfl, rfl⟩, ⟨congrArg (fun n => some (I n)) (wrapI (k := k1) (by first | omega | (simp; omega))), rfl⟩, trivial⟩ ⟨⟨rfl, rfl, rfl⟩, ⟨rfl, rfl, rfl⟩, ⟨rfl, rfl, rfl⟩, trivial⟩ (by decide))
   ·have g20 : ¬ ((k1 : Int) < l.length) := of_decide_eq_false h20
    have hk1 : k1 = l.length := by omega
    refine sem_exit (seqK_e (lupK_e (blkK_t rfl ?_)))
    have e51 : takeR_L1 n shields_0 l 0 ([]) = out1 := by
     rewrite [← hI1, hk1, List.drop_length]
     rewrite [takeR_L1]
     try dsimp only
     all_goals rfl
    exact cutW_n out1 e51 (Trans.ren [(0, 2), (2, 0)] (by decide +kernel) (by decide +kernel) rfl ⟨⟨rfl, rfl⟩, ⟨rfl, rfl⟩, trivial⟩ ⟨⟨rfl, rfl, rfl⟩, trivial⟩ (by decide))
  ·rintro out_1 (hJ18 : takeR_L1 n shields_0 l 0 ([]) = out_1)
   show seqK _ _ _ .normal (⟨[(13, I (take14R shields_0 n).2.1), (15, .ref 0 6 0 out_1.length)], [(0, .row 42 6 (out_1.flatMap encGActive))], 1, [], 112, 0⟩ : St)
   refine seqK_n (sem_seq (sem_region rfl (step_r rfl rfl trivial (step_r rfl rfl trivial (step_r rfl rfl trivial (step_r rfl rfl trivial (step_nil (seqK_n (sem_ret ?_)))))))))
   have e53 : takeR c l n = (out_1, (take14R shields_0 n).2.1) := by
    unfold takeR
    try dsimp only
    rewrite [hJ1]
    try dsimp only
    rewrite [hJ18]
    try dsimp only
    all_goals rfl
   rw [e53]
   exact answersGR [] [0] rfl ⟨trivial, trivial, trivial⟩ rfl (by (repeat' apply And.intro) <;> first | trivial | rfl | exact flat_len (fun _ => rfl) _ | exact encI_len _ | assumption) (rfl) rfl rfl rfl (by decide) rfl rfl ⟨⟨rfl, rfl⟩, trivial⟩
end Go.Proofs.Ytcbdecknbfabaaa

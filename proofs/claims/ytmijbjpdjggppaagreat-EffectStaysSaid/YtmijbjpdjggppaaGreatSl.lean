import Derived.Test.YtmijbjpdjggppaaGreatBase
namespace Go.Proofs.YtmijbjpdjggppaaGreat
open Go Go.RowKit Go.Proofs.YtmijbjpdjggppaaGreatVm
attribute [local irreducible] opsWp AnswersE OpsS
set_option maxHeartbeats 400000
set_option maxRecDepth 100000
set_option linter.all false
theorem any_take_snoc {α : Type} {l : List α} {k : Nat} {x : α} (hx : l[k]? = some x) {n : Int} : True := trivial

theorem equal_Int (a : List Int) (a_f : Bool) (b : List Int) (b_f : Bool) : Ok Tryz.prog 24 [.pv (.slc a.length a_f (encI a)), .pv (.slc b.length b_f (encI b))] [] (B (decide (a = b))) [] [] := by
 refine Ok.len fun hlen => ?_
 have hl_a : a.length ≤ maxLen := hlen _ (by simp [lensL, lens, lensP])
 have hl_b : b.length ≤ maxLen := hlen _ (by simp [lensL, lens, lensP])
 unfold maxLen at hl_a hl_b
 refine ok_of_sem Tryz.func24 rfl ?_
 show Walks Tryz.prog _ _ ⟨[(0, .pv (.slc a.length a_f (encI a))), (1, .pv (.slc b.length b_f (encI b)))], [], 0, [], 26, 0⟩
 refine sem_seq (sem_region rfl (step_r rfl rfl trivial (step_nil (seqK_n (sem_seq (sem_seq (sem_region rfl (step_r rfl rfl trivial (step_r rfl rfl trivial (step_r rfl rfl trivial (step_r rfl rfl trivial ?_)))))))))))
 refine step_bin rfl rfl rfl rfl rfl trivial (step_nil (seqK_n ?_))
 refine sem_cond rfl (fun h1 => ?_) (fun h1 => ?_)
 ·skip
  refine sem_seq (sem_region rfl (step_r rfl rfl trivial (step_nil (seqK_n (sem_ret (seqK_r ?_))))))
  have hne : ¬ a.length = b.length := by
   have h := h1; simp at h; omega
  exact answersR rfl (by simp) (congrArg B (decide_eq_false (fun e => hne (by rw [e]))).symm) rfl
 ·have hlen : a.length = b.length := by
   have h := h1; simp at h; omega
  refine sem_skip (seqK_n (sem_seq (sem_seq (sem_region rfl (step_r rfl rfl trivial (step_r rfl rfl trivial (step_r rfl rfl trivial (step_nil (seqK_n (sem_block ?_))))))))))
  refine sem_loop_of (fun k : Nat => (⟨[(0, .pv (.slc a.length a_f (encI a))), (1, .pv (.slc b.length b_f (encI b))), (12, I a.length), (13, I k)], [], 0, [], 26, 0⟩ : St)) (fun k : Nat => k ≤ a.length ∧ a.take k = b.take k) (fun k : Nat => a.length - k) 0 (⟨Nat.zero_le _, rfl⟩) (less_of rfl ⟨⟨rfl, rfl⟩, ⟨rfl, rfl⟩, ⟨rfl, rfl⟩, ⟨rfl, rfl⟩, trivial⟩ trivial (fun _ _ => .inr (Nat.zero_le _))) (fun k hI => ?_)
  show Walks Tryz.prog _ _ (⟨[(0, .pv (.slc a.length a_f (encI a))), (1, .pv (.slc b.length b_f (encI b))), (12, I a.length), (13, I k)], [], 0, [], 26, 0⟩ : St)
  refine sem_seq (sem_region rfl (step_bin rfl rfl rfl rfl rfl trivial (step_nil (seqK_n (sem_seq ?_)))))
  refine sem_cond rfl (fun h2 => ?_) (fun h2 => ?_)
  ·have hk : k < a.length := by simpa using h2
   have hk2 : k < b.length := by omega
   obtain ⟨x, hx⟩ : ∃ x, a[k]? = some x := ⟨_, List.getElem?_eq_getElem hk⟩
   obtain ⟨y, hy⟩ : ∃ y, b[k]? = some y := ⟨_, List.getElem?_eq_getElem hk2⟩
   refine sem_skip (seqK_n (sem_seq (sem_block (sem_seq (sem_region rfl (step_r rfl rfl trivial (step_r rfl rfl trivial (step_nil (seqK_n (sem_seq ?_))))))))))
   refine sem_drawn rfl (by decide +kernel) rfl ?_
   refine step_r rfl rfl trivial (step_r rfl rfl trivial (step_idxS (k := k) rfl rfl rfl rfl hk (encI_ne hk) rfl (step_load_one rfl rfl rfl (encI_get hx) rfl (step_r rfl rfl trivial (step_r rfl rfl trivial (step_idxS (k := k) rfl rfl rfl rfl hk2 (encI_ne hk2) rfl (step_load_one rfl rfl rfl (encI_get hy) rfl (step_bin rfl rfl rfl rfl rfl trivial (step_nil (seqK_n ?_))))))))))
   refine sem_cond rfl (fun h4 => ?_) (fun h4 => ?_)
   ·have hne : x ≠ y := by
     intro e; subst e; simp at h4
    refine sem_seq (sem_region rfl (step_r rfl rfl trivial (step_nil (seqK_n (sem_ret (blkK_r (seqK_r (lupK_r (blkK_r (seqK_r ?_))))))))))
    exact answersR rfl (by simp) (congrArg B (decide_eq_false (same_no hx hy hne)).symm) rfl
   ·have hxy : x = y := by
     have h := h4
     simp at h
     simpa using h
    refine sem_skip (blkK_n (seqK_n (sem_region rfl (step_bin rfl rfl rfl rfl rfl trivial (step_r rfl rfl trivial (step_nil ?_))))))
    exact lup_again (k+1) (⟨hk, by rw [take_snoc hx, take_snoc hy, hI.2, hxy]⟩) (by omega) (less_of rfl ⟨⟨rfl, rfl⟩, ⟨rfl, rfl⟩, ⟨rfl, rfl⟩, ⟨congrArg (fun n => some (I n)) (wrapK hk hl_a), rfl⟩, trivial⟩ trivial (fun _ _ => .inr (Nat.zero_le _)))
  ·have hk : k = a.length := by have := of_decide_eq_false h2; have := hI.1; omega
   refine sem_exit (seqK_e (lupK_e (blkK_t rfl (seqK_n (sem_seq (sem_region rfl (step_r rfl rfl trivial (step_nil (seqK_n (sem_ret ?_))))))))))
   exact answersR rfl (by simp) (congrArg B (decide_eq_true (same_all hI.2 hk hlen)).symm) rfl

structure GActive where
  (Aura : Int)
  (Source : Int)
  (Stacks : Int)
  (Until : Int)
  (Next : Int)
  (Left : Int)
  deriving DecidableEq, Inhabited
def encGActive (x : GActive) : List PV := [i64 x.Aura, i64 x.Source, i64 x.Stacks, i64 x.Until, i64 x.Next, i64 x.Left]
abbrev aGActive (x : GActive) : AV := .agg [I x.Aura, I x.Source, I x.Stacks, I x.Until, I x.Next, I x.Left]
def wfGActive (x : GActive) : Prop := (InR x.Aura) ∧ (InR x.Source) ∧ (InR x.Stacks) ∧ (InR x.Until) ∧ (InR x.Next) ∧ (InR x.Left)
theorem encGActive_solid {l : List GActive} : ∀ p ∈ l.flatMap encGActive, solidP p = true := flat_solid (fun x p h => by simp only [encGActive, List.mem_cons, List.mem_nil_iff, or_false] at h; rcases h with rfl | rfl | rfl | rfl | rfl | rfl <;> rfl)

theorem equal_GActive (a : List GActive) (a_f : Bool) (b : List GActive) (b_f : Bool) : Ok Tryz.prog 25 [.pv (.slc a.length a_f (a.flatMap encGActive)), .pv (.slc b.length b_f (b.flatMap encGActive))] [] (B (decide (a = b))) [] [] := by
 refine Ok.len fun hlen => ?_
 have hl_a : a.length ≤ maxLen := hlen _ (by simp [lensL, lens, lensP])
 have hl_b : b.length ≤ maxLen := hlen _ (by simp [lensL, lens, lensP])
 unfold maxLen at hl_a hl_b
 refine ok_of_sem Tryz.func25 rfl ?_
 show Walks Tryz.prog _ _ ⟨[(0, .pv (.slc a.length a_f (a.flatMap encGActive))), (1, .pv (.slc b.length b_f (b.flatMap encGActive)))], [], 0, [], 26, 0⟩
 refine sem_seq (sem_region rfl (step_r rfl rfl trivial (step_nil (seqK_n (sem_seq (sem_seq (sem_region rfl (step_r rfl rfl trivial (step_r rfl rfl trivial (step_r rfl rfl trivial (step_r rfl rfl trivial ?_)))))))))))
 refine step_bin rfl rfl rfl rfl rfl trivial (step_nil (seqK_n ?_))
 refine sem_cond rfl (fun h1 => ?_) (fun h1 => ?_)
 ·skip
  refine sem_seq (sem_region rfl (step_r rfl rfl trivial (step_nil (seqK_n (sem_ret (seqK_r ?_))))))
  have hne : ¬ a.length = b.length := by
   have h := h1; simp at h; omega
  exact answersR rfl (by simp) (congrArg B (decide_eq_false (fun e => hne (by rw [e]))).symm) rfl
 ·have hlen : a.length = b.length := by
   have h := h1; simp at h; omega
  refine sem_skip (seqK_n (sem_seq (sem_seq (sem_region rfl (step_r rfl rfl trivial (step_r rfl rfl trivial (step_r rfl rfl trivial (step_nil (seqK_n (sem_block ?_))))))))))
  refine sem_loop_of (fun k : Nat => (⟨[(0, .pv (.slc a.length a_f (a.flatMap encGActive))), (1, .pv (.slc b.length b_f (b.flatMap encGActive))), (12, I a.length), (13, I k)], [], 0, [], 26, 0⟩ : St)) (fun k : Nat => k ≤ a.length ∧ a.take k = b.take k) (fun k : Nat => a.length - k) 0 (⟨Nat.zero_le _, rfl⟩) (less_of rfl ⟨⟨rfl, rfl⟩, ⟨rfl, rfl⟩, ⟨rfl, rfl⟩, ⟨rfl, rfl⟩, trivial⟩ trivial (fun _ _ => .inr (Nat.zero_le _))) (fun k hI => ?_)
  show Walks Tryz.prog _ _ (⟨[(0, .pv (.slc a.length a_f (a.flatMap encGActive))), (1, .pv (.slc b.length b_f (b.flatMap encGActive))), (12, I a.length), (13, I k)], [], 0, [], 26, 0⟩ : St)
  refine sem_seq (sem_region rfl (step_bin rfl rfl rfl rfl rfl trivial (step_nil (seqK_n (sem_seq ?_)))))
  refine sem_cond rfl (fun h2 => ?_) (fun h2 => ?_)
  ·have hk : k < a.length := by simpa using h2
   have hk2 : k < b.length := by omega
   obtain ⟨x, hx⟩ : ∃ x, a[k]? = some x := ⟨_, List.getElem?_eq_getElem hk⟩
   obtain ⟨y, hy⟩ : ∃ y, b[k]? = some y := ⟨_, List.getElem?_eq_getElem hk2⟩
   refine sem_skip (seqK_n (sem_seq (sem_block (sem_seq (sem_region rfl (step_r rfl rfl trivial (step_r rfl rfl trivial (step_nil (seqK_n (sem_seq ?_))))))))))
   refine sem_drawn rfl (by decide +kernel) rfl ?_
   refine step_r rfl rfl trivial (step_r rfl rfl trivial (step_idxS (k := k) rfl rfl rfl rfl hk (flat_ne (s := 6) (enc := encGActive) (fun _ => rfl) (by decide) hk) rfl (step_load_row rfl rfl rfl (flat_lt (s := 6) (enc := encGActive) (fun _ => rfl) hk) (flat_take (s := 6) (enc := encGActive) (fun _ => rfl) hx) rfl (step_r rfl rfl trivial (step_r rfl rfl trivial (step_idxS (k := k) rfl rfl rfl rfl hk2 (flat_ne (s := 6) (enc := encGActive) (fun _ => rfl) (by decide) hk2) rfl (step_load_row rfl rfl rfl (flat_lt (s := 6) (enc := encGActive) (fun _ => rfl) hk2) (flat_take (s := 6) (enc := encGActive) (fun _ => rfl) hy) rfl ?_)))))))
   refine step_neqA rfl rfl rfl (by kernel_rfl) rfl rfl rfl rfl rfl ?_
   refine step_nil (seqK_n ?_)
   refine sem_cond rfl (fun h4 => ?_) (fun h4 => ?_)
   ·have hne : x ≠ y := by
     intro e; subst e; simp at h4
    refine sem_seq (sem_region rfl (step_r rfl rfl trivial (step_nil (seqK_n (sem_ret (blkK_r (seqK_r (lupK_r (blkK_r (seqK_r ?_))))))))))
    exact answersR rfl (by simp) (congrArg B (decide_eq_false (same_no hx hy hne)).symm) rfl
   ·have hxy : x = y := by
     have h := h4
     simp at h
     rcases x with ⟨⟩; rcases y with ⟨⟩; simp_all
    refine sem_skip (blkK_n (seqK_n (sem_region rfl (step_bin rfl rfl rfl rfl rfl trivial (step_r rfl rfl trivial (step_nil ?_))))))
    exact lup_again (k+1) (⟨hk, by rw [take_snoc hx, take_snoc hy, hI.2, hxy]⟩) (by omega) (less_of rfl ⟨⟨rfl, rfl⟩, ⟨rfl, rfl⟩, ⟨rfl, rfl⟩, ⟨congrArg (fun n => some (I n)) (wrapK hk hl_a), rfl⟩, trivial⟩ trivial (fun _ _ => .inr (Nat.zero_le _)))
  ·have hk : k = a.length := by have := of_decide_eq_false h2; have := hI.1; omega
   refine sem_exit (seqK_e (lupK_e (blkK_t rfl (seqK_n (sem_seq (sem_region rfl (step_r rfl rfl trivial (step_nil (seqK_n (sem_ret ?_))))))))))
   exact answersR rfl (by simp) (congrArg B (decide_eq_true (same_all hI.2 hk hlen)).symm) rfl

structure GCool where
  (Ability : Int)
  (Back : List Int)
  deriving DecidableEq, Inhabited
def encGCool (x : GCool) : List PV := [i64 x.Ability, .slc x.Back.length false (encI x.Back)]
abbrev aGCool (x : GCool) : AV := .agg [I x.Ability, .pv (.slc x.Back.length false (encI x.Back))]
def wfGCool (x : GCool) : Prop := (InR x.Ability) ∧ ((∀ y ∈ x.Back, InR y) ∧ x.Back.length ≤ 140737488355328)

theorem clone_GActive_nil  : Ok Tryz.prog 27 [.pv .nils] [] (.ref 0 6 0 0) [.row 62 6 []] [] := by
 refine ok_of_sem Tryz.func27 rfl ?_
 show Walks Tryz.prog _ _ ⟨[(0, .pv .nils)], [], 0, [], 8, 0⟩
 refine sem_seq (sem_region rfl (step_n (nx' := 1) rfl rfl rfl trivial (step_nil (seqK_n (sem_seq (sem_seq (sem_region rfl (step_r rfl rfl trivial (step_r rfl rfl trivial (step_nil (seqK_n ?_)))))))))))
 refine sem_cond rfl (fun h1 => ?_) (fun h1 => ?_)
 ·skip
  refine sem_seq (sem_region rfl (step_n (nx' := 2) rfl rfl rfl trivial (step_nil (seqK_n (sem_ret (seqK_r ?_))))))
  exact answersGR [] [1] rfl ⟨trivial, trivial⟩ rfl (by (repeat' apply And.intro) <;> first | trivial | rfl | exact flat_len (fun _ => rfl) _ | exact encI_len _ | assumption) (rfl) rfl rfl rfl (by decide) rfl rfl ⟨⟨rfl, rfl⟩, trivial⟩
 ·cases h1

theorem clone_GActive_nnl (l : List GActive) (hl : l.length ≤ 16777216) : Ok Tryz.prog 27 [.pv (.nnl l.length (l.flatMap encGActive))] [] (.ref 0 6 0 l.length) [.row 62 6 (l.flatMap encGActive)] [] := by
 refine ok_of_sem Tryz.func27 rfl ?_
 show Walks Tryz.prog _ _ ⟨[(0, .pv (.nnl l.length (l.flatMap encGActive)))], [], 0, [], 8, 0⟩
 refine sem_seq (sem_region rfl (step_n (nx' := 1) rfl rfl rfl trivial (step_nil (seqK_n (sem_seq (sem_seq (sem_region rfl (step_r rfl rfl trivial (step_r rfl rfl trivial (step_nil (seqK_n ?_)))))))))))
 refine sem_cond rfl (fun h1 => ?_) (fun h1 => ?_)
 ·cases h1
 ·skip
  refine sem_skip (seqK_n (sem_seq (sem_region rfl (step_r rfl rfl ⟨by decide, rfl⟩ (step_r rfl rfl trivial ?_)))))
  refine step_appendN (m := l.length) (new := l.flatMap encGActive) (cs' := l.flatMap encGActive) (n' := l.length) rfl rfl (rfl) rfl rfl rfl rfl rfl rfl (flat_len (s := 6) (enc := encGActive) (fun _ => rfl) l) (by first | decide | (unfold maxGrow; omega) | (unfold maxGrow; simp; omega) | (unfold maxGrow; simp only [List.length_append, List.length_take, List.length_drop, List.length_cons, List.length_nil, IntKind.wrap_i64] at *; omega)) rfl rfl rfl rfl ?_
  refine step_r rfl rfl trivial (step_nil (seqK_n (sem_ret ?_)))
  exact answersGR [] [1] rfl ⟨trivial, trivial⟩ rfl (by (repeat' apply And.intro) <;> first | trivial | rfl | exact flat_len (fun _ => rfl) _ | exact encI_len _ | assumption) (rfl) rfl rfl rfl (by decide) rfl rfl ⟨⟨rfl, rfl⟩, trivial⟩

theorem clone_GActive (l : List GActive) (full : Bool) (hl : l.length ≤ 16777216) : Ok Tryz.prog 27 [.pv (.slc l.length full (l.flatMap encGActive))] [] (.ref 0 6 0 l.length) [.row 62 6 (l.flatMap encGActive)] [] := by
  refine Ok.slc1 (fun h1 h2 => ?_) (clone_GActive_nnl l hl)
  rw [h1, h2]; exact clone_GActive_nil

theorem clone_GCool_nil  : Ok Tryz.prog 28 [.pv .nils] [] (.ref 0 2 0 0) [.row 73 2 []] [] := by
 refine ok_of_sem Tryz.func28 rfl ?_
 show Walks Tryz.prog _ _ ⟨[(0, .pv .nils)], [], 0, [], 8, 0⟩
 refine sem_seq (sem_region rfl (step_n (nx' := 1) rfl rfl rfl trivial (step_nil (seqK_n (sem_seq (sem_seq (sem_region rfl (step_r rfl rfl trivial (step_r rfl rfl trivial (step_nil (seqK_n ?_)))))))))))
 refine sem_cond rfl (fun h1 => ?_) (fun h1 => ?_)
 ·skip
  refine sem_seq (sem_region rfl (step_n (nx' := 2) rfl rfl rfl trivial (step_nil (seqK_n (sem_ret (seqK_r ?_))))))
  exact answersGR [] [1] rfl ⟨trivial, trivial⟩ rfl (by (repeat' apply And.intro) <;> first | trivial | rfl | exact flat_len (fun _ => rfl) _ | exact encI_len _ | assumption) (rfl) rfl rfl rfl (by decide) rfl rfl ⟨⟨rfl, rfl⟩, trivial⟩
 ·cases h1

theorem clone_GCool_nnl (l : List GCool) (hl : l.length ≤ 16777216) : Ok Tryz.prog 28 [.pv (.nnl l.length (l.flatMap encGCool))] [] (.ref 0 2 0 l.length) [.row 73 2 (l.flatMap encGCool)] [] := by
 refine ok_of_sem Tryz.func28 rfl ?_
 show Walks Tryz.prog _ _ ⟨[(0, .pv (.nnl l.length (l.flatMap encGCool)))], [], 0, [], 8, 0⟩
 refine sem_seq (sem_region rfl (step_n (nx' := 1) rfl rfl rfl trivial (step_nil (seqK_n (sem_seq (sem_seq (sem_region rfl (step_r rfl rfl trivial (step_r rfl rfl trivial (step_nil (seqK_n ?_)))))))))))
 refine sem_cond rfl (fun h1 => ?_) (fun h1 => ?_)
 ·cases h1
 ·skip
  refine sem_skip (seqK_n (sem_seq (sem_region rfl (step_r rfl rfl ⟨by decide, rfl⟩ (step_r rfl rfl trivial ?_)))))
  refine step_appendN (m := l.length) (new := l.flatMap encGCool) (cs' := l.flatMap encGCool) (n' := l.length) rfl rfl (rfl) rfl rfl rfl rfl rfl rfl (flat_len (s := 2) (enc := encGCool) (fun _ => rfl) l) (by first | decide | (unfold maxGrow; omega) | (unfold maxGrow; simp; omega) | (unfold maxGrow; simp only [List.length_append, List.length_take, List.length_drop, List.length_cons, List.length_nil, IntKind.wrap_i64] at *; omega)) rfl rfl rfl rfl ?_
  refine step_r rfl rfl trivial (step_nil (seqK_n (sem_ret ?_)))
  exact answersGR [] [1] rfl ⟨trivial, trivial⟩ rfl (by (repeat' apply And.intro) <;> first | trivial | rfl | exact flat_len (fun _ => rfl) _ | exact encI_len _ | assumption) (rfl) rfl rfl rfl (by decide) rfl rfl ⟨⟨rfl, rfl⟩, trivial⟩

theorem clone_GCool (l : List GCool) (full : Bool) (hl : l.length ≤ 16777216) : Ok Tryz.prog 28 [.pv (.slc l.length full (l.flatMap encGCool))] [] (.ref 0 2 0 l.length) [.row 73 2 (l.flatMap encGCool)] [] := by
  refine Ok.slc1 (fun h1 h2 => ?_) (clone_GCool_nnl l hl)
  rw [h1, h2]; exact clone_GCool_nil

theorem clone_Int_nil  : Ok Tryz.prog 29 [.pv .nils] [] (.ref 0 1 0 0) [.row 3 1 []] [] := by
 refine ok_of_sem Tryz.func29 rfl ?_
 show Walks Tryz.prog _ _ ⟨[(0, .pv .nils)], [], 0, [], 8, 0⟩
 refine sem_seq (sem_region rfl (step_n (nx' := 1) rfl rfl rfl trivial (step_nil (seqK_n (sem_seq (sem_seq (sem_region rfl (step_r rfl rfl trivial (step_r rfl rfl trivial (step_nil (seqK_n ?_)))))))))))
 refine sem_cond rfl (fun h1 => ?_) (fun h1 => ?_)
 ·skip
  refine sem_seq (sem_region rfl (step_n (nx' := 2) rfl rfl rfl trivial (step_nil (seqK_n (sem_ret (seqK_r ?_))))))
  exact answersGR [] [1] rfl ⟨trivial, trivial⟩ rfl (by (repeat' apply And.intro) <;> first | trivial | rfl | exact flat_len (fun _ => rfl) _ | exact encI_len _ | assumption) (rfl) rfl rfl rfl (by decide) rfl rfl ⟨⟨rfl, rfl⟩, trivial⟩
 ·cases h1

theorem clone_Int_nnl (l : List Int) (hl : l.length ≤ 16777216) : Ok Tryz.prog 29 [.pv (.nnl l.length (encI l))] [] (.ref 0 1 0 l.length) [.row 3 1 (encI l)] [] := by
 refine ok_of_sem Tryz.func29 rfl ?_
 show Walks Tryz.prog _ _ ⟨[(0, .pv (.nnl l.length (encI l)))], [], 0, [], 8, 0⟩
 refine sem_seq (sem_region rfl (step_n (nx' := 1) rfl rfl rfl trivial (step_nil (seqK_n (sem_seq (sem_seq (sem_region rfl (step_r rfl rfl trivial (step_r rfl rfl trivial (step_nil (seqK_n ?_)))))))))))
 refine sem_cond rfl (fun h1 => ?_) (fun h1 => ?_)
 ·cases h1
 ·skip
  refine sem_skip (seqK_n (sem_seq (sem_region rfl (step_r rfl rfl ⟨by decide, rfl⟩ (step_r rfl rfl trivial ?_)))))
  refine step_appendN (m := l.length) (new := encI l) (cs' := encI l) (n' := l.length) rfl rfl (rfl) rfl rfl rfl rfl rfl rfl (encI_len l) (by first | decide | (unfold maxGrow; omega) | (unfold maxGrow; simp; omega) | (unfold maxGrow; simp only [List.length_append, List.length_take, List.length_drop, List.length_cons, List.length_nil, IntKind.wrap_i64] at *; omega)) rfl rfl rfl rfl ?_
  refine step_r rfl rfl trivial (step_nil (seqK_n (sem_ret ?_)))
  exact answersGR [] [1] rfl ⟨trivial, trivial⟩ rfl (by (repeat' apply And.intro) <;> first | trivial | rfl | exact flat_len (fun _ => rfl) _ | exact encI_len _ | assumption) (rfl) rfl rfl rfl (by decide) rfl rfl ⟨⟨rfl, rfl⟩, trivial⟩

theorem clone_Int (l : List Int) (full : Bool) (hl : l.length ≤ 16777216) : Ok Tryz.prog 29 [.pv (.slc l.length full (encI l))] [] (.ref 0 1 0 l.length) [.row 3 1 (encI l)] [] := by
  refine Ok.slc1 (fun h1 h2 => ?_) (clone_Int_nnl l hl)
  rw [h1, h2]; exact clone_Int_nil

structure GAura where
  (Id : Int)
  (Kind : Int)
  (Ticks : Int)
  (Every : Int)
  (Stacks : Int)
  (Amount : Int)
  (Harm : Bool)
  deriving DecidableEq, Inhabited
def encGAura (x : GAura) : List PV := [i64 x.Id, i64 x.Kind, i64 x.Ticks, i64 x.Every, i64 x.Stacks, i64 x.Amount, .bool x.Harm]
abbrev aGAura (x : GAura) : AV := .agg [I x.Id, I x.Kind, I x.Ticks, I x.Every, I x.Stacks, I x.Amount, B x.Harm]
def wfGAura (x : GAura) : Prop := (InR x.Id) ∧ (InR x.Kind) ∧ (InR x.Ticks) ∧ (InR x.Every) ∧ (InR x.Stacks) ∧ (InR x.Amount)
theorem encGAura_solid {l : List GAura} : ∀ p ∈ l.flatMap encGAura, solidP p = true := flat_solid (fun x p h => by simp only [encGAura, List.mem_cons, List.mem_nil_iff, or_false] at h; rcases h with rfl | rfl | rfl | rfl | rfl | rfl | rfl <;> rfl)

theorem ixf_GAura (l : List GAura) (l_f : Bool) (cl : FuncId) (caps : List AV) (p : GAura → Bool) (hcl : Fn1 Tryz.prog cl caps (fun x => [aGAura x]) (fun x => B (p x))) : Ok Tryz.prog 57 [.pv (.slc l.length l_f (l.flatMap encGAura)), .fnc cl caps] [] (I (fidx p l)) [] [] := by
 refine Ok.len fun hlen => ?_
 have hl_l : l.length ≤ maxLen := hlen _ (by simp [lensL, lens, lensP])
 unfold maxLen at hl_l
 refine ok_of_sem Tryz.func57 rfl ?_
 show Walks Tryz.prog _ _ ⟨[(0, .pv (.slc l.length l_f (l.flatMap encGAura))), (1, .fnc cl caps)], [], 0, [], 19, 0⟩
 refine sem_seq (sem_region rfl (step_r rfl rfl trivial (step_nil (seqK_n (sem_seq (sem_seq (sem_region rfl (step_r rfl rfl trivial (step_r rfl rfl trivial (step_r rfl rfl trivial (step_nil ?_)))))))))))
 refine seqK_n (sem_block ?_)
 refine sem_loop_of (fun k : Nat => (⟨[(0, .pv (.slc l.length l_f (l.flatMap encGAura))), (1, .fnc cl caps), (7, I l.length), (8, I k)], [], 0, [], 19, 0⟩ : St)) (fun k : Nat => k ≤ l.length ∧ ∀ y ∈ l.take k, p y = false) (fun k : Nat => l.length - k) 0 (⟨Nat.zero_le _, by simp⟩) (less_of rfl ⟨⟨rfl, rfl⟩, ⟨rfl, hcl.belN⟩, ⟨rfl, rfl⟩, ⟨rfl, rfl⟩, trivial⟩ trivial (fun _ _ => .inr (Nat.zero_le _))) (fun k hI => ?_)
 show Walks Tryz.prog _ _ (⟨[(0, .pv (.slc l.length l_f (l.flatMap encGAura))), (1, .fnc cl caps), (7, I l.length), (8, I k)], [], 0, [], 19, 0⟩ : St)
 refine sem_seq (sem_region rfl (step_bin rfl rfl rfl rfl rfl trivial (step_nil (seqK_n (sem_seq ?_)))))
 refine sem_cond rfl (fun h1 => ?_) (fun h1 => ?_)
 ·have hk : k < l.length := by have h := of_decide_eq_true h1; omega
  obtain ⟨x, hx⟩ : ∃ x, l[k]? = some x := ⟨_, List.getElem?_eq_getElem hk⟩
  refine sem_skip (seqK_n (sem_seq (sem_block (sem_seq (sem_region rfl (step_r rfl rfl trivial (step_r rfl rfl trivial (step_nil (seqK_n (sem_seq (sem_region rfl ?_)))))))))))
  refine step_r rfl rfl trivial (step_r rfl rfl trivial (step_r rfl rfl trivial (step_idxS (k := k) rfl rfl rfl rfl hk (flat_ne (s := 7) (enc := encGAura) (fun _ => rfl) (by decide) hk) rfl (step_load_row rfl rfl rfl (flat_lt (s := 7) (enc := encGAura) (fun _ => rfl) hk) (flat_take (s := 7) (enc := encGAura) (fun _ => rfl) hx) rfl ?_))))
  refine step_callF hcl x rfl rfl rfl rfl rfl rfl ?_
  refine step_nil (seqK_n ?_)
  refine sem_cond rfl (fun h3 => ?_) (fun h3 => ?_)
  ·have gp := h3
   refine sem_seq (sem_region rfl (step_r rfl rfl trivial (step_r rfl rfl trivial (step_nil (seqK_n (sem_ret (blkK_r (seqK_r (lupK_r (blkK_r (seqK_r ?_)))))))))))
   exact answersR rfl ⟨trivial, trivial⟩ (congrArg I (fidx_found (p := p) hI.2 hx gp).symm) rfl
  ·have gp := h3
   refine sem_skip (blkK_n (seqK_n (sem_region rfl (step_bin rfl rfl rfl rfl rfl trivial (step_r rfl rfl trivial (step_nil ?_))))))
   exact lup_again (k+1) (⟨hk, take_all_snoc hI.2 hx gp⟩) (by omega) (less_of rfl ⟨⟨rfl, rfl⟩, ⟨rfl, hcl.belN⟩, ⟨rfl, rfl⟩, ⟨congrArg (fun n => some (I n)) (wrapK hk (by assumption)), rfl⟩, trivial⟩ trivial (fun _ _ => .inr (Nat.zero_le _)))
 ·have hk : k = l.length := by have h := of_decide_eq_false h1; have := hI; omega
  refine sem_exit (seqK_e (lupK_e (blkK_t rfl (seqK_n (sem_seq (sem_region rfl (step_r rfl rfl trivial (step_nil (seqK_n (sem_ret ?_))))))))))
  exact answersR rfl ⟨trivial, trivial⟩ (congrArg I (fidx_none (p := p) hI.2 hk).symm) rfl

structure GEffect where
  (Kind : Int)
  (Amount : Int)
  (Aura : Int)
  deriving DecidableEq, Inhabited
def encGEffect (x : GEffect) : List PV := [i64 x.Kind, i64 x.Amount, i64 x.Aura]
abbrev aGEffect (x : GEffect) : AV := .agg [I x.Kind, I x.Amount, I x.Aura]
def wfGEffect (x : GEffect) : Prop := (InR x.Kind) ∧ (InR x.Amount) ∧ (InR x.Aura)
theorem encGEffect_solid {l : List GEffect} : ∀ p ∈ l.flatMap encGEffect, solidP p = true := flat_solid (fun x p h => by simp only [encGEffect, List.mem_cons, List.mem_nil_iff, or_false] at h; rcases h with rfl | rfl | rfl <;> rfl)

structure GLine where
  (Phase : Int)
  (When : Int)
  (Arg : Int)
  (Do : Int)
  (Value : Int)
  deriving DecidableEq, Inhabited
def encGLine (x : GLine) : List PV := [i64 x.Phase, i64 x.When, i64 x.Arg, i64 x.Do, i64 x.Value]
abbrev aGLine (x : GLine) : AV := .agg [I x.Phase, I x.When, I x.Arg, I x.Do, I x.Value]
def wfGLine (x : GLine) : Prop := (InR x.Phase) ∧ (InR x.When) ∧ (InR x.Arg) ∧ (InR x.Do) ∧ (InR x.Value)
theorem encGLine_solid {l : List GLine} : ∀ p ∈ l.flatMap encGLine, solidP p = true := flat_solid (fun x p h => by simp only [encGLine, List.mem_cons, List.mem_nil_iff, or_false] at h; rcases h with rfl | rfl | rfl | rfl | rfl <;> rfl)

structure GPrize where
  (Item : Int)
  (Weight : Int)
  deriving DecidableEq, Inhabited
def encGPrize (x : GPrize) : List PV := [i64 x.Item, i64 x.Weight]
abbrev aGPrize (x : GPrize) : AV := .agg [I x.Item, I x.Weight]
def wfGPrize (x : GPrize) : Prop := (InR x.Item) ∧ (InR x.Weight)
theorem encGPrize_solid {l : List GPrize} : ∀ p ∈ l.flatMap encGPrize, solidP p = true := flat_solid (fun x p h => by simp only [encGPrize, List.mem_cons, List.mem_nil_iff, or_false] at h; rcases h with rfl | rfl <;> rfl)

theorem ixf_GActive (l : List GActive) (l_f : Bool) (cl : FuncId) (caps : List AV) (p : GActive → Bool) (hcl : Fn1 Tryz.prog cl caps (fun x => [aGActive x]) (fun x => B (p x))) : Ok Tryz.prog 87 [.pv (.slc l.length l_f (l.flatMap encGActive)), .fnc cl caps] [] (I (fidx p l)) [] [] := by
 refine Ok.len fun hlen => ?_
 have hl_l : l.length ≤ maxLen := hlen _ (by simp [lensL, lens, lensP])
 unfold maxLen at hl_l
 refine ok_of_sem Tryz.func87 rfl ?_
 show Walks Tryz.prog _ _ ⟨[(0, .pv (.slc l.length l_f (l.flatMap encGActive))), (1, .fnc cl caps)], [], 0, [], 19, 0⟩
 refine sem_seq (sem_region rfl (step_r rfl rfl trivial (step_nil (seqK_n (sem_seq (sem_seq (sem_region rfl (step_r rfl rfl trivial (step_r rfl rfl trivial (step_r rfl rfl trivial (step_nil ?_)))))))))))
 refine seqK_n (sem_block ?_)
 refine sem_loop_of (fun k : Nat => (⟨[(0, .pv (.slc l.length l_f (l.flatMap encGActive))), (1, .fnc cl caps), (7, I l.length), (8, I k)], [], 0, [], 19, 0⟩ : St)) (fun k : Nat => k ≤ l.length ∧ ∀ y ∈ l.take k, p y = false) (fun k : Nat => l.length - k) 0 (⟨Nat.zero_le _, by simp⟩) (less_of rfl ⟨⟨rfl, rfl⟩, ⟨rfl, hcl.belN⟩, ⟨rfl, rfl⟩, ⟨rfl, rfl⟩, trivial⟩ trivial (fun _ _ => .inr (Nat.zero_le _))) (fun k hI => ?_)
 show Walks Tryz.prog _ _ (⟨[(0, .pv (.slc l.length l_f (l.flatMap encGActive))), (1, .fnc cl caps), (7, I l.length), (8, I k)], [], 0, [], 19, 0⟩ : St)
 refine sem_seq (sem_region rfl (step_bin rfl rfl rfl rfl rfl trivial (step_nil (seqK_n (sem_seq ?_)))))
 refine sem_cond rfl (fun h1 => ?_) (fun h1 => ?_)
 ·have hk : k < l.length := by have h := of_decide_eq_true h1; omega
  obtain ⟨x, hx⟩ : ∃ x, l[k]? = some x := ⟨_, List.getElem?_eq_getElem hk⟩
  refine sem_skip (seqK_n (sem_seq (sem_block (sem_seq (sem_region rfl (step_r rfl rfl trivial (step_r rfl rfl trivial (step_nil (seqK_n (sem_seq (sem_region rfl ?_)))))))))))
  refine step_r rfl rfl trivial (step_r rfl rfl trivial (step_r rfl rfl trivial (step_idxS (k := k) rfl rfl rfl rfl hk (flat_ne (s := 6) (enc := encGActive) (fun _ => rfl) (by decide) hk) rfl (step_load_row rfl rfl rfl (flat_lt (s := 6) (enc := encGActive) (fun _ => rfl) hk) (flat_take (s := 6) (enc := encGActive) (fun _ => rfl) hx) rfl ?_))))
  refine step_callF hcl x rfl rfl rfl rfl rfl rfl ?_
  refine step_nil (seqK_n ?_)
  refine sem_cond rfl (fun h3 => ?_) (fun h3 => ?_)
  ·have gp := h3
   refine sem_seq (sem_region rfl (step_r rfl rfl trivial (step_r rfl rfl trivial (step_nil (seqK_n (sem_ret (blkK_r (seqK_r (lupK_r (blkK_r (seqK_r ?_)))))))))))
   exact answersR rfl ⟨trivial, trivial⟩ (congrArg I (fidx_found (p := p) hI.2 hx gp).symm) rfl
  ·have gp := h3
   refine sem_skip (blkK_n (seqK_n (sem_region rfl (step_bin rfl rfl rfl rfl rfl trivial (step_r rfl rfl trivial (step_nil ?_))))))
   exact lup_again (k+1) (⟨hk, take_all_snoc hI.2 hx gp⟩) (by omega) (less_of rfl ⟨⟨rfl, rfl⟩, ⟨rfl, hcl.belN⟩, ⟨rfl, rfl⟩, ⟨congrArg (fun n => some (I n)) (wrapK hk (by assumption)), rfl⟩, trivial⟩ trivial (fun _ _ => .inr (Nat.zero_le _)))
 ·have hk : k = l.length := by have h := of_decide_eq_false h1; have := hI; omega
  refine sem_exit (seqK_e (lupK_e (blkK_t rfl (seqK_n (sem_seq (sem_region rfl (step_r rfl rfl trivial (step_nil (seqK_n (sem_ret ?_))))))))))
  exact answersR rfl ⟨trivial, trivial⟩ (congrArg I (fidx_none (p := p) hI.2 hk).symm) rfl

theorem ixf_GEffect (l : List GEffect) (l_f : Bool) (cl : FuncId) (caps : List AV) (p : GEffect → Bool) (hcl : Fn1 Tryz.prog cl caps (fun x => [aGEffect x]) (fun x => B (p x))) : Ok Tryz.prog 99 [.pv (.slc l.length l_f (l.flatMap encGEffect)), .fnc cl caps] [] (I (fidx p l)) [] [] := by
 refine Ok.len fun hlen => ?_
 have hl_l : l.length ≤ maxLen := hlen _ (by simp [lensL, lens, lensP])
 unfold maxLen at hl_l
 refine ok_of_sem Tryz.func99 rfl ?_
 show Walks Tryz.prog _ _ ⟨[(0, .pv (.slc l.length l_f (l.flatMap encGEffect))), (1, .fnc cl caps)], [], 0, [], 19, 0⟩
 refine sem_seq (sem_region rfl (step_r rfl rfl trivial (step_nil (seqK_n (sem_seq (sem_seq (sem_region rfl (step_r rfl rfl trivial (step_r rfl rfl trivial (step_r rfl rfl trivial (step_nil ?_)))))))))))
 refine seqK_n (sem_block ?_)
 refine sem_loop_of (fun k : Nat => (⟨[(0, .pv (.slc l.length l_f (l.flatMap encGEffect))), (1, .fnc cl caps), (7, I l.length), (8, I k)], [], 0, [], 19, 0⟩ : St)) (fun k : Nat => k ≤ l.length ∧ ∀ y ∈ l.take k, p y = false) (fun k : Nat => l.length - k) 0 (⟨Nat.zero_le _, by simp⟩) (less_of rfl ⟨⟨rfl, rfl⟩, ⟨rfl, hcl.belN⟩, ⟨rfl, rfl⟩, ⟨rfl, rfl⟩, trivial⟩ trivial (fun _ _ => .inr (Nat.zero_le _))) (fun k hI => ?_)
 show Walks Tryz.prog _ _ (⟨[(0, .pv (.slc l.length l_f (l.flatMap encGEffect))), (1, .fnc cl caps), (7, I l.length), (8, I k)], [], 0, [], 19, 0⟩ : St)
 refine sem_seq (sem_region rfl (step_bin rfl rfl rfl rfl rfl trivial (step_nil (seqK_n (sem_seq ?_)))))
 refine sem_cond rfl (fun h1 => ?_) (fun h1 => ?_)
 ·have hk : k < l.length := by have h := of_decide_eq_true h1; omega
  obtain ⟨x, hx⟩ : ∃ x, l[k]? = some x := ⟨_, List.getElem?_eq_getElem hk⟩
  refine sem_skip (seqK_n (sem_seq (sem_block (sem_seq (sem_region rfl (step_r rfl rfl trivial (step_r rfl rfl trivial (step_nil (seqK_n (sem_seq (sem_region rfl ?_)))))))))))
  refine step_r rfl rfl trivial (step_r rfl rfl trivial (step_r rfl rfl trivial (step_idxS (k := k) rfl rfl rfl rfl hk (flat_ne (s := 3) (enc := encGEffect) (fun _ => rfl) (by decide) hk) rfl (step_load_row rfl rfl rfl (flat_lt (s := 3) (enc := encGEffect) (fun _ => rfl) hk) (flat_take (s := 3) (enc := encGEffect) (fun _ => rfl) hx) rfl ?_))))
  refine step_callF hcl x rfl rfl rfl rfl rfl rfl ?_
  refine step_nil (seqK_n ?_)
  refine sem_cond rfl (fun h3 => ?_) (fun h3 => ?_)
  ·have gp := h3
   refine sem_seq (sem_region rfl (step_r rfl rfl trivial (step_r rfl rfl trivial (step_nil (seqK_n (sem_ret (blkK_r (seqK_r (lupK_r (blkK_r (seqK_r ?_)))))))))))
   exact answersR rfl ⟨trivial, trivial⟩ (congrArg I (fidx_found (p := p) hI.2 hx gp).symm) rfl
  ·have gp := h3
   refine sem_skip (blkK_n (seqK_n (sem_region rfl (step_bin rfl rfl rfl rfl rfl trivial (step_r rfl rfl trivial (step_nil ?_))))))
   exact lup_again (k+1) (⟨hk, take_all_snoc hI.2 hx gp⟩) (by omega) (less_of rfl ⟨⟨rfl, rfl⟩, ⟨rfl, hcl.belN⟩, ⟨rfl, rfl⟩, ⟨congrArg (fun n => some (I n)) (wrapK hk (by assumption)), rfl⟩, trivial⟩ trivial (fun _ _ => .inr (Nat.zero_le _)))
 ·have hk : k = l.length := by have h := of_decide_eq_false h1; have := hI; omega
  refine sem_exit (seqK_e (lupK_e (blkK_t rfl (seqK_n (sem_seq (sem_region rfl (step_r rfl rfl trivial (step_nil (seqK_n (sem_ret ?_))))))))))
  exact answersR rfl ⟨trivial, trivial⟩ (congrArg I (fidx_none (p := p) hI.2 hk).symm) rfl

theorem ixf_GLine (l : List GLine) (l_f : Bool) (cl : FuncId) (caps : List AV) (p : GLine → Bool) (hcl : Fn1 Tryz.prog cl caps (fun x => [aGLine x]) (fun x => B (p x))) : Ok Tryz.prog 100 [.pv (.slc l.length l_f (l.flatMap encGLine)), .fnc cl caps] [] (I (fidx p l)) [] [] := by
 refine Ok.len fun hlen => ?_
 have hl_l : l.length ≤ maxLen := hlen _ (by simp [lensL, lens, lensP])
 unfold maxLen at hl_l
 refine ok_of_sem Tryz.func100 rfl ?_
 show Walks Tryz.prog _ _ ⟨[(0, .pv (.slc l.length l_f (l.flatMap encGLine))), (1, .fnc cl caps)], [], 0, [], 19, 0⟩
 refine sem_seq (sem_region rfl (step_r rfl rfl trivial (step_nil (seqK_n (sem_seq (sem_seq (sem_region rfl (step_r rfl rfl trivial (step_r rfl rfl trivial (step_r rfl rfl trivial (step_nil ?_)))))))))))
 refine seqK_n (sem_block ?_)
 refine sem_loop_of (fun k : Nat => (⟨[(0, .pv (.slc l.length l_f (l.flatMap encGLine))), (1, .fnc cl caps), (7, I l.length), (8, I k)], [], 0, [], 19, 0⟩ : St)) (fun k : Nat => k ≤ l.length ∧ ∀ y ∈ l.take k, p y = false) (fun k : Nat => l.length - k) 0 (⟨Nat.zero_le _, by simp⟩) (less_of rfl ⟨⟨rfl, rfl⟩, ⟨rfl, hcl.belN⟩, ⟨rfl, rfl⟩, ⟨rfl, rfl⟩, trivial⟩ trivial (fun _ _ => .inr (Nat.zero_le _))) (fun k hI => ?_)
 show Walks Tryz.prog _ _ (⟨[(0, .pv (.slc l.length l_f (l.flatMap encGLine))), (1, .fnc cl caps), (7, I l.length), (8, I k)], [], 0, [], 19, 0⟩ : St)
 refine sem_seq (sem_region rfl (step_bin rfl rfl rfl rfl rfl trivial (step_nil (seqK_n (sem_seq ?_)))))
 refine sem_cond rfl (fun h1 => ?_) (fun h1 => ?_)
 ·have hk : k < l.length := by have h := of_decide_eq_true h1; omega
  obtain ⟨x, hx⟩ : ∃ x, l[k]? = some x := ⟨_, List.getElem?_eq_getElem hk⟩
  refine sem_skip (seqK_n (sem_seq (sem_block (sem_seq (sem_region rfl (step_r rfl rfl trivial (step_r rfl rfl trivial (step_nil (seqK_n (sem_seq (sem_region rfl ?_)))))))))))
  refine step_r rfl rfl trivial (step_r rfl rfl trivial (step_r rfl rfl trivial (step_idxS (k := k) rfl rfl rfl rfl hk (flat_ne (s := 5) (enc := encGLine) (fun _ => rfl) (by decide) hk) rfl (step_load_row rfl rfl rfl (flat_lt (s := 5) (enc := encGLine) (fun _ => rfl) hk) (flat_take (s := 5) (enc := encGLine) (fun _ => rfl) hx) rfl ?_))))
  refine step_callF hcl x rfl rfl rfl rfl rfl rfl ?_
  refine step_nil (seqK_n ?_)
  refine sem_cond rfl (fun h3 => ?_) (fun h3 => ?_)
  ·have gp := h3
   refine sem_seq (sem_region rfl (step_r rfl rfl trivial (step_r rfl rfl trivial (step_nil (seqK_n (sem_ret (blkK_r (seqK_r (lupK_r (blkK_r (seqK_r ?_)))))))))))
   exact answersR rfl ⟨trivial, trivial⟩ (congrArg I (fidx_found (p := p) hI.2 hx gp).symm) rfl
  ·have gp := h3
   refine sem_skip (blkK_n (seqK_n (sem_region rfl (step_bin rfl rfl rfl rfl rfl trivial (step_r rfl rfl trivial (step_nil ?_))))))
   exact lup_again (k+1) (⟨hk, take_all_snoc hI.2 hx gp⟩) (by omega) (less_of rfl ⟨⟨rfl, rfl⟩, ⟨rfl, hcl.belN⟩, ⟨rfl, rfl⟩, ⟨congrArg (fun n => some (I n)) (wrapK hk (by assumption)), rfl⟩, trivial⟩ trivial (fun _ _ => .inr (Nat.zero_le _)))
 ·have hk : k = l.length := by have h := of_decide_eq_false h1; have := hI; omega
  refine sem_exit (seqK_e (lupK_e (blkK_t rfl (seqK_n (sem_seq (sem_region rfl (step_r rfl rfl trivial (step_nil (seqK_n (sem_ret ?_))))))))))
  exact answersR rfl ⟨trivial, trivial⟩ (congrArg I (fidx_none (p := p) hI.2 hk).symm) rfl

theorem ixf_GPrize (l : List GPrize) (l_f : Bool) (cl : FuncId) (caps : List AV) (p : GPrize → Bool) (hcl : Fn1 Tryz.prog cl caps (fun x => [aGPrize x]) (fun x => B (p x))) : Ok Tryz.prog 102 [.pv (.slc l.length l_f (l.flatMap encGPrize)), .fnc cl caps] [] (I (fidx p l)) [] [] := by
 refine Ok.len fun hlen => ?_
 have hl_l : l.length ≤ maxLen := hlen _ (by simp [lensL, lens, lensP])
 unfold maxLen at hl_l
 refine ok_of_sem Tryz.func102 rfl ?_
 show Walks Tryz.prog _ _ ⟨[(0, .pv (.slc l.length l_f (l.flatMap encGPrize))), (1, .fnc cl caps)], [], 0, [], 19, 0⟩
 refine sem_seq (sem_region rfl (step_r rfl rfl trivial (step_nil (seqK_n (sem_seq (sem_seq (sem_region rfl (step_r rfl rfl trivial (step_r rfl rfl trivial (step_r rfl rfl trivial (step_nil ?_)))))))))))
 refine seqK_n (sem_block ?_)
 refine sem_loop_of (fun k : Nat => (⟨[(0, .pv (.slc l.length l_f (l.flatMap encGPrize))), (1, .fnc cl caps), (7, I l.length), (8, I k)], [], 0, [], 19, 0⟩ : St)) (fun k : Nat => k ≤ l.length ∧ ∀ y ∈ l.take k, p y = false) (fun k : Nat => l.length - k) 0 (⟨Nat.zero_le _, by simp⟩) (less_of rfl ⟨⟨rfl, rfl⟩, ⟨rfl, hcl.belN⟩, ⟨rfl, rfl⟩, ⟨rfl, rfl⟩, trivial⟩ trivial (fun _ _ => .inr (Nat.zero_le _))) (fun k hI => ?_)
 show Walks Tryz.prog _ _ (⟨[(0, .pv (.slc l.length l_f (l.flatMap encGPrize))), (1, .fnc cl caps), (7, I l.length), (8, I k)], [], 0, [], 19, 0⟩ : St)
 refine sem_seq (sem_region rfl (step_bin rfl rfl rfl rfl rfl trivial (step_nil (seqK_n (sem_seq ?_)))))
 refine sem_cond rfl (fun h1 => ?_) (fun h1 => ?_)
 ·have hk : k < l.length := by have h := of_decide_eq_true h1; omega
  obtain ⟨x, hx⟩ : ∃ x, l[k]? = some x := ⟨_, List.getElem?_eq_getElem hk⟩
  refine sem_skip (seqK_n (sem_seq (sem_block (sem_seq (sem_region rfl (step_r rfl rfl trivial (step_r rfl rfl trivial (step_nil (seqK_n (sem_seq (sem_region rfl ?_)))))))))))
  refine step_r rfl rfl trivial (step_r rfl rfl trivial (step_r rfl rfl trivial (step_idxS (k := k) rfl rfl rfl rfl hk (flat_ne (s := 2) (enc := encGPrize) (fun _ => rfl) (by decide) hk) rfl (step_load_row rfl rfl rfl (flat_lt (s := 2) (enc := encGPrize) (fun _ => rfl) hk) (flat_take (s := 2) (enc := encGPrize) (fun _ => rfl) hx) rfl ?_))))
  refine step_callF hcl x rfl rfl rfl rfl rfl rfl ?_
  refine step_nil (seqK_n ?_)
  refine sem_cond rfl (fun h3 => ?_) (fun h3 => ?_)
  ·have gp := h3
   refine sem_seq (sem_region rfl (step_r rfl rfl trivial (step_r rfl rfl trivial (step_nil (seqK_n (sem_ret (blkK_r (seqK_r (lupK_r (blkK_r (seqK_r ?_)))))))))))
   exact answersR rfl ⟨trivial, trivial⟩ (congrArg I (fidx_found (p := p) hI.2 hx gp).symm) rfl
  ·have gp := h3
   refine sem_skip (blkK_n (seqK_n (sem_region rfl (step_bin rfl rfl rfl rfl rfl trivial (step_r rfl rfl trivial (step_nil ?_))))))
   exact lup_again (k+1) (⟨hk, take_all_snoc hI.2 hx gp⟩) (by omega) (less_of rfl ⟨⟨rfl, rfl⟩, ⟨rfl, hcl.belN⟩, ⟨rfl, rfl⟩, ⟨congrArg (fun n => some (I n)) (wrapK hk (by assumption)), rfl⟩, trivial⟩ trivial (fun _ _ => .inr (Nat.zero_le _)))
 ·have hk : k = l.length := by have h := of_decide_eq_false h1; have := hI; omega
  refine sem_exit (seqK_e (lupK_e (blkK_t rfl (seqK_n (sem_seq (sem_region rfl (step_r rfl rfl trivial (step_nil (seqK_n (sem_ret ?_))))))))))
  exact answersR rfl ⟨trivial, trivial⟩ (congrArg I (fidx_none (p := p) hI.2 hk).symm) rfl

structure GShield where
  (Aura : Int)
  (Left : Int)
  deriving DecidableEq, Inhabited
def encGShield (x : GShield) : List PV := [i64 x.Aura, i64 x.Left]
abbrev aGShield (x : GShield) : AV := .agg [I x.Aura, I x.Left]
def wfGShield (x : GShield) : Prop := (InR x.Aura) ∧ (InR x.Left)
theorem encGShield_solid {l : List GShield} : ∀ p ∈ l.flatMap encGShield, solidP p = true := flat_solid (fun x p h => by simp only [encGShield, List.mem_cons, List.mem_nil_iff, or_false] at h; rcases h with rfl | rfl <;> rfl)

theorem clone_GShield_nil  : Ok Tryz.prog 107 [.pv .nils] [] (.ref 0 2 0 0) [.row 160 2 []] [] := by
 refine ok_of_sem Tryz.func107 rfl ?_
 show Walks Tryz.prog _ _ ⟨[(0, .pv .nils)], [], 0, [], 8, 0⟩
 refine sem_seq (sem_region rfl (step_n (nx' := 1) rfl rfl rfl trivial (step_nil (seqK_n (sem_seq (sem_seq (sem_region rfl (step_r rfl rfl trivial (step_r rfl rfl trivial (step_nil (seqK_n ?_)))))))))))
 refine sem_cond rfl (fun h1 => ?_) (fun h1 => ?_)
 ·skip
  refine sem_seq (sem_region rfl (step_n (nx' := 2) rfl rfl rfl trivial (step_nil (seqK_n (sem_ret (seqK_r ?_))))))
  exact answersGR [] [1] rfl ⟨trivial, trivial⟩ rfl (by (repeat' apply And.intro) <;> first | trivial | rfl | exact flat_len (fun _ => rfl) _ | exact encI_len _ | assumption) (rfl) rfl rfl rfl (by decide) rfl rfl ⟨⟨rfl, rfl⟩, trivial⟩
 ·cases h1

theorem clone_GShield_nnl (l : List GShield) (hl : l.length ≤ 16777216) : Ok Tryz.prog 107 [.pv (.nnl l.length (l.flatMap encGShield))] [] (.ref 0 2 0 l.length) [.row 160 2 (l.flatMap encGShield)] [] := by
 refine ok_of_sem Tryz.func107 rfl ?_
 show Walks Tryz.prog _ _ ⟨[(0, .pv (.nnl l.length (l.flatMap encGShield)))], [], 0, [], 8, 0⟩
 refine sem_seq (sem_region rfl (step_n (nx' := 1) rfl rfl rfl trivial (step_nil (seqK_n (sem_seq (sem_seq (sem_region rfl (step_r rfl rfl trivial (step_r rfl rfl trivial (step_nil (seqK_n ?_)))))))))))
 refine sem_cond rfl (fun h1 => ?_) (fun h1 => ?_)
 ·cases h1
 ·skip
  refine sem_skip (seqK_n (sem_seq (sem_region rfl (step_r rfl rfl ⟨by decide, rfl⟩ (step_r rfl rfl trivial ?_)))))
  refine step_appendN (m := l.length) (new := l.flatMap encGShield) (cs' := l.flatMap encGShield) (n' := l.length) rfl rfl (rfl) rfl rfl rfl rfl rfl rfl (flat_len (s := 2) (enc := encGShield) (fun _ => rfl) l) (by first | decide | (unfold maxGrow; omega) | (unfold maxGrow; simp; omega) | (unfold maxGrow; simp only [List.length_append, List.length_take, List.length_drop, List.length_cons, List.length_nil, IntKind.wrap_i64] at *; omega)) rfl rfl rfl rfl ?_
  refine step_r rfl rfl trivial (step_nil (seqK_n (sem_ret ?_)))
  exact answersGR [] [1] rfl ⟨trivial, trivial⟩ rfl (by (repeat' apply And.intro) <;> first | trivial | rfl | exact flat_len (fun _ => rfl) _ | exact encI_len _ | assumption) (rfl) rfl rfl rfl (by decide) rfl rfl ⟨⟨rfl, rfl⟩, trivial⟩

theorem clone_GShield (l : List GShield) (full : Bool) (hl : l.length ≤ 16777216) : Ok Tryz.prog 107 [.pv (.slc l.length full (l.flatMap encGShield))] [] (.ref 0 2 0 l.length) [.row 160 2 (l.flatMap encGShield)] [] := by
  refine Ok.slc1 (fun h1 h2 => ?_) (clone_GShield_nnl l hl)
  rw [h1, h2]; exact clone_GShield_nil

theorem ix_Int (l : List Int) (l_f : Bool) (v : Int) : Ok Tryz.prog 108 [.pv (.slc l.length l_f (encI l)), I v] [] (I (fidx (fun x => v == x) l)) [] [] := by
 refine Ok.len fun hlen => ?_
 have hl_l : l.length ≤ maxLen := hlen _ (by simp [lensL, lens, lensP])
 unfold maxLen at hl_l
 refine ok_of_sem Tryz.func108 rfl ?_
 show Walks Tryz.prog _ _ ⟨[(0, .pv (.slc l.length l_f (encI l))), (1, I v)], [], 0, [], 19, 0⟩
 refine sem_seq (sem_region rfl (step_r rfl rfl trivial (step_nil (seqK_n (sem_seq (sem_seq (sem_region rfl (step_r rfl rfl trivial (step_r rfl rfl trivial (step_r rfl rfl trivial (step_nil ?_)))))))))))
 refine seqK_n (sem_block ?_)
 refine sem_loop_of (fun k : Nat => (⟨[(0, .pv (.slc l.length l_f (encI l))), (1, I v), (7, I l.length), (8, I k)], [], 0, [], 19, 0⟩ : St)) (fun k : Nat => k ≤ l.length ∧ ∀ y ∈ l.take k, (v == y) = false) (fun k : Nat => l.length - k) 0 (⟨Nat.zero_le _, by simp⟩) (less_of rfl ⟨⟨rfl, rfl⟩, ⟨rfl, rfl⟩, ⟨rfl, rfl⟩, ⟨rfl, rfl⟩, trivial⟩ trivial (fun _ _ => .inr (Nat.zero_le _))) (fun k hI => ?_)
 show Walks Tryz.prog _ _ (⟨[(0, .pv (.slc l.length l_f (encI l))), (1, I v), (7, I l.length), (8, I k)], [], 0, [], 19, 0⟩ : St)
 refine sem_seq (sem_region rfl (step_bin rfl rfl rfl rfl rfl trivial (step_nil (seqK_n (sem_seq ?_)))))
 refine sem_cond rfl (fun h1 => ?_) (fun h1 => ?_)
 ·have hk : k < l.length := by have h := of_decide_eq_true h1; omega
  obtain ⟨x, hx⟩ : ∃ x, l[k]? = some x := ⟨_, List.getElem?_eq_getElem hk⟩
  refine sem_skip (seqK_n (sem_seq (sem_block (sem_seq (sem_region rfl (step_r rfl rfl trivial (step_r rfl rfl trivial (step_nil (seqK_n (sem_seq (sem_region rfl ?_)))))))))))
  refine step_r rfl rfl trivial (step_r rfl rfl trivial (step_r rfl rfl trivial (step_idxS (k := k) rfl rfl rfl rfl hk (encI_ne hk) rfl (step_load_one rfl rfl rfl (encI_get hx) rfl (step_bin rfl rfl rfl rfl rfl trivial (step_nil (seqK_n ?_)))))))
  refine sem_cond rfl (fun h4 => ?_) (fun h4 => ?_)
  ·have gp := h4
   refine sem_seq (sem_region rfl (step_r rfl rfl trivial (step_r rfl rfl trivial (step_nil (seqK_n (sem_ret (blkK_r (seqK_r (lupK_r (blkK_r (seqK_r ?_)))))))))))
   exact answersR rfl ⟨trivial, trivial⟩ (congrArg I (fidx_found (p := fun x => v == x) hI.2 hx gp).symm) rfl
  ·have gp := h4
   refine sem_skip (blkK_n (seqK_n (sem_region rfl (step_bin rfl rfl rfl rfl rfl trivial (step_r rfl rfl trivial (step_nil ?_))))))
   exact lup_again (k+1) (⟨hk, take_all_snoc hI.2 hx gp⟩) (by omega) (less_of rfl ⟨⟨rfl, rfl⟩, ⟨rfl, rfl⟩, ⟨rfl, rfl⟩, ⟨congrArg (fun n => some (I n)) (wrapK hk (by assumption)), rfl⟩, trivial⟩ trivial (fun _ _ => .inr (Nat.zero_le _)))
 ·have hk : k = l.length := by have h := of_decide_eq_false h1; have := hI; omega
  refine sem_exit (seqK_e (lupK_e (blkK_t rfl (seqK_n (sem_seq (sem_region rfl (step_r rfl rfl trivial (step_nil (seqK_n (sem_ret ?_))))))))))
  exact answersR rfl ⟨trivial, trivial⟩ (congrArg I (fidx_none (p := fun x => v == x) hI.2 hk).symm) rfl

theorem ixf_Int (l : List Int) (l_f : Bool) (cl : FuncId) (caps : List AV) (p : Int → Bool) (hcl : Fn1 Tryz.prog cl caps (fun x => [I x]) (fun x => B (p x))) : Ok Tryz.prog 109 [.pv (.slc l.length l_f (encI l)), .fnc cl caps] [] (I (fidx p l)) [] [] := by
 refine Ok.len fun hlen => ?_
 have hl_l : l.length ≤ maxLen := hlen _ (by simp [lensL, lens, lensP])
 unfold maxLen at hl_l
 refine ok_of_sem Tryz.func109 rfl ?_
 show Walks Tryz.prog _ _ ⟨[(0, .pv (.slc l.length l_f (encI l))), (1, .fnc cl caps)], [], 0, [], 19, 0⟩
 refine sem_seq (sem_region rfl (step_r rfl rfl trivial (step_nil (seqK_n (sem_seq (sem_seq (sem_region rfl (step_r rfl rfl trivial (step_r rfl rfl trivial (step_r rfl rfl trivial (step_nil ?_)))))))))))
 refine seqK_n (sem_block ?_)
 refine sem_loop_of (fun k : Nat => (⟨[(0, .pv (.slc l.length l_f (encI l))), (1, .fnc cl caps), (7, I l.length), (8, I k)], [], 0, [], 19, 0⟩ : St)) (fun k : Nat => k ≤ l.length ∧ ∀ y ∈ l.take k, p y = false) (fun k : Nat => l.length - k) 0 (⟨Nat.zero_le _, by simp⟩) (less_of rfl ⟨⟨rfl, rfl⟩, ⟨rfl, hcl.belN⟩, ⟨rfl, rfl⟩, ⟨rfl, rfl⟩, trivial⟩ trivial (fun _ _ => .inr (Nat.zero_le _))) (fun k hI => ?_)
 show Walks Tryz.prog _ _ (⟨[(0, .pv (.slc l.length l_f (encI l))), (1, .fnc cl caps), (7, I l.length), (8, I k)], [], 0, [], 19, 0⟩ : St)
 refine sem_seq (sem_region rfl (step_bin rfl rfl rfl rfl rfl trivial (step_nil (seqK_n (sem_seq ?_)))))
 refine sem_cond rfl (fun h1 => ?_) (fun h1 => ?_)
 ·have hk : k < l.length := by have h := of_decide_eq_true h1; omega
  obtain ⟨x, hx⟩ : ∃ x, l[k]? = some x := ⟨_, List.getElem?_eq_getElem hk⟩
  refine sem_skip (seqK_n (sem_seq (sem_block (sem_seq (sem_region rfl (step_r rfl rfl trivial (step_r rfl rfl trivial (step_nil (seqK_n (sem_seq (sem_region rfl ?_)))))))))))
  refine step_r rfl rfl trivial (step_r rfl rfl trivial (step_r rfl rfl trivial (step_idxS (k := k) rfl rfl rfl rfl hk (encI_ne hk) rfl (step_load_one rfl rfl rfl (encI_get hx) rfl ?_))))
  refine step_callF hcl x rfl rfl rfl rfl rfl rfl ?_
  refine step_nil (seqK_n ?_)
  refine sem_cond rfl (fun h3 => ?_) (fun h3 => ?_)
  ·have gp := h3
   refine sem_seq (sem_region rfl (step_r rfl rfl trivial (step_r rfl rfl trivial (step_nil (seqK_n (sem_ret (blkK_r (seqK_r (lupK_r (blkK_r (seqK_r ?_)))))))))))
   exact answersR rfl ⟨trivial, trivial⟩ (congrArg I (fidx_found (p := p) hI.2 hx gp).symm) rfl
  ·have gp := h3
   refine sem_skip (blkK_n (seqK_n (sem_region rfl (step_bin rfl rfl rfl rfl rfl trivial (step_r rfl rfl trivial (step_nil ?_))))))
   exact lup_again (k+1) (⟨hk, take_all_snoc hI.2 hx gp⟩) (by omega) (less_of rfl ⟨⟨rfl, rfl⟩, ⟨rfl, hcl.belN⟩, ⟨rfl, rfl⟩, ⟨congrArg (fun n => some (I n)) (wrapK hk (by assumption)), rfl⟩, trivial⟩ trivial (fun _ _ => .inr (Nat.zero_le _)))
 ·have hk : k = l.length := by have h := of_decide_eq_false h1; have := hI; omega
  refine sem_exit (seqK_e (lupK_e (blkK_t rfl (seqK_n (sem_seq (sem_region rfl (step_r rfl rfl trivial (step_nil (seqK_n (sem_ret ?_))))))))))
  exact answersR rfl ⟨trivial, trivial⟩ (congrArg I (fidx_none (p := p) hI.2 hk).symm) rfl

structure GAbility where
  (Id : Int)
  (Cast : Int)
  (Cool : Int)
  (Charges : Int)
  (Range : Int)
  (Cost : Int)
  (Sight : Bool)
  (Effects : List GEffect)
  deriving DecidableEq, Inhabited
def encGAbility (x : GAbility) : List PV := [i64 x.Id, i64 x.Cast, i64 x.Cool, i64 x.Charges, i64 x.Range, i64 x.Cost, .bool x.Sight, .slc x.Effects.length false (x.Effects.flatMap encGEffect)]
abbrev aGAbility (x : GAbility) : AV := .agg [I x.Id, I x.Cast, I x.Cool, I x.Charges, I x.Range, I x.Cost, B x.Sight, .pv (.slc x.Effects.length false (x.Effects.flatMap encGEffect))]
def wfGAbility (x : GAbility) : Prop := (InR x.Id) ∧ (InR x.Cast) ∧ (InR x.Cool) ∧ (InR x.Charges) ∧ (InR x.Range) ∧ (InR x.Cost) ∧ ((∀ y ∈ x.Effects, wfGEffect y) ∧ x.Effects.length ≤ 140737488355328)

theorem ixf_GAbility (l : List GAbility) (l_f : Bool) (cl : FuncId) (caps : List AV) (p : GAbility → Bool) (hcl : Fn1 Tryz.prog cl caps (fun x => [aGAbility x]) (fun x => B (p x))) : Ok Tryz.prog 114 [.pv (.slc l.length l_f (l.flatMap encGAbility)), .fnc cl caps] [] (I (fidx p l)) [] [] := by
 refine Ok.len fun hlen => ?_
 have hl_l : l.length ≤ maxLen := hlen _ (by simp [lensL, lens, lensP])
 unfold maxLen at hl_l
 refine ok_of_sem Tryz.func114 rfl ?_
 show Walks Tryz.prog _ _ ⟨[(0, .pv (.slc l.length l_f (l.flatMap encGAbility))), (1, .fnc cl caps)], [], 0, [], 19, 0⟩
 refine sem_seq (sem_region rfl (step_r rfl rfl trivial (step_nil (seqK_n (sem_seq (sem_seq (sem_region rfl (step_r rfl rfl trivial (step_r rfl rfl trivial (step_r rfl rfl trivial (step_nil ?_)))))))))))
 refine seqK_n (sem_block ?_)
 refine sem_loop_of (fun k : Nat => (⟨[(0, .pv (.slc l.length l_f (l.flatMap encGAbility))), (1, .fnc cl caps), (7, I l.length), (8, I k)], [], 0, [], 19, 0⟩ : St)) (fun k : Nat => k ≤ l.length ∧ ∀ y ∈ l.take k, p y = false) (fun k : Nat => l.length - k) 0 (⟨Nat.zero_le _, by simp⟩) (less_of rfl ⟨⟨rfl, rfl⟩, ⟨rfl, hcl.belN⟩, ⟨rfl, rfl⟩, ⟨rfl, rfl⟩, trivial⟩ trivial (fun _ _ => .inr (Nat.zero_le _))) (fun k hI => ?_)
 show Walks Tryz.prog _ _ (⟨[(0, .pv (.slc l.length l_f (l.flatMap encGAbility))), (1, .fnc cl caps), (7, I l.length), (8, I k)], [], 0, [], 19, 0⟩ : St)
 refine sem_seq (sem_region rfl (step_bin rfl rfl rfl rfl rfl trivial (step_nil (seqK_n (sem_seq ?_)))))
 refine sem_cond rfl (fun h1 => ?_) (fun h1 => ?_)
 ·have hk : k < l.length := by have h := of_decide_eq_true h1; omega
  obtain ⟨x, hx⟩ : ∃ x, l[k]? = some x := ⟨_, List.getElem?_eq_getElem hk⟩
  refine sem_skip (seqK_n (sem_seq (sem_block (sem_seq (sem_region rfl (step_r rfl rfl trivial (step_r rfl rfl trivial (step_nil (seqK_n (sem_seq (sem_region rfl ?_)))))))))))
  refine step_r rfl rfl trivial (step_r rfl rfl trivial (step_r rfl rfl trivial (step_idxS (k := k) rfl rfl rfl rfl hk (flat_ne (s := 8) (enc := encGAbility) (fun _ => rfl) (by decide) hk) rfl (step_load_row rfl rfl rfl (flat_lt (s := 8) (enc := encGAbility) (fun _ => rfl) hk) (flat_take (s := 8) (enc := encGAbility) (fun _ => rfl) hx) rfl ?_))))
  refine step_callF hcl x rfl rfl rfl rfl rfl rfl ?_
  refine step_nil (seqK_n ?_)
  refine sem_cond rfl (fun h3 => ?_) (fun h3 => ?_)
  ·have gp := h3
   refine sem_seq (sem_region rfl (step_r rfl rfl trivial (step_r rfl rfl trivial (step_nil (seqK_n (sem_ret (blkK_r (seqK_r (lupK_r (blkK_r (seqK_r ?_)))))))))))
   exact answersR rfl ⟨trivial, trivial⟩ (congrArg I (fidx_found (p := p) hI.2 hx gp).symm) rfl
  ·have gp := h3
   refine sem_skip (blkK_n (seqK_n (sem_region rfl (step_bin rfl rfl rfl rfl rfl trivial (step_r rfl rfl trivial (step_nil ?_))))))
   exact lup_again (k+1) (⟨hk, take_all_snoc hI.2 hx gp⟩) (by omega) (less_of rfl ⟨⟨rfl, rfl⟩, ⟨rfl, hcl.belN⟩, ⟨rfl, rfl⟩, ⟨congrArg (fun n => some (I n)) (wrapK hk (by assumption)), rfl⟩, trivial⟩ trivial (fun _ _ => .inr (Nat.zero_le _)))
 ·have hk : k = l.length := by have h := of_decide_eq_false h1; have := hI; omega
  refine sem_exit (seqK_e (lupK_e (blkK_t rfl (seqK_n (sem_seq (sem_region rfl (step_r rfl rfl trivial (step_nil (seqK_n (sem_ret ?_))))))))))
  exact answersR rfl ⟨trivial, trivial⟩ (congrArg I (fidx_none (p := p) hI.2 hk).symm) rfl

theorem clone_GEffect_nil  : Ok Tryz.prog 116 [.pv .nils] [] (.ref 0 3 0 0) [.row 53 3 []] [] := by
 refine ok_of_sem Tryz.func116 rfl ?_
 show Walks Tryz.prog _ _ ⟨[(0, .pv .nils)], [], 0, [], 8, 0⟩
 refine sem_seq (sem_region rfl (step_n (nx' := 1) rfl rfl rfl trivial (step_nil (seqK_n (sem_seq (sem_seq (sem_region rfl (step_r rfl rfl trivial (step_r rfl rfl trivial (step_nil (seqK_n ?_)))))))))))
 refine sem_cond rfl (fun h1 => ?_) (fun h1 => ?_)
 ·skip
  refine sem_seq (sem_region rfl (step_n (nx' := 2) rfl rfl rfl trivial (step_nil (seqK_n (sem_ret (seqK_r ?_))))))
  exact answersGR [] [1] rfl ⟨trivial, trivial⟩ rfl (by (repeat' apply And.intro) <;> first | trivial | rfl | exact flat_len (fun _ => rfl) _ | exact encI_len _ | assumption) (rfl) rfl rfl rfl (by decide) rfl rfl ⟨⟨rfl, rfl⟩, trivial⟩
 ·cases h1

theorem clone_GEffect_nnl (l : List GEffect) (hl : l.length ≤ 16777216) : Ok Tryz.prog 116 [.pv (.nnl l.length (l.flatMap encGEffect))] [] (.ref 0 3 0 l.length) [.row 53 3 (l.flatMap encGEffect)] [] := by
 refine ok_of_sem Tryz.func116 rfl ?_
 show Walks Tryz.prog _ _ ⟨[(0, .pv (.nnl l.length (l.flatMap encGEffect)))], [], 0, [], 8, 0⟩
 refine sem_seq (sem_region rfl (step_n (nx' := 1) rfl rfl rfl trivial (step_nil (seqK_n (sem_seq (sem_seq (sem_region rfl (step_r rfl rfl trivial (step_r rfl rfl trivial (step_nil (seqK_n ?_)))))))))))
 refine sem_cond rfl (fun h1 => ?_) (fun h1 => ?_)
 ·cases h1
 ·skip
  refine sem_skip (seqK_n (sem_seq (sem_region rfl (step_r rfl rfl ⟨by decide, rfl⟩ (step_r rfl rfl trivial ?_)))))
  refine step_appendN (m := l.length) (new := l.flatMap encGEffect) (cs' := l.flatMap encGEffect) (n' := l.length) rfl rfl (rfl) rfl rfl rfl rfl rfl rfl (flat_len (s := 3) (enc := encGEffect) (fun _ => rfl) l) (by first | decide | (unfold maxGrow; omega) | (unfold maxGrow; simp; omega) | (unfold maxGrow; simp only [List.length_append, List.length_take, List.length_drop, List.length_cons, List.length_nil, IntKind.wrap_i64] at *; omega)) rfl rfl rfl rfl ?_
  refine step_r rfl rfl trivial (step_nil (seqK_n (sem_ret ?_)))
  exact answersGR [] [1] rfl ⟨trivial, trivial⟩ rfl (by (repeat' apply And.intro) <;> first | trivial | rfl | exact flat_len (fun _ => rfl) _ | exact encI_len _ | assumption) (rfl) rfl rfl rfl (by decide) rfl rfl ⟨⟨rfl, rfl⟩, trivial⟩

theorem clone_GEffect (l : List GEffect) (full : Bool) (hl : l.length ≤ 16777216) : Ok Tryz.prog 116 [.pv (.slc l.length full (l.flatMap encGEffect))] [] (.ref 0 3 0 l.length) [.row 53 3 (l.flatMap encGEffect)] [] := by
  refine Ok.slc1 (fun h1 h2 => ?_) (clone_GEffect_nnl l hl)
  rw [h1, h2]; exact clone_GEffect_nil

theorem hasf_GEffect (l : List GEffect) (l_f : Bool) (cl : FuncId) (caps : List AV) (p : GEffect → Bool) (hcl : Fn1 Tryz.prog cl caps (fun x => [aGEffect x]) (fun x => B (p x))) : Ok Tryz.prog 72 [.pv (.slc l.length l_f (l.flatMap encGEffect)), .fnc cl caps] [] (B (l.any p)) [] [] := by
 refine Ok.len fun hlen => ?_
 have hl_l : l.length ≤ maxLen := hlen _ (by simp [lensL, lens, lensP])
 unfold maxLen at hl_l
 refine ok_of_sem Tryz.func72 rfl ?_
 show Walks Tryz.prog _ _ ⟨[(0, .pv (.slc l.length l_f (l.flatMap encGEffect))), (1, .fnc cl caps)], [], 0, [], 9, 0⟩
 refine sem_seq (sem_region rfl (step_r rfl rfl trivial (step_nil (seqK_n (sem_seq (sem_region rfl (step_r rfl rfl trivial (step_r rfl rfl trivial (step_call rfl rfl rfl rfl (ixf_GEffect l l_f cl caps p hcl) hcl.belA rfl rfl (step_bin rfl rfl rfl rfl rfl trivial (step_r rfl rfl trivial ?_)))))))))))
 refine step_nil (seqK_n (sem_ret ?_))
 exact answersR rfl ⟨trivial, trivial⟩ (congrArg B any_fidx) rfl

theorem hasf_GLine (l : List GLine) (l_f : Bool) (cl : FuncId) (caps : List AV) (p : GLine → Bool) (hcl : Fn1 Tryz.prog cl caps (fun x => [aGLine x]) (fun x => B (p x))) : Ok Tryz.prog 75 [.pv (.slc l.length l_f (l.flatMap encGLine)), .fnc cl caps] [] (B (l.any p)) [] [] := by
 refine Ok.len fun hlen => ?_
 have hl_l : l.length ≤ maxLen := hlen _ (by simp [lensL, lens, lensP])
 unfold maxLen at hl_l
 refine ok_of_sem Tryz.func75 rfl ?_
 show Walks Tryz.prog _ _ ⟨[(0, .pv (.slc l.length l_f (l.flatMap encGLine))), (1, .fnc cl caps)], [], 0, [], 9, 0⟩
 refine sem_seq (sem_region rfl (step_r rfl rfl trivial (step_nil (seqK_n (sem_seq (sem_region rfl (step_r rfl rfl trivial (step_r rfl rfl trivial (step_call rfl rfl rfl rfl (ixf_GLine l l_f cl caps p hcl) hcl.belA rfl rfl (step_bin rfl rfl rfl rfl rfl trivial (step_r rfl rfl trivial ?_)))))))))))
 refine step_nil (seqK_n (sem_ret ?_))
 exact answersR rfl ⟨trivial, trivial⟩ (congrArg B any_fidx) rfl

theorem hasf_GPrize (l : List GPrize) (l_f : Bool) (cl : FuncId) (caps : List AV) (p : GPrize → Bool) (hcl : Fn1 Tryz.prog cl caps (fun x => [aGPrize x]) (fun x => B (p x))) : Ok Tryz.prog 78 [.pv (.slc l.length l_f (l.flatMap encGPrize)), .fnc cl caps] [] (B (l.any p)) [] [] := by
 refine Ok.len fun hlen => ?_
 have hl_l : l.length ≤ maxLen := hlen _ (by simp [lensL, lens, lensP])
 unfold maxLen at hl_l
 refine ok_of_sem Tryz.func78 rfl ?_
 show Walks Tryz.prog _ _ ⟨[(0, .pv (.slc l.length l_f (l.flatMap encGPrize))), (1, .fnc cl caps)], [], 0, [], 9, 0⟩
 refine sem_seq (sem_region rfl (step_r rfl rfl trivial (step_nil (seqK_n (sem_seq (sem_region rfl (step_r rfl rfl trivial (step_r rfl rfl trivial (step_call rfl rfl rfl rfl (ixf_GPrize l l_f cl caps p hcl) hcl.belA rfl rfl (step_bin rfl rfl rfl rfl rfl trivial (step_r rfl rfl trivial ?_)))))))))))
 refine step_nil (seqK_n (sem_ret ?_))
 exact answersR rfl ⟨trivial, trivial⟩ (congrArg B any_fidx) rfl

theorem has_Int (l : List Int) (l_f : Bool) (v : Int) : Ok Tryz.prog 95 [.pv (.slc l.length l_f (encI l)), I v] [] (B (decide ((v : Int) ∈ l))) [] [] := by
 refine Ok.len fun hlen => ?_
 have hl_l : l.length ≤ maxLen := hlen _ (by simp [lensL, lens, lensP])
 unfold maxLen at hl_l
 refine ok_of_sem Tryz.func95 rfl ?_
 show Walks Tryz.prog _ _ ⟨[(0, .pv (.slc l.length l_f (encI l))), (1, I v)], [], 0, [], 9, 0⟩
 refine sem_seq (sem_region rfl (step_r rfl rfl trivial (step_nil (seqK_n (sem_seq (sem_region rfl (step_r rfl rfl trivial (step_r rfl rfl trivial (step_call rfl rfl rfl rfl (ix_Int l l_f v) rfl rfl rfl (step_bin rfl rfl rfl rfl rfl trivial (step_r rfl rfl trivial ?_)))))))))))
 refine step_nil (seqK_n (sem_ret ?_))
 exact answersR rfl ⟨trivial, trivial⟩ (congrArg B (mem_fidx (fun _ => rfl))) rfl

theorem hasf_Int (l : List Int) (l_f : Bool) (cl : FuncId) (caps : List AV) (p : Int → Bool) (hcl : Fn1 Tryz.prog cl caps (fun x => [I x]) (fun x => B (p x))) : Ok Tryz.prog 97 [.pv (.slc l.length l_f (encI l)), .fnc cl caps] [] (B (l.any p)) [] [] := by
 refine Ok.len fun hlen => ?_
 have hl_l : l.length ≤ maxLen := hlen _ (by simp [lensL, lens, lensP])
 unfold maxLen at hl_l
 refine ok_of_sem Tryz.func97 rfl ?_
 show Walks Tryz.prog _ _ ⟨[(0, .pv (.slc l.length l_f (encI l))), (1, .fnc cl caps)], [], 0, [], 9, 0⟩
 refine sem_seq (sem_region rfl (step_r rfl rfl trivial (step_nil (seqK_n (sem_seq (sem_region rfl (step_r rfl rfl trivial (step_r rfl rfl trivial (step_call rfl rfl rfl rfl (ixf_Int l l_f cl caps p hcl) hcl.belA rfl rfl (step_bin rfl rfl rfl rfl rfl trivial (step_r rfl rfl trivial ?_)))))))))))
 refine step_nil (seqK_n (sem_ret ?_))
 exact answersR rfl ⟨trivial, trivial⟩ (congrArg B any_fidx) rfl
end Go.Proofs.YtmijbjpdjggppaaGreat

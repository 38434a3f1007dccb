import Derived.Test.YtnboadipofkcjaaDoorBase
namespace Go.Proofs.YtnboadipofkcjaaDoor
open Go Go.RowKit Go.Proofs.YtnboadipofkcjaaDoorVm
attribute [local irreducible] opsWp AnswersE OpsS
set_option maxHeartbeats 400000
set_option maxRecDepth 100000
set_option linter.all false
theorem any_take_snoc {α : Type} {l : List α} {k : Nat} {x : α} (hx : l[k]? = some x) {n : Int} : True := trivial

structure GLock where
  (Name : List UInt8)
  (Foe : Int)
  (Until : Int)
  deriving DecidableEq, Inhabited
def encGLock (x : GLock) : List PV := [.str x.Name, i64 x.Foe, i64 x.Until]
abbrev aGLock (x : GLock) : AV := .agg [.pv (.str x.Name), I x.Foe, I x.Until]
def wfGLock (x : GLock) : Prop := (x.Name.length ≤ maxLen) ∧ (InR x.Foe) ∧ (InR x.Until)
theorem encGLock_solid {l : List GLock} : ∀ p ∈ l.flatMap encGLock, solidP p = true := flat_solid (fun x p h => by simp only [encGLock, List.mem_cons, List.mem_nil_iff, or_false] at h; rcases h with rfl | rfl | rfl <;> rfl)

theorem clone_GLock_nil  : Ok Tryd.prog 29 [.pv .nils] [] (.ref 0 3 0 0) [.row 24 3 []] [] := by
 refine ok_of_sem Tryd.func29 rfl ?_
 show Walks Tryd.prog _ _ ⟨[(0, .pv .nils)], [], 0, [], 8, 0⟩
 refine sem_seq (sem_region rfl (step_n (nx' := 1) rfl rfl rfl trivial (step_nil (seqK_n (sem_seq (sem_seq (sem_region rfl (step_r rfl rfl trivial (step_r rfl rfl trivial (step_nil (seqK_n ?_)))))))))))
 refine sem_cond rfl (fun h1 => ?_) (fun h1 => ?_)
 ·skip
  refine sem_seq (sem_region rfl (step_n (nx' := 2) rfl rfl rfl trivial (step_nil (seqK_n (sem_ret (seqK_r ?_))))))
  exact answersGR [] [1] rfl ⟨trivial, trivial⟩ rfl (by (repeat' apply And.intro) <;> first | trivial | rfl | exact flat_len (fun _ => rfl) _ | exact encI_len _ | assumption) (rfl) rfl rfl rfl (by decide) rfl rfl ⟨⟨rfl, rfl⟩, trivial⟩
 ·cases h1

theorem clone_GLock_nnl (l : List GLock) (hl : l.length ≤ 16777216) : Ok Tryd.prog 29 [.pv (.nnl l.length (l.flatMap encGLock))] [] (.ref 0 3 0 l.length) [.row 24 3 (l.flatMap encGLock)] [] := by
 refine ok_of_sem Tryd.func29 rfl ?_
 show Walks Tryd.prog _ _ ⟨[(0, .pv (.nnl l.length (l.flatMap encGLock)))], [], 0, [], 8, 0⟩
 refine sem_seq (sem_region rfl (step_n (nx' := 1) rfl rfl rfl trivial (step_nil (seqK_n (sem_seq (sem_seq (sem_region rfl (step_r rfl rfl trivial (step_r rfl rfl trivial (step_nil (seqK_n ?_)))))))))))
 refine sem_cond rfl (fun h1 => ?_) (fun h1 => ?_)
 ·cases h1
 ·skip
  refine sem_skip (seqK_n (sem_seq (sem_region rfl (step_r rfl rfl ⟨by decide, rfl⟩ (step_r rfl rfl trivial ?_)))))
  refine step_appendN (m := l.length) (new := l.flatMap encGLock) (cs' := l.flatMap encGLock) (n' := l.length) rfl rfl (rfl) rfl rfl rfl rfl rfl rfl (flat_len (s := 3) (enc := encGLock) (fun _ => rfl) l) (by first | decide | (unfold maxGrow; omega) | (unfold maxGrow; simp; omega) | (unfold maxGrow; simp only [List.length_append, List.length_take, List.length_drop, List.length_cons, List.length_nil, IntKind.wrap_i64] at *; omega)) rfl rfl rfl rfl ?_
  refine step_r rfl rfl trivial (step_nil (seqK_n (sem_ret ?_)))
  exact answersGR [] [1] rfl ⟨trivial, trivial⟩ rfl (by (repeat' apply And.intro) <;> first | trivial | rfl | exact flat_len (fun _ => rfl) _ | exact encI_len _ | assumption) (rfl) rfl rfl rfl (by decide) rfl rfl ⟨⟨rfl, rfl⟩, trivial⟩

theorem clone_GLock (l : List GLock) (full : Bool) (hl : l.length ≤ 16777216) : Ok Tryd.prog 29 [.pv (.slc l.length full (l.flatMap encGLock))] [] (.ref 0 3 0 l.length) [.row 24 3 (l.flatMap encGLock)] [] := by
  refine Ok.slc1 (fun h1 h2 => ?_) (clone_GLock_nnl l hl)
  rw [h1, h2]; exact clone_GLock_nil

theorem ixf_GLock (l : List GLock) (l_f : Bool) (cl : FuncId) (caps : List AV) (p : GLock → Bool) (hcl : Fn1 Tryd.prog cl caps (fun x => [aGLock x]) (fun x => B (p x))) : Ok Tryd.prog 36 [.pv (.slc l.length l_f (l.flatMap encGLock)), .fnc cl caps] [] (I (fidx p l)) [] [] := by
 refine Ok.len fun hlen => ?_
 have hl_l : l.length ≤ maxLen := hlen _ (by simp [lensL, lens, lensP])
 unfold maxLen at hl_l
 refine ok_of_sem Tryd.func36 rfl ?_
 show Walks Tryd.prog _ _ ⟨[(0, .pv (.slc l.length l_f (l.flatMap encGLock))), (1, .fnc cl caps)], [], 0, [], 19, 0⟩
 refine sem_seq (sem_region rfl (step_r rfl rfl trivial (step_nil (seqK_n (sem_seq (sem_seq (sem_region rfl (step_r rfl rfl trivial (step_r rfl rfl trivial (step_r rfl rfl trivial (step_nil ?_)))))))))))
 refine seqK_n (sem_block ?_)
 refine sem_loop_of (fun k : Nat => (⟨[(0, .pv (.slc l.length l_f (l.flatMap encGLock))), (1, .fnc cl caps), (7, I l.length), (8, I k)], [], 0, [], 19, 0⟩ : St)) (fun k : Nat => k ≤ l.length ∧ ∀ y ∈ l.take k, p y = false) (fun k : Nat => l.length - k) 0 (⟨Nat.zero_le _, by simp⟩) (less_of rfl ⟨⟨rfl, rfl⟩, ⟨rfl, hcl.belN⟩, ⟨rfl, rfl⟩, ⟨rfl, rfl⟩, trivial⟩ trivial (fun _ _ => .inr (Nat.zero_le _))) (fun k hI => ?_)
 show Walks Tryd.prog _ _ (⟨[(0, .pv (.slc l.length l_f (l.flatMap encGLock))), (1, .fnc cl caps), (7, I l.length), (8, I k)], [], 0, [], 19, 0⟩ : St)
 refine sem_seq (sem_region rfl (step_bin rfl rfl rfl rfl rfl trivial (step_nil (seqK_n (sem_seq ?_)))))
 refine sem_cond rfl (fun h1 => ?_) (fun h1 => ?_)
 ·have hk : k < l.length := by have h := of_decide_eq_true h1; omega
  obtain ⟨x, hx⟩ : ∃ x, l[k]? = some x := ⟨_, List.getElem?_eq_getElem hk⟩
  refine sem_skip (seqK_n (sem_seq (sem_block (sem_seq (sem_region rfl (step_r rfl rfl trivial (step_r rfl rfl trivial (step_nil (seqK_n (sem_seq (sem_region rfl ?_)))))))))))
  refine step_r rfl rfl trivial (step_r rfl rfl trivial (step_r rfl rfl trivial (step_idxS (k := k) rfl rfl rfl rfl hk (flat_ne (s := 3) (enc := encGLock) (fun _ => rfl) (by decide) hk) rfl (step_load_row rfl rfl rfl (flat_lt (s := 3) (enc := encGLock) (fun _ => rfl) hk) (flat_take (s := 3) (enc := encGLock) (fun _ => rfl) hx) rfl ?_))))
  refine step_callF hcl x rfl rfl rfl rfl rfl rfl ?_
  refine step_nil (seqK_n ?_)
  refine sem_cond rfl (fun h3 => ?_) (fun h3 => ?_)
  ·have gp := h3
   refine sem_seq (sem_region rfl (step_r rfl rfl trivial (step_r rfl rfl trivial (step_nil (seqK_n (sem_ret (blkK_r (seqK_r (lupK_r (blkK_r (seqK_r ?_)))))))))))
   exact answersR rfl ⟨trivial, trivial⟩ (congrArg I (fidx_found (p := p) hI.2 hx gp).symm) rfl
  ·have gp := h3
   refine sem_skip (blkK_n (seqK_n (sem_region rfl (step_bin rfl rfl rfl rfl rfl trivial (step_r rfl rfl trivial (step_nil ?_))))))
   exact lup_again (k+1) (⟨hk, take_all_snoc hI.2 hx gp⟩) (by omega) (less_of rfl ⟨⟨rfl, rfl⟩, ⟨rfl, hcl.belN⟩, ⟨rfl, rfl⟩, ⟨congrArg (fun n => some (I n)) (wrapK hk (by assumption)), rfl⟩, trivial⟩ trivial (fun _ _ => .inr (Nat.zero_le _)))
 ·have hk : k = l.length := by have h := of_decide_eq_false h1; have := hI; omega
  refine sem_exit (seqK_e (lupK_e (blkK_t rfl (seqK_n (sem_seq (sem_region rfl (step_r rfl rfl trivial (step_nil (seqK_n (sem_ret ?_))))))))))
  exact answersR rfl ⟨trivial, trivial⟩ (congrArg I (fidx_none (p := p) hI.2 hk).symm) rfl

theorem clone_LUInt8_nil  : Ok Tryd.prog 41 [.pv .nils] [] (.ref 0 1 0 0) [.row 9 1 []] [] := by
 refine ok_of_sem Tryd.func41 rfl ?_
 show Walks Tryd.prog _ _ ⟨[(0, .pv .nils)], [], 0, [], 8, 0⟩
 refine sem_seq (sem_region rfl (step_n (nx' := 1) rfl rfl rfl trivial (step_nil (seqK_n (sem_seq (sem_seq (sem_region rfl (step_r rfl rfl trivial (step_r rfl rfl trivial (step_nil (seqK_n ?_)))))))))))
 refine sem_cond rfl (fun h1 => ?_) (fun h1 => ?_)
 ·skip
  refine sem_seq (sem_region rfl (step_n (nx' := 2) rfl rfl rfl trivial (step_nil (seqK_n (sem_ret (seqK_r ?_))))))
  exact answersGR [] [1] rfl ⟨trivial, trivial⟩ rfl (by (repeat' apply And.intro) <;> first | trivial | rfl | exact flat_len (fun _ => rfl) _ | exact encI_len _ | assumption) (rfl) rfl rfl rfl (by decide) rfl rfl ⟨⟨rfl, rfl⟩, trivial⟩
 ·cases h1

theorem clone_LUInt8_nnl (l : List (List UInt8)) (hl : l.length ≤ 16777216) : Ok Tryd.prog 41 [.pv (.nnl l.length (encS l))] [] (.ref 0 1 0 l.length) [.row 9 1 (encS l)] [] := by
 refine ok_of_sem Tryd.func41 rfl ?_
 show Walks Tryd.prog _ _ ⟨[(0, .pv (.nnl l.length (encS l)))], [], 0, [], 8, 0⟩
 refine sem_seq (sem_region rfl (step_n (nx' := 1) rfl rfl rfl trivial (step_nil (seqK_n (sem_seq (sem_seq (sem_region rfl (step_r rfl rfl trivial (step_r rfl rfl trivial (step_nil (seqK_n ?_)))))))))))
 refine sem_cond rfl (fun h1 => ?_) (fun h1 => ?_)
 ·cases h1
 ·skip
  refine sem_skip (seqK_n (sem_seq (sem_region rfl (step_r rfl rfl ⟨by decide, rfl⟩ (step_r rfl rfl trivial ?_)))))
  refine step_appendN (m := l.length) (new := encS l) (cs' := encS l) (n' := l.length) rfl rfl (rfl) rfl rfl rfl rfl rfl rfl (encS_len l) (by first | decide | (unfold maxGrow; omega) | (unfold maxGrow; simp; omega) | (unfold maxGrow; simp only [List.length_append, List.length_take, List.length_drop, List.length_cons, List.length_nil, IntKind.wrap_i64] at *; omega)) rfl rfl rfl rfl ?_
  refine step_r rfl rfl trivial (step_nil (seqK_n (sem_ret ?_)))
  exact answersGR [] [1] rfl ⟨trivial, trivial⟩ rfl (by (repeat' apply And.intro) <;> first | trivial | rfl | exact flat_len (fun _ => rfl) _ | exact encI_len _ | assumption) (rfl) rfl rfl rfl (by decide) rfl rfl ⟨⟨rfl, rfl⟩, trivial⟩

theorem clone_LUInt8 (l : List (List UInt8)) (full : Bool) (hl : l.length ≤ 16777216) : Ok Tryd.prog 41 [.pv (.slc l.length full (encS l))] [] (.ref 0 1 0 l.length) [.row 9 1 (encS l)] [] := by
  refine Ok.slc1 (fun h1 h2 => ?_) (clone_LUInt8_nnl l hl)
  rw [h1, h2]; exact clone_LUInt8_nil

theorem ixf_LUInt8 (l : List (List UInt8)) (l_f : Bool) (cl : FuncId) (caps : List AV) (p : (List UInt8) → Bool) (hcl : Fn1 Tryd.prog cl caps (fun x => [.pv (.str x)]) (fun x => B (p x))) : Ok Tryd.prog 50 [.pv (.slc l.length l_f (encS l)), .fnc cl caps] [] (I (fidx p l)) [] [] := by
 refine Ok.len fun hlen => ?_
 have hl_l : l.length ≤ maxLen := hlen _ (by simp [lensL, lens, lensP])
 unfold maxLen at hl_l
 refine ok_of_sem Tryd.func50 rfl ?_
 show Walks Tryd.prog _ _ ⟨[(0, .pv (.slc l.length l_f (encS l))), (1, .fnc cl caps)], [], 0, [], 19, 0⟩
 refine sem_seq (sem_region rfl (step_r rfl rfl trivial (step_nil (seqK_n (sem_seq (sem_seq (sem_region rfl (step_r rfl rfl trivial (step_r rfl rfl trivial (step_r rfl rfl trivial (step_nil ?_)))))))))))
 refine seqK_n (sem_block ?_)
 refine sem_loop_of (fun k : Nat => (⟨[(0, .pv (.slc l.length l_f (encS l))), (1, .fnc cl caps), (7, I l.length), (8, I k)], [], 0, [], 19, 0⟩ : St)) (fun k : Nat => k ≤ l.length ∧ ∀ y ∈ l.take k, p y = false) (fun k : Nat => l.length - k) 0 (⟨Nat.zero_le _, by simp⟩) (less_of rfl ⟨⟨rfl, rfl⟩, ⟨rfl, hcl.belN⟩, ⟨rfl, rfl⟩, ⟨rfl, rfl⟩, trivial⟩ trivial (fun _ _ => .inr (Nat.zero_le _))) (fun k hI => ?_)
 show Walks Tryd.prog _ _ (⟨[(0, .pv (.slc l.length l_f (encS l))), (1, .fnc cl caps), (7, I l.length), (8, I k)], [], 0, [], 19, 0⟩ : St)
 refine sem_seq (sem_region rfl (step_bin rfl rfl rfl rfl rfl trivial (step_nil (seqK_n (sem_seq ?_)))))
 refine sem_cond rfl (fun h1 => ?_) (fun h1 => ?_)
 ·have hk : k < l.length := by have h := of_decide_eq_true h1; omega
  obtain ⟨x, hx⟩ : ∃ x, l[k]? = some x := ⟨_, List.getElem?_eq_getElem hk⟩
  refine sem_skip (seqK_n (sem_seq (sem_block (sem_seq (sem_region rfl (step_r rfl rfl trivial (step_r rfl rfl trivial (step_nil (seqK_n (sem_seq (sem_region rfl ?_)))))))))))
  refine step_r rfl rfl trivial (step_r rfl rfl trivial (step_r rfl rfl trivial (step_idxS (k := k) rfl rfl rfl rfl hk (encS_ne hk) rfl (step_load_one rfl rfl rfl (encS_get hx) rfl ?_))))
  refine step_callF hcl x rfl rfl rfl rfl rfl rfl ?_
  refine step_nil (seqK_n ?_)
  refine sem_cond rfl (fun h3 => ?_) (fun h3 => ?_)
  ·have gp := h3
   refine sem_seq (sem_region rfl (step_r rfl rfl trivial (step_r rfl rfl trivial (step_nil (seqK_n (sem_ret (blkK_r (seqK_r (lupK_r (blkK_r (seqK_r ?_)))))))))))
   exact answersR rfl ⟨trivial, trivial⟩ (congrArg I (fidx_found (p := p) hI.2 hx gp).symm) rfl
  ·have gp := h3
   refine sem_skip (blkK_n (seqK_n (sem_region rfl (step_bin rfl rfl rfl rfl rfl trivial (step_r rfl rfl trivial (step_nil ?_))))))
   exact lup_again (k+1) (⟨hk, take_all_snoc hI.2 hx gp⟩) (by omega) (less_of rfl ⟨⟨rfl, rfl⟩, ⟨rfl, hcl.belN⟩, ⟨rfl, rfl⟩, ⟨congrArg (fun n => some (I n)) (wrapK hk (by assumption)), rfl⟩, trivial⟩ trivial (fun _ _ => .inr (Nat.zero_le _)))
 ·have hk : k = l.length := by have h := of_decide_eq_false h1; have := hI; omega
  refine sem_exit (seqK_e (lupK_e (blkK_t rfl (seqK_n (sem_seq (sem_region rfl (step_r rfl rfl trivial (step_nil (seqK_n (sem_ret ?_))))))))))
  exact answersR rfl ⟨trivial, trivial⟩ (congrArg I (fidx_none (p := p) hI.2 hk).symm) rfl
end Go.Proofs.YtnboadipofkcjaaDoor

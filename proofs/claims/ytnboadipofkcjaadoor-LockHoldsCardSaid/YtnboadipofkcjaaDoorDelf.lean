import Derived.Test.YtnboadipofkcjaaDoorIns
namespace Go.Proofs.YtnboadipofkcjaaDoor
open Go Go.RowKit Go.Proofs.YtnboadipofkcjaaDoorVm
attribute [local irreducible] opsWp AnswersE OpsS
set_option maxHeartbeats 400000
set_option maxRecDepth 100000
set_option linter.all false
theorem first_is {α : Type} {p : α → Bool} : ∀ (l : List α), (∃ y, y ∈ l ∧ p y = true) → ∃ a x, l[a]? = some x ∧ p x = true ∧ ∀ y ∈ l.take a, p y = false
  | [], ⟨y, h, _⟩ => by cases h
  | z :: l, ⟨y, h, hp⟩ => by
    by_cases hz : p z = true
    · exact ⟨0, z, rfl, hz, by simp⟩
    · obtain ⟨a, x, h1, h2, h3⟩ := first_is l (by
        rcases List.mem_cons.1 h with rfl | h
        · exact absurd hp hz
        · exact ⟨y, h, hp⟩)
      refine ⟨a + 1, x, h1, h2, fun w hw => ?_⟩
      rw [List.take_succ_cons] at hw
      rcases List.mem_cons.1 hw with rfl | hw
      · simpa using hz
      · exact h3 w hw
theorem setPs_head {cs ps : List PV} {off : Nat} (h : off + ps.length ≤ cs.length) : (setPs cs off ps).take off = cs.take off := by
  rw [setPs_eq _ _ _ h, List.append_assoc, List.take_append_of_le_length (by rw [List.length_take]; omega), List.take_take, Nat.min_self]
/-- the round of a deletion: what stays is moved ahead -/
theorem delf_round {α : Type} {p : α → Bool} {l m : List α} {a j : Nat} {x : α} (haj : a < j) (hm : m.length = l.length) (h1 : m.take a = (l.take j).filter (fun x => !p x)) (h2 : m.drop j = l.drop j) (hx : m[j]? = some x) (hp : p x = false) :
    (m.set a x).length = l.length ∧ (m.set a x).take (a + 1) = (l.take (j + 1)).filter (fun x => !p x) ∧ (m.set a x).drop (j + 1) = l.drop (j + 1) := by
  have hj : j < m.length := (List.getElem?_eq_some_iff.1 hx).1
  have hlx : l[j]? = some x := by
    have e : (m.drop j)[0]? = (l.drop j)[0]? := by rw [h2]
    rw [List.getElem?_drop, List.getElem?_drop, Nat.add_zero] at e
    rw [← e]; exact hx
  refine ⟨by rw [List.length_set, hm], ?_, ?_⟩
  · rw [take_snoc hlx, List.filter_append, ← h1]
    have e : (m.set a x)[a]? = some x := by rw [List.getElem?_set_self (by omega)]
    rw [take_snoc e, List.take_set_of_le (Nat.le_refl _)]
    simp [hp]
  · rw [List.drop_set_of_lt (by omega)]
    have e : (m.drop j).drop 1 = (l.drop j).drop 1 := by rw [h2]
    rwa [List.drop_drop, List.drop_drop] at e
theorem delf_skip {α : Type} {p : α → Bool} {l m : List α} {a j : Nat} {x : α} (h1 : m.take a = (l.take j).filter (fun x => !p x)) (h2 : m.drop j = l.drop j) (hx : m[j]? = some x) (hp : p x = true) :
    m.take a = (l.take (j + 1)).filter (fun x => !p x) ∧ m.drop (j + 1) = l.drop (j + 1) := by
  have hlx : l[j]? = some x := by
    have e : (m.drop j)[0]? = (l.drop j)[0]? := by rw [h2]
    rw [List.getElem?_drop, List.getElem?_drop, Nat.add_zero] at e
    rw [← e]; exact hx
  refine ⟨?_, ?_⟩
  · rw [take_snoc hlx, List.filter_append, ← h1]; simp [hp]
  · have e : (m.drop j).drop 1 = (l.drop j).drop 1 := by rw [h2]
    rwa [List.drop_drop, List.drop_drop] at e
theorem delf_first {α : Type} {p : α → Bool} {l : List α} (h : fidx p l ≠ -1) : ∃ (a : Nat) (x : α), fidx p l = (a : Int) ∧ l[a]? = some x ∧ l.take a = (l.take (a + 1)).filter (fun x => !p x) := by
  by_cases hall : ∀ y ∈ l, p y = false
  · exact absurd (fidx_none (p := p) (k := l.length) (by simpa using hall) rfl) h
  · obtain ⟨a, x, hx, hpx, hb⟩ := first_is (p := p) l (by simpa using hall)
    refine ⟨a, x, fidx_found hb hx hpx, hx, ?_⟩
    rw [take_snoc hx, List.filter_append, List.filter_eq_self.2 (fun y hy => by rw [hb y hy]; rfl)]
    simp [hpx]
theorem delf_none {α : Type} {p : α → Bool} {l : List α} (h : fidx p l = -1) : l.filter (fun x => !p x) = l := by
  refine List.filter_eq_self.2 fun y hy => ?_
  by_cases hp : p y = true
  · exfalso
    obtain ⟨a, x, hx, hpx, hb⟩ := first_is (p := p) l ⟨y, hy, hp⟩
    have := fidx_found (p := p) hb hx hpx
    omega
  · simp at hp; simp [hp]
theorem flat_to {α : Type} {enc : α → List PV} {z : Nat} (h : ∀ x, (enc x).length = z) (l : List α) {k : Nat} (hk : k ≤ l.length) : (l.flatMap enc).take (k * z) = (l.take k).flatMap enc := by
  have e : l.flatMap enc = (l.take k).flatMap enc ++ (l.drop k).flatMap enc := by rw [← List.flatMap_append, List.take_append_drop]
  rw [e, List.take_left' (by rw [flat_len (s := z) h, List.length_take, Nat.min_eq_left hk])]


theorem ixr_GLock (l : List GLock) (cl : FuncId) (caps : List AV) (p : GLock → Bool) (hcl : Fn1 Tryd.prog cl caps (fun x => [aGLock x]) (fun x => B (p x))) (hl : l.length ≤ 1152921504606846975) : Ok Tryd.prog 36 [.ref 0 3 0 l.length, .fnc cl caps] [.row 24 3 (l.flatMap encGLock)] (I (fidx p l)) [.row 24 3 (l.flatMap encGLock)] [] := by
 refine ok_of_sem Tryd.func36 rfl ?_
 show Walks Tryd.prog _ _ ⟨[(0, .ref 0 3 0 l.length), (1, .fnc cl caps)], [(0, .row 24 3 (l.flatMap encGLock))], 1, [], 19, 1⟩
 refine sem_seq (sem_region rfl (step_r rfl rfl trivial (step_nil (seqK_n (sem_seq (sem_seq (sem_region rfl (step_r rfl rfl trivial (step_r rfl rfl trivial (step_r rfl rfl trivial (step_nil ?_)))))))))))
 refine seqK_n (sem_block ?_)
 refine sem_loop_of (fun k : Nat => (⟨[(0, .ref 0 3 0 l.length), (1, .fnc cl caps), (7, I l.length), (8, I k)], [(0, .row 24 3 (l.flatMap encGLock))], 1, [], 19, 1⟩ : St)) (fun k : Nat => k ≤ l.length ∧ ∀ y ∈ l.take k, p y = false) (fun k : Nat => l.length - k) 0 (⟨Nat.zero_le _, by simp⟩) (less_of rfl ⟨⟨rfl, rfl⟩, ⟨rfl, hcl.belN⟩, ⟨rfl, rfl⟩, ⟨rfl, rfl⟩, trivial⟩ ⟨⟨rfl, rfl, rfl⟩, trivial⟩ (by decide)) (fun k hI => ?_)
 show Walks Tryd.prog _ _ (⟨[(0, .ref 0 3 0 l.length), (1, .fnc cl caps), (7, I l.length), (8, I k)], [(0, .row 24 3 (l.flatMap encGLock))], 1, [], 19, 1⟩ : St)
 refine sem_seq (sem_region rfl (step_bin rfl rfl rfl rfl rfl trivial (step_nil (seqK_n (sem_seq ?_)))))
 refine sem_cond rfl (fun h1 => ?_) (fun h1 => ?_)
 ·have hk : k < l.length := by have h := of_decide_eq_true h1; omega
  obtain ⟨x, hx⟩ : ∃ x, l[k]? = some x := ⟨_, List.getElem?_eq_getElem hk⟩
  refine sem_skip (seqK_n (sem_seq (sem_block (sem_seq (sem_region rfl (step_r rfl rfl trivial (step_r rfl rfl trivial (step_nil (seqK_n (sem_seq (sem_region rfl ?_)))))))))))
  refine step_r rfl rfl trivial (step_r rfl rfl trivial (step_r rfl rfl trivial (step_idxR (k := k) rfl rfl rfl rfl hk rfl ?_)))
  refine step_load_rowR rfl rfl rfl rfl (flat_lt (s := 3) (enc := encGLock) (fun _ => rfl) hk) (flat_take (s := 3) (enc := encGLock) (fun _ => rfl) hx) rfl ?_
  refine step_callF hcl x rfl rfl rfl rfl rfl rfl ?_
  refine step_nil (seqK_n ?_)
  refine sem_cond rfl (fun h3 => ?_) (fun h3 => ?_)
  ·have gp := h3
   refine sem_seq (sem_region rfl (step_r rfl rfl trivial (step_r rfl rfl trivial (step_nil (seqK_n (sem_ret (blkK_r (seqK_r (lupK_r (blkK_r (seqK_r ?_)))))))))))
   rw [show fidx p l = (k : Int) from fidx_found (p := p) hI.2 hx gp]
   exact answersGR [] [] rfl ⟨trivial, trivial⟩ rfl (by (repeat' apply And.intro) <;> first | trivial | rfl | exact flat_len (fun _ => rfl) _ | exact encI_len _ | assumption) (rfl) rfl rfl rfl (by decide) rfl rfl ⟨⟨rfl, rfl⟩, trivial⟩
  ·have gp := h3
   refine sem_skip (blkK_n (seqK_n (sem_region rfl (step_bin rfl rfl rfl rfl rfl trivial (step_r rfl rfl trivial (step_nil ?_))))))
   exact lup_again (k+1) (⟨hk, take_all_snoc hI.2 hx gp⟩) (by omega) (less_of rfl ⟨⟨rfl, rfl⟩, ⟨rfl, hcl.belN⟩, ⟨rfl, rfl⟩, ⟨congrArg (fun n => some (I n)) (wrap_lt (by omega) (by omega)), rfl⟩, trivial⟩ ⟨⟨rfl, rfl, rfl⟩, trivial⟩ (by decide))
 ·have hk : k = l.length := by have h := of_decide_eq_false h1; have := hI; omega
  refine sem_exit (seqK_e (lupK_e (blkK_t rfl (seqK_n (sem_seq (sem_region rfl (step_r rfl rfl trivial (step_nil (seqK_n (sem_ret ?_))))))))))
  rw [show fidx p l = -1 from fidx_none (p := p) hI.2 hk]
  exact answersGR [] [] rfl ⟨trivial, trivial⟩ rfl (by (repeat' apply And.intro) <;> first | trivial | rfl | exact flat_len (fun _ => rfl) _ | exact encI_len _ | assumption) (rfl) rfl rfl rfl (by decide) rfl rfl ⟨⟨rfl, rfl⟩, trivial⟩

theorem delf_GLock (l : List GLock) (cl : FuncId) (caps : List AV) (p : GLock → Bool) (hcl : Fn1 Tryd.prog cl caps (fun x => [aGLock x]) (fun x => B (p x))) (hl : l.length ≤ 1152921504606846975) : Ok Tryd.prog 38 [.ref 0 3 0 l.length, .fnc cl caps] [.row 24 3 (l.flatMap encGLock)] (.ref 0 3 0 (l.filter (fun x => !p x)).length) [.row 24 3 ((l.filter (fun x => !p x)).flatMap encGLock)] [] := by
 refine ok_of_sem Tryd.func38 rfl ?_
 show Walks Tryd.prog _ _ ⟨[(0, .ref 0 3 0 l.length), (1, .fnc cl caps)], [(0, .row 24 3 (l.flatMap encGLock))], 1, [], 42, 1⟩
 refine sem_seq (sem_region rfl (step_n (nx' := 2) rfl rfl rfl trivial (step_nil (seqK_n (sem_seq (sem_region rfl (step_r rfl rfl trivial (step_r rfl rfl trivial ?_))))))))
 refine step_callM (A := [.ref 0 3 0 l.length, .fnc cl caps]) (Hin := [.row 24 3 (l.flatMap encGLock)]) (H' := [(1, .row _ _ _), (0, .row _ _ _)]) (nx' := 2) [0] rfl rfl rfl rfl (.inl rfl) rfl rfl (by simp only [renL]; rw [hcl.renN, hcl.renN]; rfl) (by simp only [renL]; rw [hcl.renN]; simp only [belowL, hcl.belN]; rfl) (by simp only [renL]; rw [hcl.renN]; exact ixr_GLock l cl caps p hcl hl) rfl (by decide) rfl rfl rfl rfl rfl ?_
 refine step_r rfl rfl trivial (step_nil (seqK_n (sem_seq (sem_seq (sem_region rfl (step_r rfl rfl trivial (step_bin rfl rfl rfl rfl rfl trivial (step_nil (seqK_n ?_)))))))))
 refine sem_cond rfl (fun h2 => ?_) (fun h2 => ?_)
 ·have g12 : fidx p l = -1 := beq_t h2
  refine sem_seq (sem_region rfl (step_r rfl rfl trivial (step_r rfl rfl trivial (step_nil (seqK_n ?_)))))
  rw [delf_none g12]
  refine sem_ret (seqK_r ?_)
  exact answersGR [] [] rfl ⟨trivial, trivial⟩ rfl (by (repeat' apply And.intro) <;> first | trivial | rfl | exact flat_len (fun _ => rfl) _ | exact encI_len _ | assumption) (rfl) rfl rfl rfl (by decide) rfl rfl ⟨⟨rfl, rfl⟩, trivial⟩
 ·have g12 : fidx p l ≠ -1 := beq_f h2
  obtain ⟨a0, x0, hf1, hf2, hf0⟩ := delf_first g12
  have hf3 := (List.getElem?_eq_some_iff.1 hf2).1
  refine sem_skip (seqK_n (sem_seq (sem_seq (sem_region rfl (step_r rfl rfl trivial (step_bin rfl rfl rfl rfl rfl trivial (step_r rfl rfl trivial (step_nil (seqK_n (sem_block ?_))))))))))
  refine sem_loop_of (fun a : Nat × Nat × List GLock => match a with | (j, a, m) => (⟨[(0, .ref 0 3 0 l.length), (1, .fnc cl caps), (5, I a), (6, I j)], [(0, .row 24 3 (m.flatMap encGLock))], 1, [], 42, 1⟩ : St)) (fun a : Nat × Nat × List GLock => match a with | (j, a, m) => a < j ∧ j ≤ l.length ∧ m.length = l.length ∧ m.take a = (l.take j).filter (fun x => !p x) ∧ m.drop j = l.drop j) (fun a : Nat × Nat × List GLock => match a with | (j, a, m) => l.length - j) (a0 + 1, a0, l) (⟨by omega, by omega, rfl, hf0, rfl⟩) (less_of rfl ⟨⟨rfl, rfl⟩, ⟨rfl, hcl.belN⟩, ⟨congrArg (fun n => some (I n)) hf1, rfl⟩, ⟨by rw [hf1]; exact congrArg (fun n => some (I n)) (wrap_lt (by omega) (by omega)), rfl⟩, trivial⟩ ⟨⟨rfl, rfl, rfl⟩, trivial⟩ (by decide)) (fun a hI => ?_)
  obtain ⟨j, a, m⟩ := a
  obtain ⟨haj, hjl, hm, h1, h2⟩ := hI
  show Walks Tryd.prog _ _ (⟨[(0, .ref 0 3 0 l.length), (1, .fnc cl caps), (5, I a), (6, I j)], [(0, .row 24 3 (m.flatMap encGLock))], 1, [], 42, 1⟩ : St)
  refine sem_seq (sem_seq (sem_region rfl (step_r rfl rfl trivial (step_r rfl rfl trivial (step_r rfl rfl trivial (step_bin rfl rfl rfl rfl rfl trivial (step_nil (seqK_n ?_))))))))
  refine sem_cond rfl (fun h5 => ?_) (fun h5 => ?_)
  ·have hj : j < l.length := by have h9 := of_decide_eq_true h5; omega
   obtain ⟨x, hx⟩ : ∃ x, m[j]? = some x := ⟨_, List.getElem?_eq_getElem (by omega)⟩
   refine sem_skip (seqK_n (sem_seq (sem_block (sem_seq (sem_region rfl (step_r rfl rfl trivial (step_r rfl rfl trivial (step_idxR (k := j) rfl rfl rfl rfl (by omega) rfl ?_))))))))
   refine step_load_rowR rfl rfl rfl rfl (flat_lt (s := 3) (enc := encGLock) (fun _ => rfl) (by omega)) (flat_take (s := 3) (enc := encGLock) (fun _ => rfl) hx) rfl ?_
   refine step_n (o := .box [_, _, _]) (nx' := 2) rfl rfl rfl trivial ?_
   refine step_storeB (H' := [(1, .box [_, _, _]), (0, _)]) rfl rfl rfl rfl rfl rfl (.inl rfl) rfl ?_
   refine step_nil (seqK_n (sem_seq (sem_region rfl (step_r rfl rfl trivial (step_r (v := (.agg [_, _, _])) rfl rfl (Nat.le_of_ble_eq_true rfl) ?_)))))
   refine step_callF hcl x rfl rfl rfl rfl rfl rfl ?_
   refine step_r rfl rfl trivial (step_nil (seqK_n ?_))
   refine sem_cond rfl (fun h6 => ?_) (fun h6 => ?_)
   ·have gq := h6
    refine sem_seq (sem_region rfl (step_r rfl rfl trivial (step_r rfl rfl trivial (step_r (v := (.agg [_, _, _])) rfl rfl (Nat.le_of_ble_eq_true rfl) ?_))))
    have jk8 : a < m.length := by first | assumption | omega | (simp only [List.length_set]; omega) | (simp; omega) | simp_all
    obtain ⟨y8, jx8⟩ : ∃ z_, m[a]? = some z_ := ⟨_, List.getElem?_eq_getElem jk8⟩
    refine step_idxR (k := a) rfl rfl rfl rfl (by first | assumption | omega | (have := jk8; simp only [List.length_set] at this ⊢; omega) | (have := jk8; simp at this ⊢; omega)) rfl ?_
    refine step_putR (qs := encGLock x) rfl rfl rfl rfl rfl (flat_lt (s := 3) (enc := encGLock) (fun _ => rfl) jk8) (flat_put (s := 3) (enc := encGLock) (y := x) (fun _ => rfl) jk8) (.inl rfl) rfl ?_
    refine step_nil (seqK_n (sem_region rfl (step_r rfl rfl trivial (step_bin rfl rfl rfl rfl rfl trivial (step_r rfl rfl trivial (step_nil (blkK_n (seqK_n (sem_region rfl (step_r rfl rfl trivial (step_bin rfl rfl rfl rfl rfl trivial ?_)))))))))))
    refine step_r rfl rfl trivial (step_nil ?_)
    have hr := delf_round haj hm h1 h2 hx (by simpa using gq)
    exact lup_again (j + 1, a + 1, m.set a x) (⟨by omega, by omega, hr.1, hr.2.1, hr.2.2⟩) (by show l.length - (j + 1) < l.length - j; omega) (less_of rfl ⟨⟨rfl, rfl⟩, ⟨rfl, hcl.belN⟩, ⟨congrArg (fun n => some (I n)) (wrap_lt (by omega) (by omega)), rfl⟩, ⟨congrArg (fun n => some (I n)) (wrap_lt (by omega) (by omega)), rfl⟩, trivial⟩ ⟨⟨rfl, rfl, rfl⟩, trivial⟩ (by decide))
   ·have gq := h6
    refine sem_skip (blkK_n (seqK_n (sem_region rfl (step_r rfl rfl trivial (step_bin rfl rfl rfl rfl rfl trivial (step_r rfl rfl trivial (step_nil ?_)))))))
    have hr := delf_skip h1 h2 hx (by simpa using gq)
    exact lup_again (j + 1, a, m) (⟨by omega, by omega, hm, hr.1, hr.2⟩) (by show l.length - (j + 1) < l.length - j; omega) (less_of rfl ⟨⟨rfl, rfl⟩, ⟨rfl, hcl.belN⟩, ⟨rfl, rfl⟩, ⟨congrArg (fun n => some (I n)) (wrap_lt (by omega) (by omega)), rfl⟩, trivial⟩ ⟨⟨rfl, rfl, rfl⟩, trivial⟩ (by decide))
  ·have hj : j = l.length := by have h9 := of_decide_eq_false h5; omega
   have h1' := h1
   rw [hj, List.take_length] at h1'
   refine sem_exit (seqK_e (lupK_e (blkK_t rfl (seqK_n (sem_seq (sem_region rfl (step_r rfl rfl trivial (step_r rfl rfl trivial ?_))))))))
   refine step_rv (v' := .ref 0 3 a (l.length - a)) rfl (by first | rfl | (congr 1 <;> first | rfl | omega | (simp only [Option.getD_some, Option.getD_none]; omega) | (simp; done) | (simp; omega))) rfl (by first | trivial | omega | (simp; done) | (simp; omega) | (refine ⟨?_, ?_, ?_⟩ <;> first | trivial | omega)) ?_
   refine step_x0 (H'' := [(0, .row _ _ _)]) rfl (.inl rfl) ⟨by decide, rfl, by rw [flat_len (s := 3) (enc := encGLock) (fun _ => rfl) m, ← hm]; exact Nat.mul_le_mul_right _ (by omega)⟩ rfl ?_
   refine step_nil (seqK_n (sem_seq (sem_region rfl (step_r rfl rfl trivial (step_r rfl rfl trivial ?_)))))
   refine step_rv (v' := .ref 0 3 0 a) rfl (by first | rfl | (congr 1 <;> first | rfl | omega | (simp only [Option.getD_some, Option.getD_none]; omega) | (simp; done) | (simp; omega))) rfl (by first | trivial | omega | (simp; done) | (simp; omega) | (refine ⟨?_, ?_, ?_⟩ <;> first | trivial | omega)) ?_
   refine step_r rfl rfl trivial (step_nil (seqK_n ?_))
   refine sem_trans (Trans.cut (id := 0) (m := a * 3) (cs' := (l.filter (fun x => !p x)).flatMap encGLock) rfl ?_) ?_
   · have e9 : (setPs (m.flatMap encGLock) (a * 3) (repeatZ [(.str []), i64 0, i64 0] (l.length - a))).take (a * 3) = (m.flatMap encGLock).take (a * 3) := setPs_head (by rw [repeatZ_length, flat_len (s := 3) (enc := encGLock) (fun _ => rfl) m, hm]; show a * 3 + (l.length - a) * 3 ≤ _; rw [← Nat.add_mul]; exact Nat.mul_le_mul_right _ (by omega))
     have e8 : (m.flatMap encGLock).take (a * 3) = (m.take a).flatMap encGLock := flat_to (z := 3) (enc := encGLock) (fun _ => rfl) m (by omega)
     rw [h1, show l.take j = l by rw [hj]; exact List.take_length] at e8
     exact e9.trans e8
   rw [show (l.filter (fun x => !p x)).length = a by rw [← congrArg List.length h1', List.length_take]; omega]
   refine sem_ret ?_
   exact answersGR [] [] rfl ⟨trivial, trivial⟩ rfl (by (repeat' apply And.intro) <;> first | trivial | rfl | exact flat_len (fun _ => rfl) _ | exact encI_len _ | assumption) (rfl) rfl rfl rfl (by decide) rfl rfl ⟨⟨rfl, rfl⟩, trivial⟩

theorem ixr_LUInt8 (l : List (List UInt8)) (cl : FuncId) (caps : List AV) (p : (List UInt8) → Bool) (hcl : Fn1 Tryd.prog cl caps (fun x => [.pv (.str x)]) (fun x => B (p x))) (hl : l.length ≤ 1152921504606846975) : Ok Tryd.prog 50 [.ref 0 1 0 l.length, .fnc cl caps] [.row 9 1 (encS l)] (I (fidx p l)) [.row 9 1 (encS l)] [] := by
 refine ok_of_sem Tryd.func50 rfl ?_
 show Walks Tryd.prog _ _ ⟨[(0, .ref 0 1 0 l.length), (1, .fnc cl caps)], [(0, .row 9 1 (encS l))], 1, [], 19, 1⟩
 refine sem_seq (sem_region rfl (step_r rfl rfl trivial (step_nil (seqK_n (sem_seq (sem_seq (sem_region rfl (step_r rfl rfl trivial (step_r rfl rfl trivial (step_r rfl rfl trivial (step_nil ?_)))))))))))
 refine seqK_n (sem_block ?_)
 refine sem_loop_of (fun k : Nat => (⟨[(0, .ref 0 1 0 l.length), (1, .fnc cl caps), (7, I l.length), (8, I k)], [(0, .row 9 1 (encS l))], 1, [], 19, 1⟩ : St)) (fun k : Nat => k ≤ l.length ∧ ∀ y ∈ l.take k, p y = false) (fun k : Nat => l.length - k) 0 (⟨Nat.zero_le _, by simp⟩) (less_of rfl ⟨⟨rfl, rfl⟩, ⟨rfl, hcl.belN⟩, ⟨rfl, rfl⟩, ⟨rfl, rfl⟩, trivial⟩ ⟨⟨rfl, rfl, rfl⟩, trivial⟩ (by decide)) (fun k hI => ?_)
 show Walks Tryd.prog _ _ (⟨[(0, .ref 0 1 0 l.length), (1, .fnc cl caps), (7, I l.length), (8, I k)], [(0, .row 9 1 (encS l))], 1, [], 19, 1⟩ : St)
 refine sem_seq (sem_region rfl (step_bin rfl rfl rfl rfl rfl trivial (step_nil (seqK_n (sem_seq ?_)))))
 refine sem_cond rfl (fun h1 => ?_) (fun h1 => ?_)
 ·have hk : k < l.length := by have h := of_decide_eq_true h1; omega
  obtain ⟨x, hx⟩ : ∃ x, l[k]? = some x := ⟨_, List.getElem?_eq_getElem hk⟩
  refine sem_skip (seqK_n (sem_seq (sem_block (sem_seq (sem_region rfl (step_r rfl rfl trivial (step_r rfl rfl trivial (step_nil (seqK_n (sem_seq (sem_region rfl ?_)))))))))))
  refine step_r rfl rfl trivial (step_r rfl rfl trivial (step_r rfl rfl trivial (step_idxR (k := k) rfl rfl rfl rfl hk rfl ?_)))
  refine step_load_oneR rfl rfl rfl rfl (encS_get hx) rfl ?_
  refine step_callF hcl x rfl rfl rfl rfl rfl rfl ?_
  refine step_nil (seqK_n ?_)
  refine sem_cond rfl (fun h3 => ?_) (fun h3 => ?_)
  ·have gp := h3
   refine sem_seq (sem_region rfl (step_r rfl rfl trivial (step_r rfl rfl trivial (step_nil (seqK_n (sem_ret (blkK_r (seqK_r (lupK_r (blkK_r (seqK_r ?_)))))))))))
   rw [show fidx p l = (k : Int) from fidx_found (p := p) hI.2 hx gp]
   exact answersGR [] [] rfl ⟨trivial, trivial⟩ rfl (by (repeat' apply And.intro) <;> first | trivial | rfl | exact flat_len (fun _ => rfl) _ | exact encI_len _ | assumption) (rfl) rfl rfl rfl (by decide) rfl rfl ⟨⟨rfl, rfl⟩, trivial⟩
  ·have gp := h3
   refine sem_skip (blkK_n (seqK_n (sem_region rfl (step_bin rfl rfl rfl rfl rfl trivial (step_r rfl rfl trivial (step_nil ?_))))))
   exact lup_again (k+1) (⟨hk, take_all_snoc hI.2 hx gp⟩) (by omega) (less_of rfl ⟨⟨rfl, rfl⟩, ⟨rfl, hcl.belN⟩, ⟨rfl, rfl⟩, ⟨congrArg (fun n => some (I n)) (wrap_lt (by omega) (by omega)), rfl⟩, trivial⟩ ⟨⟨rfl, rfl, rfl⟩, trivial⟩ (by decide))
 ·have hk : k = l.length := by have h := of_decide_eq_false h1; have := hI; omega
  refine sem_exit (seqK_e (lupK_e (blkK_t rfl (seqK_n (sem_seq (sem_region rfl (step_r rfl rfl trivial (step_nil (seqK_n (sem_ret ?_))))))))))
  rw [show fidx p l = -1 from fidx_none (p := p) hI.2 hk]
  exact answersGR [] [] rfl ⟨trivial, trivial⟩ rfl (by (repeat' apply And.intro) <;> first | trivial | rfl | exact flat_len (fun _ => rfl) _ | exact encI_len _ | assumption) (rfl) rfl rfl rfl (by decide) rfl rfl ⟨⟨rfl, rfl⟩, trivial⟩

theorem delf_LUInt8 (l : List (List UInt8)) (cl : FuncId) (caps : List AV) (p : (List UInt8) → Bool) (hcl : Fn1 Tryd.prog cl caps (fun x => [.pv (.str x)]) (fun x => B (p x))) (hl : l.length ≤ 1152921504606846975) : Ok Tryd.prog 40 [.ref 0 1 0 l.length, .fnc cl caps] [.row 9 1 (encS l)] (.ref 0 1 0 (l.filter (fun x => !p x)).length) [.row 9 1 (encS (l.filter (fun x => !p x)))] [] := by
 refine ok_of_sem Tryd.func40 rfl ?_
 show Walks Tryd.prog _ _ ⟨[(0, .ref 0 1 0 l.length), (1, .fnc cl caps)], [(0, .row 9 1 (encS l))], 1, [], 42, 1⟩
 refine sem_seq (sem_region rfl (step_n (nx' := 2) rfl rfl rfl trivial (step_nil (seqK_n (sem_seq (sem_region rfl (step_r rfl rfl trivial (step_r rfl rfl trivial ?_))))))))
 refine step_callM (A := [.ref 0 1 0 l.length, .fnc cl caps]) (Hin := [.row 9 1 (encS l)]) (H' := [(1, .row _ _ _), (0, .row _ _ _)]) (nx' := 2) [0] rfl rfl rfl rfl (.inl rfl) rfl rfl (by simp only [renL]; rw [hcl.renN, hcl.renN]; rfl) (by simp only [renL]; rw [hcl.renN]; simp only [belowL, hcl.belN]; rfl) (by simp only [renL]; rw [hcl.renN]; exact ixr_LUInt8 l cl caps p hcl hl) rfl (by decide) rfl rfl rfl rfl rfl ?_
 refine step_r rfl rfl trivial (step_nil (seqK_n (sem_seq (sem_seq (sem_region rfl (step_r rfl rfl trivial (step_bin rfl rfl rfl rfl rfl trivial (step_nil (seqK_n ?_)))))))))
 refine sem_cond rfl (fun h2 => ?_) (fun h2 => ?_)
 ·have g12 : fidx p l = -1 := beq_t h2
  refine sem_seq (sem_region rfl (step_r rfl rfl trivial (step_r rfl rfl trivial (step_nil (seqK_n ?_)))))
  rw [delf_none g12]
  refine sem_ret (seqK_r ?_)
  exact answersGR [] [] rfl ⟨trivial, trivial⟩ rfl (by (repeat' apply And.intro) <;> first | trivial | rfl | exact flat_len (fun _ => rfl) _ | exact encI_len _ | assumption) (rfl) rfl rfl rfl (by decide) rfl rfl ⟨⟨rfl, rfl⟩, trivial⟩
 ·have g12 : fidx p l ≠ -1 := beq_f h2
  obtain ⟨a0, x0, hf1, hf2, hf0⟩ := delf_first g12
  have hf3 := (List.getElem?_eq_some_iff.1 hf2).1
  refine sem_skip (seqK_n (sem_seq (sem_seq (sem_region rfl (step_r rfl rfl trivial (step_bin rfl rfl rfl rfl rfl trivial (step_r rfl rfl trivial (step_nil (seqK_n (sem_block ?_))))))))))
  refine sem_loop_of (fun a : Nat × Nat × List (List UInt8) => match a with | (j, a, m) => (⟨[(0, .ref 0 1 0 l.length), (1, .fnc cl caps), (5, I a), (6, I j)], [(0, .row 9 1 (encS m))], 1, [], 42, 1⟩ : St)) (fun a : Nat × Nat × List (List UInt8) => match a with | (j, a, m) => a < j ∧ j ≤ l.length ∧ m.length = l.length ∧ m.take a = (l.take j).filter (fun x => !p x) ∧ m.drop j = l.drop j) (fun a : Nat × Nat × List (List UInt8) => match a with | (j, a, m) => l.length - j) (a0 + 1, a0, l) (⟨by omega, by omega, rfl, hf0, rfl⟩) (less_of rfl ⟨⟨rfl, rfl⟩, ⟨rfl, hcl.belN⟩, ⟨congrArg (fun n => some (I n)) hf1, rfl⟩, ⟨by rw [hf1]; exact congrArg (fun n => some (I n)) (wrap_lt (by omega) (by omega)), rfl⟩, trivial⟩ ⟨⟨rfl, rfl, rfl⟩, trivial⟩ (by decide)) (fun a hI => ?_)
  obtain ⟨j, a, m⟩ := a
  obtain ⟨haj, hjl, hm, h1, h2⟩ := hI
  show Walks Tryd.prog _ _ (⟨[(0, .ref 0 1 0 l.length), (1, .fnc cl caps), (5, I a), (6, I j)], [(0, .row 9 1 (encS m))], 1, [], 42, 1⟩ : St)
  refine sem_seq (sem_seq (sem_region rfl (step_r rfl rfl trivial (step_r rfl rfl trivial (step_r rfl rfl trivial (step_bin rfl rfl rfl rfl rfl trivial (step_nil (seqK_n ?_))))))))
  refine sem_cond rfl (fun h5 => ?_) (fun h5 => ?_)
  ·have hj : j < l.length := by have h9 := of_decide_eq_true h5; omega
   obtain ⟨x, hx⟩ : ∃ x, m[j]? = some x := ⟨_, List.getElem?_eq_getElem (by omega)⟩
   refine sem_skip (seqK_n (sem_seq (sem_block (sem_seq (sem_region rfl (step_r rfl rfl trivial (step_r rfl rfl trivial (step_idxR (k := j) rfl rfl rfl rfl (by omega) rfl ?_))))))))
   refine step_load_oneR rfl rfl rfl rfl (encS_get hx) rfl ?_
   refine step_r rfl rfl trivial (step_nil (seqK_n (sem_seq (sem_region rfl (step_r rfl rfl trivial (step_r rfl rfl trivial ?_))))))
   refine step_callF hcl x rfl rfl rfl rfl rfl rfl ?_
   refine step_r rfl rfl trivial (step_nil (seqK_n ?_))
   refine sem_cond rfl (fun h7 => ?_) (fun h7 => ?_)
   ·have gq := h7
    refine sem_seq (sem_region rfl (step_r rfl rfl trivial (step_r rfl rfl trivial (step_r rfl rfl trivial ?_))))
    have jk9 : a < m.length := by first | assumption | omega | (simp only [List.length_set]; omega) | (simp; omega) | simp_all
    obtain ⟨y9, jx9⟩ : ∃ z_, m[a]? = some z_ := ⟨_, List.getElem?_eq_getElem jk9⟩
    refine step_idxR (k := a) rfl rfl rfl rfl (by first | assumption | omega | (have := jk9; simp only [List.length_set] at this ⊢; omega) | (have := jk9; simp at this ⊢; omega)) rfl ?_
    refine step_storeR rfl rfl rfl rfl (by have := jk9; simp [encS]; omega) (encS_set m a x) (.inl rfl) rfl ?_
    refine step_nil (seqK_n (sem_region rfl (step_r rfl rfl trivial (step_bin rfl rfl rfl rfl rfl trivial (step_r rfl rfl trivial (step_nil (blkK_n (seqK_n (sem_region rfl (step_r rfl rfl trivial (step_bin rfl rfl rfl rfl rfl trivial ?_)))))))))))
    refine step_r rfl rfl trivial (step_nil ?_)
    have hr := delf_round haj hm h1 h2 hx (by simpa using gq)
    exact lup_again (j + 1, a + 1, m.set a x) (⟨by omega, by omega, hr.1, hr.2.1, hr.2.2⟩) (by show l.length - (j + 1) < l.length - j; omega) (less_of rfl ⟨⟨rfl, rfl⟩, ⟨rfl, hcl.belN⟩, ⟨congrArg (fun n => some (I n)) (wrap_lt (by omega) (by omega)), rfl⟩, ⟨congrArg (fun n => some (I n)) (wrap_lt (by omega) (by omega)), rfl⟩, trivial⟩ ⟨⟨rfl, rfl, rfl⟩, trivial⟩ (by decide))
   ·have gq := h7
    refine sem_skip (blkK_n (seqK_n (sem_region rfl (step_r rfl rfl trivial (step_bin rfl rfl rfl rfl rfl trivial (step_r rfl rfl trivial (step_nil ?_)))))))
    have hr := delf_skip h1 h2 hx (by simpa using gq)
    exact lup_again (j + 1, a, m) (⟨by omega, by omega, hm, hr.1, hr.2⟩) (by show l.length - (j + 1) < l.length - j; omega) (less_of rfl ⟨⟨rfl, rfl⟩, ⟨rfl, hcl.belN⟩, ⟨rfl, rfl⟩, ⟨congrArg (fun n => some (I n)) (wrap_lt (by omega) (by omega)), rfl⟩, trivial⟩ ⟨⟨rfl, rfl, rfl⟩, trivial⟩ (by decide))
  ·have hj : j = l.length := by have h9 := of_decide_eq_false h5; omega
   have h1' := h1
   rw [hj, List.take_length] at h1'
   refine sem_exit (seqK_e (lupK_e (blkK_t rfl (seqK_n (sem_seq (sem_region rfl (step_r rfl rfl trivial (step_r rfl rfl trivial ?_))))))))
   refine step_rv (v' := .ref 0 1 a (l.length - a)) rfl (by first | rfl | (congr 1 <;> first | rfl | omega | (simp only [Option.getD_some, Option.getD_none]; omega) | (simp; done) | (simp; omega))) rfl (by first | trivial | omega | (simp; done) | (simp; omega) | (refine ⟨?_, ?_, ?_⟩ <;> first | trivial | omega)) ?_
   refine step_x0 (H'' := [(0, .row _ _ _)]) rfl (.inl rfl) ⟨by decide, rfl, by rw [encS_len m, ← hm]; exact Nat.mul_le_mul_right _ (by omega)⟩ rfl ?_
   refine step_nil (seqK_n (sem_seq (sem_region rfl (step_r rfl rfl trivial (step_r rfl rfl trivial ?_)))))
   refine step_rv (v' := .ref 0 1 0 a) rfl (by first | rfl | (congr 1 <;> first | rfl | omega | (simp only [Option.getD_some, Option.getD_none]; omega) | (simp; done) | (simp; omega))) rfl (by first | trivial | omega | (simp; done) | (simp; omega) | (refine ⟨?_, ?_, ?_⟩ <;> first | trivial | omega)) ?_
   refine step_r rfl rfl trivial (step_nil (seqK_n ?_))
   refine sem_trans (Trans.cut (id := 0) (m := a * 1) (cs' := encS (l.filter (fun x => !p x))) rfl ?_) ?_
   · have e9 : (setPs (encS m) (a * 1) (repeatZ [(.str [])] (l.length - a))).take (a * 1) = (encS m).take (a * 1) := setPs_head (by rw [repeatZ_length, encS_len m, hm]; show a * 1 + (l.length - a) * 1 ≤ _; rw [← Nat.add_mul]; exact Nat.mul_le_mul_right _ (by omega))
     have e8 : (encS m).take (a * 1) = encS (m.take a) := (by rw [Nat.mul_one]; exact (List.map_take ..).symm)
     rw [h1, show l.take j = l by rw [hj]; exact List.take_length] at e8
     exact e9.trans e8
   rw [show (l.filter (fun x => !p x)).length = a by rw [← congrArg List.length h1', List.length_take]; omega]
   refine sem_ret ?_
   exact answersGR [] [] rfl ⟨trivial, trivial⟩ rfl (by (repeat' apply And.intro) <;> first | trivial | rfl | exact flat_len (fun _ => rfl) _ | exact encI_len _ | assumption) (rfl) rfl rfl rfl (by decide) rfl rfl ⟨⟨rfl, rfl⟩, trivial⟩
end Go.Proofs.YtnboadipofkcjaaDoor

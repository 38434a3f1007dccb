import Derived.Test.YtlcdcechaogofaaBase
namespace Go.Proofs.Ytlcdcechaogofaa
open Go Go.RowKit Go.Proofs.YtlcdcechaogofaaVm
attribute [local irreducible] opsWp AnswersE OpsS
set_option maxHeartbeats 400000
set_option maxRecDepth 100000
set_option linter.all false
theorem any_take_snoc {α : Type} {l : List α} {k : Nat} {x : α} (hx : l[k]? = some x) {n : Int} : True := trivial

structure GMember where
  (Unit : Int)
  (Group : Int)
  deriving DecidableEq, Inhabited
def encGMember (x : GMember) : List PV := [i64 x.Unit, i64 x.Group]
abbrev aGMember (x : GMember) : AV := .agg [I x.Unit, I x.Group]
def wfGMember (x : GMember) : Prop := (InR x.Unit) ∧ (InR x.Group)
theorem encGMember_solid {l : List GMember} : ∀ p ∈ l.flatMap encGMember, solidP p = true := flat_solid (fun x p h => by simp only [encGMember, List.mem_cons, List.mem_nil_iff, or_false] at h; rcases h with rfl | rfl <;> rfl)

theorem clone_GMember_nil  : Ok Try.prog 27 [.pv .nils] [] (.ref 0 2 0 0) [.row 31 2 []] [] := by
 refine ok_of_sem Try.func27 rfl ?_
 show Walks Try.prog _ _ ⟨[(0, .pv .nils)], [], 0, [], 8, 0⟩
 refine sem_seq ?_
 refine sem_region rfl ?_
 refine step_n (nx' := 1) rfl rfl rfl trivial ?_
 refine step_nil ?_
 refine seqK_n ?_
 refine sem_seq ?_
 refine sem_seq ?_
 refine sem_region rfl ?_
 refine step_r rfl rfl trivial ?_
 refine step_r rfl rfl trivial ?_
 refine step_nil ?_
 refine seqK_n ?_
 refine sem_cond rfl (fun h1 => ?_) (fun h1 => ?_)
 ·skip
  refine sem_seq ?_
  refine sem_region rfl ?_
  refine step_n (nx' := 2) rfl rfl rfl trivial ?_
  refine step_nil ?_
  refine seqK_n ?_
  refine sem_ret ?_
  refine seqK_r ?_
  exact answersGR [] [1] rfl ⟨trivial, trivial⟩ rfl (by (repeat' apply And.intro) <;> first | trivial | rfl | exact flat_len (fun _ => rfl) _ | exact encI_len _ | exact encB_len _ | exact encY_len _ | assumption) (rfl) rfl rfl rfl (by decide) rfl rfl ⟨⟨rfl, rfl⟩, trivial⟩
 ·cases h1

theorem clone_GMember_nnl (l : List GMember) (hl : l.length ≤ 16777216) : Ok Try.prog 27 [.pv (.nnl l.length (l.flatMap encGMember))] [] (.ref 0 2 0 l.length) [.row 31 2 (l.flatMap encGMember)] [] := by
 refine ok_of_sem Try.func27 rfl ?_
 show Walks Try.prog _ _ ⟨[(0, .pv (.nnl l.length (l.flatMap encGMember)))], [], 0, [], 8, 0⟩
 refine sem_seq ?_
 refine sem_region rfl ?_
 refine step_n (nx' := 1) rfl rfl rfl trivial ?_
 refine step_nil ?_
 refine seqK_n ?_
 refine sem_seq ?_
 refine sem_seq ?_
 refine sem_region rfl ?_
 refine step_r rfl rfl trivial ?_
 refine step_r rfl rfl trivial ?_
 refine step_nil ?_
 refine seqK_n ?_
 refine sem_cond rfl (fun h1 => ?_) (fun h1 => ?_)
 ·cases h1
 ·skip
  refine sem_skip ?_
  refine seqK_n ?_
  refine sem_seq ?_
  refine sem_region rfl ?_
  refine step_r rfl rfl ⟨by decide, rfl⟩ ?_
  refine step_r rfl rfl trivial ?_
  refine step_appendN (m := l.length) (new := l.flatMap encGMember) (cs' := l.flatMap encGMember) (n' := l.length) rfl rfl (rfl) rfl rfl rfl rfl rfl rfl (flat_len (s := 2) (enc := encGMember) (fun _ => rfl) l) (by first | decide | (unfold maxGrow; omega) | (unfold maxGrow; simp; omega) | (unfold maxGrow; simp only [List.length_append, List.length_take, List.length_drop, List.length_cons, List.length_nil, IntKind.wrap_i64] at *; omega)) rfl rfl rfl rfl ?_
  refine step_r rfl rfl trivial ?_
  refine step_nil ?_
  refine seqK_n ?_
  refine sem_ret ?_
  exact answersGR [] [1] rfl ⟨trivial, trivial⟩ rfl (by (repeat' apply And.intro) <;> first | trivial | rfl | exact flat_len (fun _ => rfl) _ | exact encI_len _ | exact encB_len _ | exact encY_len _ | assumption) (rfl) rfl rfl rfl (by decide) rfl rfl ⟨⟨rfl, rfl⟩, trivial⟩

theorem clone_GMember (l : List GMember) (full : Bool) (hl : l.length ≤ 16777216) : Ok Try.prog 27 [.pv (.slc l.length full (l.flatMap encGMember))] [] (.ref 0 2 0 l.length) [.row 31 2 (l.flatMap encGMember)] [] := by
  refine Ok.slc1 (fun h1 h2 => ?_) (clone_GMember_nnl l hl)
  rw [h1, h2]; exact clone_GMember_nil

theorem del_row_GMember {l : List GMember} {i j : Nat} (h1 : i ≤ j) (h2 : j ≤ l.length) : setPs (l.flatMap encGMember) (i * 2) (((l.flatMap encGMember).drop (j * 2)).take ((l.length - j) * 2)) = (l.take i ++ l.drop j ++ l.drop (i + (l.length - j))).flatMap encGMember := by
  have e1 : ((l.flatMap encGMember).drop (j * 2)).take ((l.length - j) * 2) = (l.drop j).flatMap encGMember := flat_from (s := 2) (fun _ => rfl) l j
  rw [e1, setPs_eq _ _ _ (by rw [flat_len (s := 2) (fun _ => rfl), flat_len (s := 2) (fun _ => rfl)]; simp only [List.length_drop]; rw [← Nat.add_mul]; exact Nat.mul_le_mul_right _ (by omega))]
  rw [flat_len (s := 2) (fun _ => rfl), ← Nat.add_mul, flat_drop (s := 2) (fun _ => rfl)]
  have e2 : (l.flatMap encGMember).take (i * 2) = (l.take i).flatMap encGMember := by have := flat_upto (s := 2) (enc := encGMember) (fun _ => rfl) l i (by omega); simpa using this
  rw [e2, List.length_drop]; simp only [List.flatMap_append]
theorem clr_row_GMember {a b : List GMember} (zs : List PV) (hz : zs.length = 2) : (setPs ((a ++ b).flatMap encGMember) (a.length * 2) (repeatZ zs b.length)).take (a.length * 2) = a.flatMap encGMember := by
  rw [setPs_eq _ _ _ (by rw [flat_len (s := 2) (fun _ => rfl), repeatZ_length, hz, ← Nat.add_mul, List.length_append]; exact Nat.le_refl _)]
  rw [List.append_assoc, List.take_append_of_le_length (by rw [List.length_take, flat_len (s := 2) (fun _ => rfl), List.length_append, Nat.add_mul]; omega)]
  rw [List.take_take, Nat.min_self, List.flatMap_append, List.take_append_of_le_length (by rw [flat_len (s := 2) (fun _ => rfl)]; exact Nat.le_refl _)]
  rw [List.take_of_length_le (by rw [flat_len (s := 2) (fun _ => rfl)]; exact Nat.le_refl _)]

theorem delete_GMember (l : List GMember) (i : Int) (j : Int) (b0 : 0 ≤ i) (b1 : i ≤ j) (b2 : j ≤ l.length) (hm : l.length ≤ 140737488355328) : Ok Try.prog 30 [.ref 0 2 0 l.length, I i, I j] [.row 31 2 (l.flatMap encGMember)] (.ref 0 2 0 (l.take i.toNat ++ l.drop j.toNat).length) [.row 31 2 ((l.take i.toNat ++ l.drop j.toNat).flatMap encGMember)] [] := by
 have hfl : (0 + (l.length : Int).toNat) * 2 ≤ (l.flatMap encGMember).length := by rw [flat_len (s := 2) (enc := encGMember) (fun _ => rfl) l]; simp
 have hll : (l.take i.toNat ++ l.drop j.toNat).length = i.toNat + (l.length - j.toNat) := by simp; omega
 have hlm : (l.take i.toNat ++ l.drop j.toNat ++ l.drop (i.toNat + (l.length - j.toNat))).length = l.length := by simp; omega
 refine ok_of_sem Try.func30 rfl ?_
 show Walks Try.prog _ _ ⟨[(0, .ref 0 2 0 l.length), (1, I i), (2, I j)], [(0, .row 31 2 (l.flatMap encGMember))], 1, [], 33, 1⟩
 refine sem_seq ?_
 refine sem_region rfl ?_
 refine step_n (nx' := 2) rfl rfl rfl trivial ?_
 refine step_nil ?_
 refine seqK_n ?_
 refine sem_seq ?_
 refine sem_region rfl ?_
 refine step_r rfl rfl trivial ?_
 refine step_r rfl rfl trivial ?_
 refine step_r rfl rfl trivial ?_
 refine step_r rfl rfl trivial ?_
 refine step_r rfl rfl trivial ?_
 refine step_x (v' := .undef) rfl (.inl rfl) ⟨by decide, by first | exact b0 | (simp; omega), by first | exact b1 | (simp; omega), by first | exact b2 | (simp; omega), by (first | exact hfl | (simp only [Int.toNat_natCast]; rw [flat_len (s := 2) (enc := encGMember) (fun _ => rfl) l]; omega)), by simp⟩ rfl rfl rfl ?_
 refine step_nil ?_
 refine seqK_n ?_
 refine sem_seq ?_
 refine sem_seq ?_
 refine sem_region rfl ?_
 refine step_r rfl rfl trivial ?_
 refine step_r rfl rfl trivial ?_
 refine step_bin rfl rfl rfl rfl rfl trivial ?_
 refine step_nil ?_
 refine seqK_n ?_
 refine sem_cond rfl (fun h3 => ?_) (fun h3 => ?_)
 ·have g3 := h3
  try simp at g3
  have hij : i = j := beq_t h3
  refine sem_seq ?_
  refine sem_region rfl ?_
  refine step_r rfl rfl trivial ?_
  refine step_r rfl rfl trivial ?_
  refine step_nil ?_
  refine seqK_n ?_
  have e_ : (l.take i.toNat ++ l.drop j.toNat) = l := by
   rw [hij]; exact List.take_append_drop _ _
  rw [e_]
  refine sem_ret ?_
  refine seqK_r ?_
  exact answersGR [] [] rfl ⟨trivial, trivial⟩ rfl (by (repeat' apply And.intro) <;> first | trivial | rfl | exact flat_len (fun _ => rfl) _ | exact encI_len _ | exact encB_len _ | exact encY_len _ | assumption) (rfl) rfl rfl rfl (by decide) rfl rfl ⟨⟨rfl, rfl⟩, trivial⟩
 ·have g3 := h3
  try simp at g3
  refine sem_skip ?_
  refine seqK_n ?_
  refine sem_seq ?_
  refine sem_region rfl ?_
  refine step_r rfl rfl trivial ?_
  refine step_r rfl rfl trivial ?_
  refine step_r rfl rfl trivial ?_
  refine step_nil ?_
  refine seqK_n ?_
  refine sem_seq ?_
  refine sem_drawn rfl (by decide +kernel) rfl ?_
  refine step_r rfl rfl trivial ?_
  refine step_r rfl rfl trivial ?_
  refine step_rv (v' := .ref 0 2 0 i.toNat) rfl (by simp) rfl (by simp; omega) ?_
  refine step_r rfl rfl trivial ?_
  refine step_r rfl rfl trivial ?_
  refine step_rv (v' := .ref 0 2 j.toNat (l.length - j.toNat)) rfl (by simp) rfl (by simp; omega) ?_
  refine step_x (c := 0 < 2 ∧ _ ∧ _) (v' := .ref 0 2 0 (l.take i.toNat ++ l.drop j.toNat).length) (H'' := [(1, .row _ _ _), (0, .row 31 2 ((l.take i.toNat ++ l.drop j.toNat ++ l.drop (i.toNat + (l.length - j.toNat))).flatMap encGMember))]) rfl (.inr (by decide +kernel)) ⟨by decide, by rw [List.length_take, List.length_drop, flat_len (s := 2) (enc := encGMember) (fun _ => rfl) l, ← Nat.sub_mul]; omega, by rw [flat_len (s := 2) (enc := encGMember) (fun _ => rfl) l]; exact Nat.mul_le_mul_right _ (by omega)⟩ (by simp only [List.length_append, List.length_take, List.length_drop]; congr 1; omega) (by rw [Nat.zero_add, del_row_GMember (by omega) (by omega)]; rfl) rfl ?_
  refine step_r rfl rfl trivial ?_
  refine step_nil ?_
  refine seqK_n ?_
  refine sem_seq ?_
  refine sem_region rfl ?_
  refine step_r rfl rfl trivial ?_
  refine step_r rfl rfl trivial ?_
  refine step_r rfl rfl trivial ?_
  refine step_r rfl rfl trivial ?_
  refine step_x (v' := .ref 0 2 (l.take i.toNat ++ l.drop j.toNat).length (l.length - (l.take i.toNat ++ l.drop j.toNat).length)) rfl (.inl rfl) ⟨by decide, by simp only [Option.getD_some]; omega, by simp only [Option.getD_some, hll]; omega, by simp only [Option.getD_some, Int.toNat_natCast]; rw [flat_len (s := 2) (enc := encGMember) (fun _ => rfl), hlm]; omega⟩ (by simp only [Option.getD_some, Int.toNat_natCast, Nat.zero_add]) rfl rfl ?_
  refine step_x0 (H'' := [(1, .row _ _ _), (0, .row _ _ _)]) rfl (.inl rfl) ⟨by decide, rfl, by rw [flat_len (s := 2) (enc := encGMember) (fun _ => rfl), hlm]; exact Nat.mul_le_mul_right _ (by omega)⟩ rfl ?_
  refine step_nil ?_
  refine seqK_n ?_
  refine sem_seq ?_
  refine sem_region rfl ?_
  refine step_r rfl rfl trivial ?_
  refine step_r rfl rfl trivial ?_
  refine step_nil ?_
  refine seqK_n ?_
  refine sem_trans (Trans.cut (id := 0) (m := (l.take i.toNat ++ l.drop j.toNat).length * 2) (cs' := (l.take i.toNat ++ l.drop j.toNat).flatMap encGMember) rfl (by have h9 := clr_row_GMember (a := (l.take i.toNat ++ l.drop j.toNat)) (b := l.drop (i.toNat + (l.length - j.toNat))) ([i64 0, i64 0]) rfl; rwa [show (l.drop (i.toNat + (l.length - j.toNat))).length = l.length - (l.take i.toNat ++ l.drop j.toNat).length by rw [List.length_drop, hll]] at h9)) ?_
  refine sem_ret ?_
  exact answersGR [] [] rfl ⟨trivial, trivial⟩ rfl (by (repeat' apply And.intro) <;> first | trivial | rfl | exact flat_len (fun _ => rfl) _ | exact encI_len _ | exact encB_len _ | exact encY_len _ | assumption) (rfl) rfl rfl rfl (by decide) rfl rfl ⟨⟨rfl, rfl⟩, trivial⟩

def maxL : List Int → Int
  | [] => 0
  | x :: l => l.foldl max x
theorem maxL_snoc {l : List Int} (h : l ≠ []) (x : Int) : maxL (l ++ [x]) = max (maxL l) x := by
  match l, h with
  | y :: l, _ => simp [maxL]

theorem max_Int (l : List Int) (l_f : Bool) (hl : l ≠ []) : Ok Try.prog 33 [.pv (.slc l.length l_f (encI l))] [] (I (maxL l)) [] [] := by
 refine Ok.len fun hlen => ?_
 have hl_l : l.length ≤ maxLen := hlen _ (by simp [lensL, lens, lensP])
 unfold maxLen at hl_l
 refine ok_of_sem Try.func33 rfl ?_
 show Walks Try.prog _ _ ⟨[(0, .pv (.slc l.length l_f (encI l)))], [], 0, [], 25, 0⟩
 refine sem_seq ?_
 refine sem_region rfl ?_
 refine step_r rfl rfl trivial ?_
 refine step_nil ?_
 refine seqK_n ?_
 refine sem_seq ?_
 refine sem_seq ?_
 refine sem_region rfl ?_
 refine step_r rfl rfl trivial ?_
 refine step_r rfl rfl trivial ?_
 refine step_bin rfl rfl rfl rfl rfl trivial ?_
 refine step_nil ?_
 refine seqK_n ?_
 refine sem_cond rfl (fun h1 => ?_) (fun h1 => ?_)
 ·have h := h1
  simp at h
  exact absurd (List.eq_nil_of_length_eq_zero (by omega)) hl
 ·have g1 := h1
  try simp at g1
  have hpos : 0 < l.length := List.length_pos_iff.2 hl
  obtain ⟨x0, hx0⟩ : ∃ z_, l[0]? = some z_ := ⟨_, List.getElem?_eq_getElem hpos⟩
  have hm1 : maxL (l.take 1) = x0 := by
   rw [take_snoc (k := 0) hx0]; rfl
  refine sem_skip ?_
  refine seqK_n ?_
  refine sem_seq ?_
  refine sem_region rfl ?_
  refine step_r rfl rfl trivial ?_
  refine step_idxS (k := 0) rfl rfl rfl rfl hpos (encI_ne hpos) rfl ?_
  refine step_load_one rfl rfl rfl (encI_get hx0) rfl ?_
  refine step_r rfl rfl trivial ?_
  refine step_nil ?_
  refine seqK_n ?_
  refine sem_seq ?_
  refine sem_seq ?_
  refine sem_region rfl ?_
  refine step_r rfl rfl trivial ?_
  refine step_nil ?_
  refine seqK_n ?_
  refine sem_block ?_
  refine sem_loop_of (fun k : Nat => (⟨[(0, .pv (.slc l.length l_f (encI l))), (3, I (maxL (l.take k))), (4, I k)], [], 0, [], 25, 0⟩ : St)) (fun k : Nat => 1 ≤ k ∧ k ≤ l.length) (fun k : Nat => l.length - k) 1 (⟨Nat.le_refl _, hpos⟩) (less_of rfl ⟨⟨rfl, rfl⟩, ⟨congrArg (fun n => some (I n)) hm1.symm, rfl⟩, ⟨rfl, rfl⟩, trivial⟩ trivial (fun _ _ => .inr (Nat.zero_le _))) (fun k hI => ?_)
  show Walks Try.prog _ _ (⟨[(0, .pv (.slc l.length l_f (encI l))), (3, I (maxL (l.take k))), (4, I k)], [], 0, [], 25, 0⟩ : St)
  refine sem_seq ?_
  refine sem_seq ?_
  refine sem_region rfl ?_
  refine step_r rfl rfl trivial ?_
  refine step_r rfl rfl trivial ?_
  refine step_r rfl rfl trivial ?_
  refine step_bin rfl rfl rfl rfl rfl trivial ?_
  refine step_nil ?_
  refine seqK_n ?_
  refine sem_cond rfl (fun h4 => ?_) (fun h4 => ?_)
  ·have hk : k < l.length := by have h := of_decide_eq_true h4; omega
   obtain ⟨x, hx⟩ : ∃ x, l[k]? = some x := ⟨_, List.getElem?_eq_getElem hk⟩
   refine sem_skip ?_
   refine seqK_n ?_
   refine sem_seq ?_
   refine sem_block ?_
   refine sem_region rfl ?_
   refine step_r rfl rfl trivial ?_
   refine step_r rfl rfl trivial ?_
   refine step_r rfl rfl trivial ?_
   refine step_idxS (k := k) rfl rfl rfl rfl hk (encI_ne hk) rfl ?_
   refine step_load_one rfl rfl rfl (encI_get hx) rfl ?_
   refine step_max rfl rfl rfl ?_
   refine step_r rfl rfl trivial ?_
   refine step_nil ?_
   refine blkK_n ?_
   refine seqK_n ?_
   refine sem_region rfl ?_
   refine step_r rfl rfl trivial ?_
   refine step_bin rfl rfl rfl rfl rfl trivial ?_
   refine step_r rfl rfl trivial ?_
   refine step_nil ?_
   exact lup_again (k+1) (⟨by omega, hk⟩) (by omega) (less_of rfl ⟨⟨rfl, rfl⟩, ⟨congrArg (fun n => some (I n)) (by rw [take_snoc hx, maxL_snoc (by intro h; have := congrArg List.length h; rw [List.length_take] at this; simp only [List.length_nil] at this; omega)]), rfl⟩, ⟨congrArg (fun n => some (I n)) (wrapK hk (by assumption)), rfl⟩, trivial⟩ trivial (fun _ _ => .inr (Nat.zero_le _)))
  ·have hk : k = l.length := by have h := of_decide_eq_false h4; have := hI; omega
   refine sem_exit ?_
   refine seqK_e ?_
   refine lupK_e ?_
   refine blkK_t rfl ?_
   refine seqK_n ?_
   refine sem_seq ?_
   refine sem_region rfl ?_
   refine step_r rfl rfl trivial ?_
   refine step_r rfl rfl trivial ?_
   refine step_nil ?_
   refine seqK_n ?_
   refine sem_ret ?_
   rw [show maxL l = maxL (l.take k) by rw [hk, List.take_length]]
   exact answersR rfl ⟨trivial, trivial⟩ (rfl) rfl

theorem ixf_GMember (l : List GMember) (l_f : Bool) (cl : FuncId) (caps : List AV) (p : GMember → Bool) (hcl : Fn1 Try.prog cl caps (fun x => [aGMember x]) (fun x => B (p x))) : Ok Try.prog 34 [.pv (.slc l.length l_f (l.flatMap encGMember)), .fnc cl caps] [] (I (fidx p l)) [] [] := by
 refine Ok.len fun hlen => ?_
 have hl_l : l.length ≤ maxLen := hlen _ (by simp [lensL, lens, lensP])
 unfold maxLen at hl_l
 refine ok_of_sem Try.func34 rfl ?_
 show Walks Try.prog _ _ ⟨[(0, .pv (.slc l.length l_f (l.flatMap encGMember))), (1, .fnc cl caps)], [], 0, [], 19, 0⟩
 refine sem_seq ?_
 refine sem_region rfl ?_
 refine step_r rfl rfl trivial ?_
 refine step_nil ?_
 refine seqK_n ?_
 refine sem_seq ?_
 refine sem_seq ?_
 refine sem_region rfl ?_
 refine step_r rfl rfl trivial ?_
 refine step_r rfl rfl trivial ?_
 refine step_r rfl rfl trivial ?_
 refine step_nil ?_
 refine seqK_n ?_
 refine sem_block ?_
 refine sem_loop_of (fun k : Nat => (⟨[(0, .pv (.slc l.length l_f (l.flatMap encGMember))), (1, .fnc cl caps), (7, I l.length), (8, I k)], [], 0, [], 19, 0⟩ : St)) (fun k : Nat => k ≤ l.length ∧ ∀ y ∈ l.take k, p y = false) (fun k : Nat => l.length - k) 0 (⟨Nat.zero_le _, by simp⟩) (less_of rfl ⟨⟨rfl, rfl⟩, ⟨rfl, hcl.belN⟩, ⟨rfl, rfl⟩, ⟨rfl, rfl⟩, trivial⟩ trivial (fun _ _ => .inr (Nat.zero_le _))) (fun k hI => ?_)
 show Walks Try.prog _ _ (⟨[(0, .pv (.slc l.length l_f (l.flatMap encGMember))), (1, .fnc cl caps), (7, I l.length), (8, I k)], [], 0, [], 19, 0⟩ : St)
 refine sem_seq ?_
 refine sem_region rfl ?_
 refine step_bin rfl rfl rfl rfl rfl trivial ?_
 refine step_nil ?_
 refine seqK_n ?_
 refine sem_seq ?_
 refine sem_cond rfl (fun h1 => ?_) (fun h1 => ?_)
 ·have hk : k < l.length := by have h := of_decide_eq_true h1; omega
  obtain ⟨x, hx⟩ : ∃ x, l[k]? = some x := ⟨_, List.getElem?_eq_getElem hk⟩
  refine sem_skip ?_
  refine seqK_n ?_
  refine sem_seq ?_
  refine sem_block ?_
  refine sem_seq ?_
  refine sem_region rfl ?_
  refine step_r rfl rfl trivial ?_
  refine step_r rfl rfl trivial ?_
  refine step_nil ?_
  refine seqK_n ?_
  refine sem_seq ?_
  refine sem_region rfl ?_
  refine step_r rfl rfl trivial ?_
  refine step_r rfl rfl trivial ?_
  refine step_r rfl rfl trivial ?_
  refine step_idxS (k := k) rfl rfl rfl rfl hk (flat_ne (s := 2) (enc := encGMember) (fun _ => rfl) (by decide) hk) rfl ?_
  refine step_load_row rfl rfl rfl (flat_lt (s := 2) (enc := encGMember) (fun _ => rfl) hk) (flat_take (s := 2) (enc := encGMember) (fun _ => rfl) hx) rfl ?_
  refine step_callF hcl x rfl rfl rfl rfl rfl rfl ?_
  refine step_nil ?_
  refine seqK_n ?_
  refine sem_cond rfl (fun h3 => ?_) (fun h3 => ?_)
  ·have gp := h3
   refine sem_seq ?_
   refine sem_region rfl ?_
   refine step_r rfl rfl trivial ?_
   refine step_r rfl rfl trivial ?_
   refine step_nil ?_
   refine seqK_n ?_
   refine sem_ret ?_
   refine blkK_r ?_
   refine seqK_r ?_
   refine lupK_r ?_
   refine blkK_r ?_
   refine seqK_r ?_
   exact answersR rfl ⟨trivial, trivial⟩ (congrArg I (fidx_found (p := p) hI.2 hx gp).symm) rfl
  ·have gp := h3
   refine sem_skip ?_
   refine blkK_n ?_
   refine seqK_n ?_
   refine sem_region rfl ?_
   refine step_bin rfl rfl rfl rfl rfl trivial ?_
   refine step_r rfl rfl trivial ?_
   refine step_nil ?_
   exact lup_again (k+1) (⟨hk, take_all_snoc hI.2 hx gp⟩) (by omega) (less_of rfl ⟨⟨rfl, rfl⟩, ⟨rfl, hcl.belN⟩, ⟨rfl, rfl⟩, ⟨congrArg (fun n => some (I n)) (wrapK hk (by assumption)), rfl⟩, trivial⟩ trivial (fun _ _ => .inr (Nat.zero_le _)))
 ·have hk : k = l.length := by have h := of_decide_eq_false h1; have := hI; omega
  refine sem_exit ?_
  refine seqK_e ?_
  refine lupK_e ?_
  refine blkK_t rfl ?_
  refine seqK_n ?_
  refine sem_seq ?_
  refine sem_region rfl ?_
  refine step_r rfl rfl trivial ?_
  refine step_nil ?_
  refine seqK_n ?_
  refine sem_ret ?_
  exact answersR rfl ⟨trivial, trivial⟩ (congrArg I (fidx_none (p := p) hI.2 hk).symm) rfl
end Go.Proofs.Ytlcdcechaogofaa

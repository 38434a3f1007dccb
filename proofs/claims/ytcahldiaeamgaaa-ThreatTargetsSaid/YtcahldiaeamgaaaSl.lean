import Derived.Test.YtcahldiaeamgaaaBase
namespace Go.Proofs.Ytcahldiaeamgaaa
open Go Go.RowKit Go.Proofs.YtcahldiaeamgaaaVm
attribute [local irreducible] opsWp AnswersE OpsS
set_option maxHeartbeats 400000
set_option maxRecDepth 100000
set_option linter.all false
theorem any_take_snoc {α : Type} {l : List α} {k : Nat} {x : α} (hx : l[k]? = some x) {n : Int} : True := trivial

structure GThreat where
  (Unit : Int)
  (Much : Int)
  (Taunt : Int)
  deriving DecidableEq, Inhabited
def encGThreat (x : GThreat) : List PV := [i64 x.Unit, i64 x.Much, i64 x.Taunt]
abbrev aGThreat (x : GThreat) : AV := .agg [I x.Unit, I x.Much, I x.Taunt]
def wfGThreat (x : GThreat) : Prop := (InR x.Unit) ∧ (InR x.Much) ∧ (InR x.Taunt)
theorem encGThreat_solid {l : List GThreat} : ∀ p ∈ l.flatMap encGThreat, solidP p = true := flat_solid (fun x p h => by simp only [encGThreat, List.mem_cons, List.mem_nil_iff, or_false] at h; rcases h with rfl | rfl | rfl <;> rfl)

theorem clone_GThreat_nil  : Ok Try.prog 34 [.pv .nils] [] (.ref 0 3 0 0) [.row 40 3 []] [] := by
 refine ok_of_sem Try.func34 rfl ?_
 show Walks Try.prog _ _ ⟨[(0, .pv .nils)], [], 0, [], 8, 0⟩
 refine sem_seq ?_
 refine sem_region rfl ?_
 refine step_n (nx' := 1) rfl rfl rfl trivial ?_
 refine step_nil ?_
 refine seqK_n ?_
 refine sem_seq ?_
 refine sem_seq ?_
 refine sem_region rfl ?_
 refine step_r rfl rfl trivial ?_
 refine step_r rfl rfl trivial ?_
 refine step_nil ?_
 refine seqK_n ?_
 refine sem_cond rfl (fun h1 => ?_) (fun h1 => ?_)
 ·skip
  refine sem_seq ?_
  refine sem_region rfl ?_
  refine step_n (nx' := 2) rfl rfl rfl trivial ?_
  refine step_nil ?_
  refine seqK_n ?_
  refine sem_ret ?_
  refine seqK_r ?_
  exact answersGR [] [1] rfl ⟨trivial, trivial⟩ rfl (by (repeat' apply And.intro) <;> first | trivial | rfl | exact flat_len (fun _ => rfl) _ | exact encI_len _ | exact encB_len _ | exact encY_len _ | assumption) (rfl) rfl rfl rfl (by decide) rfl rfl ⟨⟨rfl, rfl⟩, trivial⟩
 ·cases h1

theorem clone_GThreat_nnl (l : List GThreat) (hl : l.length ≤ 16777216) : Ok Try.prog 34 [.pv (.nnl l.length (l.flatMap encGThreat))] [] (.ref 0 3 0 l.length) [.row 40 3 (l.flatMap encGThreat)] [] := by
 refine ok_of_sem Try.func34 rfl ?_
 show Walks Try.prog _ _ ⟨[(0, .pv (.nnl l.length (l.flatMap encGThreat)))], [], 0, [], 8, 0⟩
 refine sem_seq ?_
 refine sem_region rfl ?_
 refine step_n (nx' := 1) rfl rfl rfl trivial ?_
 refine step_nil ?_
 refine seqK_n ?_
 refine sem_seq ?_
 refine sem_seq ?_
 refine sem_region rfl ?_
 refine step_r rfl rfl trivial ?_
 refine step_r rfl rfl trivial ?_
 refine step_nil ?_
 refine seqK_n ?_
 refine sem_cond rfl (fun h1 => ?_) (fun h1 => ?_)
 ·cases h1
 ·skip
  refine sem_skip ?_
  refine seqK_n ?_
  refine sem_seq ?_
  refine sem_region rfl ?_
  refine step_r rfl rfl ⟨by decide, rfl⟩ ?_
  refine step_r rfl rfl trivial ?_
  refine step_appendN (m := l.length) (new := l.flatMap encGThreat) (cs' := l.flatMap encGThreat) (n' := l.length) rfl rfl (rfl) rfl rfl rfl rfl rfl rfl (flat_len (s := 3) (enc := encGThreat) (fun _ => rfl) l) (by first | decide | (unfold maxGrow; omega) | (unfold maxGrow; simp; omega) | (unfold maxGrow; simp only [List.length_append, List.length_take, List.length_drop, List.length_cons, List.length_nil, IntKind.wrap_i64] at *; omega)) rfl rfl rfl rfl ?_
  refine step_r rfl rfl trivial ?_
  refine step_nil ?_
  refine seqK_n ?_
  refine sem_ret ?_
  exact answersGR [] [1] rfl ⟨trivial, trivial⟩ rfl (by (repeat' apply And.intro) <;> first | trivial | rfl | exact flat_len (fun _ => rfl) _ | exact encI_len _ | exact encB_len _ | exact encY_len _ | assumption) (rfl) rfl rfl rfl (by decide) rfl rfl ⟨⟨rfl, rfl⟩, trivial⟩

theorem clone_GThreat (l : List GThreat) (full : Bool) (hl : l.length ≤ 16777216) : Ok Try.prog 34 [.pv (.slc l.length full (l.flatMap encGThreat))] [] (.ref 0 3 0 l.length) [.row 40 3 (l.flatMap encGThreat)] [] := by
  refine Ok.slc1 (fun h1 h2 => ?_) (clone_GThreat_nnl l hl)
  rw [h1, h2]; exact clone_GThreat_nil

theorem del_row_GThreat {l : List GThreat} {i j : Nat} (h1 : i ≤ j) (h2 : j ≤ l.length) : setPs (l.flatMap encGThreat) (i * 3) (((l.flatMap encGThreat).drop (j * 3)).take ((l.length - j) * 3)) = (l.take i ++ l.drop j ++ l.drop (i + (l.length - j))).flatMap encGThreat := by
  have e1 : ((l.flatMap encGThreat).drop (j * 3)).take ((l.length - j) * 3) = (l.drop j).flatMap encGThreat := flat_from (s := 3) (fun _ => rfl) l j
  rw [e1, setPs_eq _ _ _ (by rw [flat_len (s := 3) (fun _ => rfl), flat_len (s := 3) (fun _ => rfl)]; simp only [List.length_drop]; rw [← Nat.add_mul]; exact Nat.mul_le_mul_right _ (by omega))]
  rw [flat_len (s := 3) (fun _ => rfl), ← Nat.add_mul, flat_drop (s := 3) (fun _ => rfl)]
  have e2 : (l.flatMap encGThreat).take (i * 3) = (l.take i).flatMap encGThreat := by have := flat_upto (s := 3) (enc := encGThreat) (fun _ => rfl) l i (by omega); simpa using this
  rw [e2, List.length_drop]; simp only [List.flatMap_append]
theorem clr_row_GThreat {a b : List GThreat} (zs : List PV) (hz : zs.length = 3) : (setPs ((a ++ b).flatMap encGThreat) (a.length * 3) (repeatZ zs b.length)).take (a.length * 3) = a.flatMap encGThreat := by
  rw [setPs_eq _ _ _ (by rw [flat_len (s := 3) (fun _ => rfl), repeatZ_length, hz, ← Nat.add_mul, List.length_append]; exact Nat.le_refl _)]
  rw [List.append_assoc, List.take_append_of_le_length (by rw [List.length_take, flat_len (s := 3) (fun _ => rfl), List.length_append, Nat.add_mul]; omega)]
  rw [List.take_take, Nat.min_self, List.flatMap_append, List.take_append_of_le_length (by rw [flat_len (s := 3) (fun _ => rfl)]; exact Nat.le_refl _)]
  rw [List.take_of_length_le (by rw [flat_len (s := 3) (fun _ => rfl)]; exact Nat.le_refl _)]

theorem delete_GThreat (l : List GThreat) (i : Int) (j : Int) (b0 : 0 ≤ i) (b1 : i ≤ j) (b2 : j ≤ l.length) (hm : l.length ≤ 140737488355328) : Ok Try.prog 36 [.ref 0 3 0 l.length, I i, I j] [.row 40 3 (l.flatMap encGThreat)] (.ref 0 3 0 (l.take i.toNat ++ l.drop j.toNat).length) [.row 40 3 ((l.take i.toNat ++ l.drop j.toNat).flatMap encGThreat)] [] := by
 have hfl : (0 + (l.length : Int).toNat) * 3 ≤ (l.flatMap encGThreat).length := by rw [flat_len (s := 3) (enc := encGThreat) (fun _ => rfl) l]; simp
 have hll : (l.take i.toNat ++ l.drop j.toNat).length = i.toNat + (l.length - j.toNat) := by simp; omega
 have hlm : (l.take i.toNat ++ l.drop j.toNat ++ l.drop (i.toNat + (l.length - j.toNat))).length = l.length := by simp; omega
 refine ok_of_sem Try.func36 rfl ?_
 show Walks Try.prog _ _ ⟨[(0, .ref 0 3 0 l.length), (1, I i), (2, I j)], [(0, .row 40 3 (l.flatMap encGThreat))], 1, [], 33, 1⟩
 refine sem_seq ?_
 refine sem_region rfl ?_
 refine step_n (nx' := 2) rfl rfl rfl trivial ?_
 refine step_nil ?_
 refine seqK_n ?_
 refine sem_seq ?_
 refine sem_region rfl ?_
 refine step_r rfl rfl trivial ?_
 refine step_r rfl rfl trivial ?_
 refine step_r rfl rfl trivial ?_
 refine step_r rfl rfl trivial ?_
 refine step_r rfl rfl trivial ?_
 refine step_x (v' := .undef) rfl (.inl rfl) ⟨by decide, by first | exact b0 | (simp; omega), by first | exact b1 | (simp; omega), by first | exact b2 | (simp; omega), by (first | exact hfl | (simp only [Int.toNat_natCast]; rw [flat_len (s := 3) (enc := encGThreat) (fun _ => rfl) l]; omega)), by simp⟩ rfl rfl rfl ?_
 refine step_nil ?_
 refine seqK_n ?_
 refine sem_seq ?_
 refine sem_seq ?_
 refine sem_region rfl ?_
 refine step_r rfl rfl trivial ?_
 refine step_r rfl rfl trivial ?_
 refine step_bin rfl rfl rfl rfl rfl trivial ?_
 refine step_nil ?_
 refine seqK_n ?_
 refine sem_cond rfl (fun h3 => ?_) (fun h3 => ?_)
 ·have g3 := h3
  try simp at g3
  have hij : i = j := beq_t h3
  refine sem_seq ?_
  refine sem_region rfl ?_
  refine step_r rfl rfl trivial ?_
  refine step_r rfl rfl trivial ?_
  refine step_nil ?_
  refine seqK_n ?_
  have e_ : (l.take i.toNat ++ l.drop j.toNat) = l := by
   rw [hij]; exact List.take_append_drop _ _
  rw [e_]
  refine sem_ret ?_
  refine seqK_r ?_
  exact answersGR [] [] rfl ⟨trivial, trivial⟩ rfl (by (repeat' apply And.intro) <;> first | trivial | rfl | exact flat_len (fun _ => rfl) _ | exact encI_len _ | exact encB_len _ | exact encY_len _ | assumption) (rfl) rfl rfl rfl (by decide) rfl rfl ⟨⟨rfl, rfl⟩, trivial⟩
 ·have g3 := h3
  try simp at g3
  refine sem_skip ?_
  refine seqK_n ?_
  refine sem_seq ?_
  refine sem_region rfl ?_
  refine step_r rfl rfl trivial ?_
  refine step_r rfl rfl trivial ?_
  refine step_r rfl rfl trivial ?_
  refine step_nil ?_
  refine seqK_n ?_
  refine sem_seq ?_
  refine sem_drawn rfl (by decide +kernel) rfl ?_
  refine step_r rfl rfl trivial ?_
  refine step_r rfl rfl trivial ?_
  refine step_rv (v' := .ref 0 3 0 i.toNat) rfl (by simp) rfl (by simp; omega) ?_
  refine step_r rfl rfl trivial ?_
  refine step_r rfl rfl trivial ?_
  refine step_rv (v' := .ref 0 3 j.toNat (l.length - j.toNat)) rfl (by simp) rfl (by simp; omega) ?_
  refine step_x (c := 0 < 3 ∧ _ ∧ _) (v' := .ref 0 3 0 (l.take i.toNat ++ l.drop j.toNat).length) (H'' := [(1, .row _ _ _), (0, .row 40 3 ((l.take i.toNat ++ l.drop j.toNat ++ l.drop (i.toNat + (l.length - j.toNat))).flatMap encGThreat))]) rfl (.inr (by decide +kernel)) ⟨by decide, by rw [List.length_take, List.length_drop, flat_len (s := 3) (enc := encGThreat) (fun _ => rfl) l, ← Nat.sub_mul]; omega, by rw [flat_len (s := 3) (enc := encGThreat) (fun _ => rfl) l]; exact Nat.mul_le_mul_right _ (by omega)⟩ (by simp only [List.length_append, List.length_take, List.length_drop]; congr 1; omega) (by rw [Nat.zero_add, del_row_GThreat (by omega) (by omega)]; rfl) rfl ?_
  refine step_r rfl rfl trivial ?_
  refine step_nil ?_
  refine seqK_n ?_
  refine sem_seq ?_
  refine sem_region rfl ?_
  refine step_r rfl rfl trivial ?_
  refine step_r rfl rfl trivial ?_
  refine step_r rfl rfl trivial ?_
  refine step_r rfl rfl trivial ?_
  refine step_x (v' := .ref 0 3 (l.take i.toNat ++ l.drop j.toNat).length (l.length - (l.take i.toNat ++ l.drop j.toNat).length)) rfl (.inl rfl) ⟨by decide, by simp only [Option.getD_some]; omega, by simp only [Option.getD_some, hll]; omega, by simp only [Option.getD_some, Int.toNat_natCast]; rw [flat_len (s := 3) (enc := encGThreat) (fun _ => rfl), hlm]; omega⟩ (by simp only [Option.getD_some, Int.toNat_natCast, Nat.zero_add]) rfl rfl ?_
  refine step_x0 (H'' := [(1, .row _ _ _), (0, .row _ _ _)]) rfl (.inl rfl) ⟨by decide, rfl, by rw [flat_len (s := 3) (enc := encGThreat) (fun _ => rfl), hlm]; exact Nat.mul_le_mul_right _ (by omega)⟩ rfl ?_
  refine step_nil ?_
  refine seqK_n ?_
  refine sem_seq ?_
  refine sem_region rfl ?_
  refine step_r rfl rfl trivial ?_
  refine step_r rfl rfl trivial ?_
  refine step_nil ?_
  refine seqK_n ?_
  refine sem_trans (Trans.cut (id := 0) (m := (l.take i.toNat ++ l.drop j.toNat).length * 3) (cs' := (l.take i.toNat ++ l.drop j.toNat).flatMap encGThreat) rfl (by have h9 := clr_row_GThreat (a := (l.take i.toNat ++ l.drop j.toNat)) (b := l.drop (i.toNat + (l.length - j.toNat))) ([i64 0, i64 0, i64 0]) rfl; rwa [show (l.drop (i.toNat + (l.length - j.toNat))).length = l.length - (l.take i.toNat ++ l.drop j.toNat).length by rw [List.length_drop, hll]] at h9)) ?_
  refine sem_ret ?_
  exact answersGR [] [] rfl ⟨trivial, trivial⟩ rfl (by (repeat' apply And.intro) <;> first | trivial | rfl | exact flat_len (fun _ => rfl) _ | exact encI_len _ | exact encB_len _ | exact encY_len _ | assumption) (rfl) rfl rfl rfl (by decide) rfl rfl ⟨⟨rfl, rfl⟩, trivial⟩

theorem ixf_GThreat (l : List GThreat) (l_f : Bool) (cl : FuncId) (caps : List AV) (p : GThreat → Bool) (hcl : Fn1 Try.prog cl caps (fun x => [aGThreat x]) (fun x => B (p x))) : Ok Try.prog 40 [.pv (.slc l.length l_f (l.flatMap encGThreat)), .fnc cl caps] [] (I (fidx p l)) [] [] := by
 refine Ok.len fun hlen => ?_
 have hl_l : l.length ≤ maxLen := hlen _ (by simp [lensL, lens, lensP])
 unfold maxLen at hl_l
 refine ok_of_sem Try.func40 rfl ?_
 show Walks Try.prog _ _ ⟨[(0, .pv (.slc l.length l_f (l.flatMap encGThreat))), (1, .fnc cl caps)], [], 0, [], 19, 0⟩
 refine sem_seq ?_
 refine sem_region rfl ?_
 refine step_r rfl rfl trivial ?_
 refine step_nil ?_
 refine seqK_n ?_
 refine sem_seq ?_
 refine sem_seq ?_
 refine sem_region rfl ?_
 refine step_r rfl rfl trivial ?_
 refine step_r rfl rfl trivial ?_
 refine step_r rfl rfl trivial ?_
 refine step_nil ?_
 refine seqK_n ?_
 refine sem_block ?_
 refine sem_loop_of (fun k : Nat => (⟨[(0, .pv (.slc l.length l_f (l.flatMap encGThreat))), (1, .fnc cl caps), (7, I l.length), (8, I k)], [], 0, [], 19, 0⟩ : St)) (fun k : Nat => k ≤ l.length ∧ ∀ y ∈ l.take k, p y = false) (fun k : Nat => l.length - k) 0 (⟨Nat.zero_le _, by simp⟩) (less_of rfl ⟨⟨rfl, rfl⟩, ⟨rfl, hcl.belN⟩, ⟨rfl, rfl⟩, ⟨rfl, rfl⟩, trivial⟩ trivial (fun _ _ => .inr (Nat.zero_le _))) (fun k hI => ?_)
 show Walks Try.prog _ _ (⟨[(0, .pv (.slc l.length l_f (l.flatMap encGThreat))), (1, .fnc cl caps), (7, I l.length), (8, I k)], [], 0, [], 19, 0⟩ : St)
 refine sem_seq ?_
 refine sem_region rfl ?_
 refine step_bin rfl rfl rfl rfl rfl trivial ?_
 refine step_nil ?_
 refine seqK_n ?_
 refine sem_seq ?_
 refine sem_cond rfl (fun h1 => ?_) (fun h1 => ?_)
 ·have hk : k < l.length := by have h := of_decide_eq_true h1; omega
  obtain ⟨x, hx⟩ : ∃ x, l[k]? = some x := ⟨_, List.getElem?_eq_getElem hk⟩
  refine sem_skip ?_
  refine seqK_n ?_
  refine sem_seq ?_
  refine sem_block ?_
  refine sem_seq ?_
  refine sem_region rfl ?_
  refine step_r rfl rfl trivial ?_
  refine step_r rfl rfl trivial ?_
  refine step_nil ?_
  refine seqK_n ?_
  refine sem_seq ?_
  refine sem_region rfl ?_
  refine step_r rfl rfl trivial ?_
  refine step_r rfl rfl trivial ?_
  refine step_r rfl rfl trivial ?_
  refine step_idxS (k := k) rfl rfl rfl rfl hk (flat_ne (s := 3) (enc := encGThreat) (fun _ => rfl) (by decide) hk) rfl ?_
  refine step_load_row rfl rfl rfl (flat_lt (s := 3) (enc := encGThreat) (fun _ => rfl) hk) (flat_take (s := 3) (enc := encGThreat) (fun _ => rfl) hx) rfl ?_
  refine step_callF hcl x rfl rfl rfl rfl rfl rfl ?_
  refine step_nil ?_
  refine seqK_n ?_
  refine sem_cond rfl (fun h3 => ?_) (fun h3 => ?_)
  ·have gp := h3
   refine sem_seq ?_
   refine sem_region rfl ?_
   refine step_r rfl rfl trivial ?_
   refine step_r rfl rfl trivial ?_
   refine step_nil ?_
   refine seqK_n ?_
   refine sem_ret ?_
   refine blkK_r ?_
   refine seqK_r ?_
   refine lupK_r ?_
   refine blkK_r ?_
   refine seqK_r ?_
   exact answersR rfl ⟨trivial, trivial⟩ (congrArg I (fidx_found (p := p) hI.2 hx gp).symm) rfl
  ·have gp := h3
   refine sem_skip ?_
   refine blkK_n ?_
   refine seqK_n ?_
   refine sem_region rfl ?_
   refine step_bin rfl rfl rfl rfl rfl trivial ?_
   refine step_r rfl rfl trivial ?_
   refine step_nil ?_
   exact lup_again (k+1) (⟨hk, take_all_snoc hI.2 hx gp⟩) (by omega) (less_of rfl ⟨⟨rfl, rfl⟩, ⟨rfl, hcl.belN⟩, ⟨rfl, rfl⟩, ⟨congrArg (fun n => some (I n)) (wrapK hk (by assumption)), rfl⟩, trivial⟩ trivial (fun _ _ => .inr (Nat.zero_le _)))
 ·have hk : k = l.length := by have h := of_decide_eq_false h1; have := hI; omega
  refine sem_exit ?_
  refine seqK_e ?_
  refine lupK_e ?_
  refine blkK_t rfl ?_
  refine seqK_n ?_
  refine sem_seq ?_
  refine sem_region rfl ?_
  refine step_r rfl rfl trivial ?_
  refine step_nil ?_
  refine seqK_n ?_
  refine sem_ret ?_
  exact answersR rfl ⟨trivial, trivial⟩ (congrArg I (fidx_none (p := p) hI.2 hk).symm) rfl

theorem ix_Int (l : List Int) (l_f : Bool) (v : Int) : Ok Try.prog 47 [.pv (.slc l.length l_f (encI l)), I v] [] (I (fidx (fun x => v == x) l)) [] [] := by
 refine Ok.len fun hlen => ?_
 have hl_l : l.length ≤ maxLen := hlen _ (by simp [lensL, lens, lensP])
 unfold maxLen at hl_l
 refine ok_of_sem Try.func47 rfl ?_
 show Walks Try.prog _ _ ⟨[(0, .pv (.slc l.length l_f (encI l))), (1, I v)], [], 0, [], 19, 0⟩
 refine sem_seq ?_
 refine sem_region rfl ?_
 refine step_r rfl rfl trivial ?_
 refine step_nil ?_
 refine seqK_n ?_
 refine sem_seq ?_
 refine sem_seq ?_
 refine sem_region rfl ?_
 refine step_r rfl rfl trivial ?_
 refine step_r rfl rfl trivial ?_
 refine step_r rfl rfl trivial ?_
 refine step_nil ?_
 refine seqK_n ?_
 refine sem_block ?_
 refine sem_loop_of (fun k : Nat => (⟨[(0, .pv (.slc l.length l_f (encI l))), (1, I v), (7, I l.length), (8, I k)], [], 0, [], 19, 0⟩ : St)) (fun k : Nat => k ≤ l.length ∧ ∀ y ∈ l.take k, (v == y) = false) (fun k : Nat => l.length - k) 0 (⟨Nat.zero_le _, by simp⟩) (less_of rfl ⟨⟨rfl, rfl⟩, ⟨rfl, rfl⟩, ⟨rfl, rfl⟩, ⟨rfl, rfl⟩, trivial⟩ trivial (fun _ _ => .inr (Nat.zero_le _))) (fun k hI => ?_)
 show Walks Try.prog _ _ (⟨[(0, .pv (.slc l.length l_f (encI l))), (1, I v), (7, I l.length), (8, I k)], [], 0, [], 19, 0⟩ : St)
 refine sem_seq ?_
 refine sem_region rfl ?_
 refine step_bin rfl rfl rfl rfl rfl trivial ?_
 refine step_nil ?_
 refine seqK_n ?_
 refine sem_seq ?_
 refine sem_cond rfl (fun h1 => ?_) (fun h1 => ?_)
 ·have hk : k < l.length := by have h := of_decide_eq_true h1; omega
  obtain ⟨x, hx⟩ : ∃ x, l[k]? = some x := ⟨_, List.getElem?_eq_getElem hk⟩
  refine sem_skip ?_
  refine seqK_n ?_
  refine sem_seq ?_
  refine sem_block ?_
  refine sem_seq ?_
  refine sem_region rfl ?_
  refine step_r rfl rfl trivial ?_
  refine step_r rfl rfl trivial ?_
  refine step_nil ?_
  refine seqK_n ?_
  refine sem_seq ?_
  refine sem_region rfl ?_
  refine step_r rfl rfl trivial ?_
  refine step_r rfl rfl trivial ?_
  refine step_r rfl rfl trivial ?_
  refine step_idxS (k := k) rfl rfl rfl rfl hk (encI_ne hk) rfl ?_
  refine step_load_one rfl rfl rfl (encI_get hx) rfl ?_
  refine step_bin rfl rfl rfl rfl rfl trivial ?_
  refine step_nil ?_
  refine seqK_n ?_
  refine sem_cond rfl (fun h4 => ?_) (fun h4 => ?_)
  ·have gp := h4
   refine sem_seq ?_
   refine sem_region rfl ?_
   refine step_r rfl rfl trivial ?_
   refine step_r rfl rfl trivial ?_
   refine step_nil ?_
   refine seqK_n ?_
   refine sem_ret ?_
   refine blkK_r ?_
   refine seqK_r ?_
   refine lupK_r ?_
   refine blkK_r ?_
   refine seqK_r ?_
   exact answersR rfl ⟨trivial, trivial⟩ (congrArg I (fidx_found (p := fun x => v == x) hI.2 hx gp).symm) rfl
  ·have gp := h4
   refine sem_skip ?_
   refine blkK_n ?_
   refine seqK_n ?_
   refine sem_region rfl ?_
   refine step_bin rfl rfl rfl rfl rfl trivial ?_
   refine step_r rfl rfl trivial ?_
   refine step_nil ?_
   exact lup_again (k+1) (⟨hk, take_all_snoc hI.2 hx gp⟩) (by omega) (less_of rfl ⟨⟨rfl, rfl⟩, ⟨rfl, rfl⟩, ⟨rfl, rfl⟩, ⟨congrArg (fun n => some (I n)) (wrapK hk (by assumption)), rfl⟩, trivial⟩ trivial (fun _ _ => .inr (Nat.zero_le _)))
 ·have hk : k = l.length := by have h := of_decide_eq_false h1; have := hI; omega
  refine sem_exit ?_
  refine seqK_e ?_
  refine lupK_e ?_
  refine blkK_t rfl ?_
  refine seqK_n ?_
  refine sem_seq ?_
  refine sem_region rfl ?_
  refine step_r rfl rfl trivial ?_
  refine step_nil ?_
  refine seqK_n ?_
  refine sem_ret ?_
  exact answersR rfl ⟨trivial, trivial⟩ (congrArg I (fidx_none (p := fun x => v == x) hI.2 hk).symm) rfl

theorem has_Int (l : List Int) (l_f : Bool) (v : Int) : Ok Try.prog 43 [.pv (.slc l.length l_f (encI l)), I v] [] (B (decide (v ∈ l))) [] [] := by
 refine Ok.len fun hlen => ?_
 have hl_l : l.length ≤ maxLen := hlen _ (by simp [lensL, lens, lensP])
 unfold maxLen at hl_l
 refine ok_of_sem Try.func43 rfl ?_
 show Walks Try.prog _ _ ⟨[(0, .pv (.slc l.length l_f (encI l))), (1, I v)], [], 0, [], 9, 0⟩
 refine sem_seq ?_
 refine sem_region rfl ?_
 refine step_r rfl rfl trivial ?_
 refine step_nil ?_
 refine seqK_n ?_
 refine sem_seq ?_
 refine sem_region rfl ?_
 refine step_r rfl rfl trivial ?_
 refine step_r rfl rfl trivial ?_
 refine step_call rfl rfl rfl rfl (ix_Int l l_f v) rfl rfl rfl ?_
 refine step_bin rfl rfl rfl rfl rfl trivial ?_
 refine step_r rfl rfl trivial ?_
 refine step_nil ?_
 refine seqK_n ?_
 refine sem_ret ?_
 exact answersR rfl ⟨trivial, trivial⟩ (congrArg B (mem_fidx (fun _ => rfl))) rfl
end Go.Proofs.Ytcahldiaeamgaaa

import Derived.Test.YtbfmonajbfljmaaDoorTrim
namespace Go.Proofs.YtbfmonajbfljmaaDoor
open Go Go.RowKit Go.Proofs.YtbfmonajbfljmaaDoorVm
attribute [local irreducible] opsWp AnswersE OpsS
set_option maxHeartbeats 400000
set_option maxRecDepth 100000
set_option linter.all false
theorem any_take_snoc {α : Type} {l : List α} {k : Nat} {x : α} (hx : l[k]? = some x) {n : Int} : True := trivial

structure A9int where
  (f0 : Int)
  (f1 : Int)
  (f2 : Int)
  (f3 : Int)
  (f4 : Int)
  (f5 : Int)
  (f6 : Int)
  (f7 : Int)
  (f8 : Int)
  deriving DecidableEq, Inhabited
def encA9int (x : A9int) : List PV := [i64 x.f0, i64 x.f1, i64 x.f2, i64 x.f3, i64 x.f4, i64 x.f5, i64 x.f6, i64 x.f7, i64 x.f8]
abbrev aA9int (x : A9int) : AV := .agg [I x.f0, I x.f1, I x.f2, I x.f3, I x.f4, I x.f5, I x.f6, I x.f7, I x.f8]
def wfA9int (x : A9int) : Prop := (InR x.f0) ∧ (InR x.f1) ∧ (InR x.f2) ∧ (InR x.f3) ∧ (InR x.f4) ∧ (InR x.f5) ∧ (InR x.f6) ∧ (InR x.f7) ∧ (InR x.f8)
theorem encA9int_solid {l : List A9int} : ∀ p ∈ l.flatMap encA9int, solidP p = true := flat_solid (fun x p h => by simp only [encA9int, List.mem_cons, List.mem_nil_iff, or_false] at h; rcases h with rfl | rfl | rfl | rfl | rfl | rfl | rfl | rfl | rfl <;> rfl)

structure GSeen where
  (Unit : Int)
  (Name : List UInt8)
  (Fields : A9int)
  deriving DecidableEq, Inhabited
def encGSeen (x : GSeen) : List PV := [i64 x.Unit, .str x.Name, i64 x.Fields.f0, i64 x.Fields.f1, i64 x.Fields.f2, i64 x.Fields.f3, i64 x.Fields.f4, i64 x.Fields.f5, i64 x.Fields.f6, i64 x.Fields.f7, i64 x.Fields.f8]
abbrev aGSeen (x : GSeen) : AV := .agg [I x.Unit, .pv (.str x.Name), I x.Fields.f0, I x.Fields.f1, I x.Fields.f2, I x.Fields.f3, I x.Fields.f4, I x.Fields.f5, I x.Fields.f6, I x.Fields.f7, I x.Fields.f8]
def wfGSeen (x : GSeen) : Prop := (InR x.Unit) ∧ (x.Name.length ≤ maxLen) ∧ (wfA9int x.Fields)
theorem encGSeen_solid {l : List GSeen} : ∀ p ∈ l.flatMap encGSeen, solidP p = true := flat_solid (fun x p h => by simp only [encGSeen, List.mem_cons, List.mem_nil_iff, or_false] at h; rcases h with rfl | rfl | rfl | rfl | rfl | rfl | rfl | rfl | rfl | rfl | rfl <;> rfl)

theorem equal_GSeen (a : List GSeen) (a_f : Bool) (b : List GSeen) (b_f : Bool) : Ok Tryd.prog 21 [.pv (.slc a.length a_f (a.flatMap encGSeen)), .pv (.slc b.length b_f (b.flatMap encGSeen))] [] (B (decide (a = b))) [] [] := by
 refine Ok.len fun hlen => ?_
 have hl_a : a.length ≤ maxLen := hlen _ (by simp [lensL, lens, lensP])
 have hl_b : b.length ≤ maxLen := hlen _ (by simp [lensL, lens, lensP])
 unfold maxLen at hl_a hl_b
 refine ok_of_sem Tryd.func21 rfl ?_
 show Walks Tryd.prog _ _ ⟨[(0, .pv (.slc a.length a_f (a.flatMap encGSeen))), (1, .pv (.slc b.length b_f (b.flatMap encGSeen)))], [], 0, [], 26, 0⟩
 refine sem_seq (sem_region rfl (step_r rfl rfl trivial (step_nil (seqK_n (sem_seq (sem_seq (sem_region rfl (step_r rfl rfl trivial (step_r rfl rfl trivial (step_r rfl rfl trivial (step_r rfl rfl trivial ?_)))))))))))
 refine step_bin rfl rfl rfl rfl rfl trivial (step_nil (seqK_n ?_))
 refine sem_cond rfl (fun h1 => ?_) (fun h1 => ?_)
 ·skip
  refine sem_seq (sem_region rfl (step_r rfl rfl trivial (step_nil (seqK_n (sem_ret (seqK_r ?_))))))
  have hne : ¬ a.length = b.length := by
   have h := h1; simp at h; omega
  exact answersR rfl (by simp) (congrArg B (decide_eq_false (fun e => hne (by rw [e]))).symm) rfl
 ·have hlen : a.length = b.length := by
   have h := h1; simp at h; omega
  refine sem_skip (seqK_n (sem_seq (sem_seq (sem_region rfl (step_r rfl rfl trivial (step_r rfl rfl trivial (step_r rfl rfl trivial (step_nil (seqK_n (sem_block ?_))))))))))
  refine sem_loop_of (fun k : Nat => (⟨[(0, .pv (.slc a.length a_f (a.flatMap encGSeen))), (1, .pv (.slc b.length b_f (b.flatMap encGSeen))), (12, I a.length), (13, I k)], [], 0, [], 26, 0⟩ : St)) (fun k : Nat => k ≤ a.length ∧ a.take k = b.take k) (fun k : Nat => a.length - k) 0 (⟨Nat.zero_le _, rfl⟩) (less_of rfl ⟨⟨rfl, rfl⟩, ⟨rfl, rfl⟩, ⟨rfl, rfl⟩, ⟨rfl, rfl⟩, trivial⟩ trivial (fun _ _ => .inr (Nat.zero_le _))) (fun k hI => ?_)
  show Walks Tryd.prog _ _ (⟨[(0, .pv (.slc a.length a_f (a.flatMap encGSeen))), (1, .pv (.slc b.length b_f (b.flatMap encGSeen))), (12, I a.length), (13, I k)], [], 0, [], 26, 0⟩ : St)
  refine sem_seq (sem_region rfl (step_bin rfl rfl rfl rfl rfl trivial (step_nil (seqK_n (sem_seq ?_)))))
  refine sem_cond rfl (fun h2 => ?_) (fun h2 => ?_)
  ·have hk : k < a.length := by simpa using h2
   have hk2 : k < b.length := by omega
   obtain ⟨x, hx⟩ : ∃ x, a[k]? = some x := ⟨_, List.getElem?_eq_getElem hk⟩
   obtain ⟨y, hy⟩ : ∃ y, b[k]? = some y := ⟨_, List.getElem?_eq_getElem hk2⟩
   refine sem_skip (seqK_n (sem_seq (sem_block (sem_seq (sem_region rfl (step_r rfl rfl trivial (step_r rfl rfl trivial (step_nil (seqK_n (sem_seq ?_))))))))))
   refine sem_drawn rfl (by decide +kernel) rfl ?_
   refine step_r rfl rfl trivial (step_r rfl rfl trivial (step_idxS (k := k) rfl rfl rfl rfl hk (flat_ne (s := 11) (enc := encGSeen) (fun _ => rfl) (by decide) hk) rfl (step_load_row rfl rfl rfl (flat_lt (s := 11) (enc := encGSeen) (fun _ => rfl) hk) (flat_take (s := 11) (enc := encGSeen) (fun _ => rfl) hx) rfl (step_r rfl rfl trivial (step_r rfl rfl trivial (step_idxS (k := k) rfl rfl rfl rfl hk2 (flat_ne (s := 11) (enc := encGSeen) (fun _ => rfl) (by decide) hk2) rfl (step_load_row rfl rfl rfl (flat_lt (s := 11) (enc := encGSeen) (fun _ => rfl) hk2) (flat_take (s := 11) (enc := encGSeen) (fun _ => rfl) hy) rfl ?_)))))))
   refine step_neqA rfl rfl rfl (by kernel_rfl) rfl rfl rfl rfl rfl ?_
   refine step_nil (seqK_n ?_)
   refine sem_cond rfl (fun h4 => ?_) (fun h4 => ?_)
   ·have hne : x ≠ y := by
     intro e; subst e; simp at h4
    refine sem_seq (sem_region rfl (step_r rfl rfl trivial (step_nil (seqK_n (sem_ret (blkK_r (seqK_r (lupK_r (blkK_r (seqK_r ?_))))))))))
    exact answersR rfl (by simp) (congrArg B (decide_eq_false (same_no hx hy hne)).symm) rfl
   ·have hxy : x = y := by
     have h := h4
     simp at h
     rcases x with ⟨_, _, ⟨_, _, _, _, _, _, _, _, _⟩⟩; rcases y with ⟨_, _, ⟨_, _, _, _, _, _, _, _, _⟩⟩; simp_all
    refine sem_skip (blkK_n (seqK_n (sem_region rfl (step_bin rfl rfl rfl rfl rfl trivial (step_r rfl rfl trivial (step_nil ?_))))))
    exact lup_again (k+1) (⟨hk, by rw [take_snoc hx, take_snoc hy, hI.2, hxy]⟩) (by omega) (less_of rfl ⟨⟨rfl, rfl⟩, ⟨rfl, rfl⟩, ⟨rfl, rfl⟩, ⟨congrArg (fun n => some (I n)) (wrapK hk hl_a), rfl⟩, trivial⟩ trivial (fun _ _ => .inr (Nat.zero_le _)))
  ·have hk : k = a.length := by have := of_decide_eq_false h2; have := hI.1; omega
   refine sem_exit (seqK_e (lupK_e (blkK_t rfl (seqK_n (sem_seq (sem_region rfl (step_r rfl rfl trivial (step_nil (seqK_n (sem_ret ?_))))))))))
   exact answersR rfl (by simp) (congrArg B (decide_eq_true (same_all hI.2 hk hlen)).symm) rfl

structure A5int where
  (f0 : Int)
  (f1 : Int)
  (f2 : Int)
  (f3 : Int)
  (f4 : Int)
  deriving DecidableEq, Inhabited
def encA5int (x : A5int) : List PV := [i64 x.f0, i64 x.f1, i64 x.f2, i64 x.f3, i64 x.f4]
abbrev aA5int (x : A5int) : AV := .agg [I x.f0, I x.f1, I x.f2, I x.f3, I x.f4]
def wfA5int (x : A5int) : Prop := (InR x.f0) ∧ (InR x.f1) ∧ (InR x.f2) ∧ (InR x.f3) ∧ (InR x.f4)
theorem encA5int_solid {l : List A5int} : ∀ p ∈ l.flatMap encA5int, solidP p = true := flat_solid (fun x p h => by simp only [encA5int, List.mem_cons, List.mem_nil_iff, or_false] at h; rcases h with rfl | rfl | rfl | rfl | rfl <;> rfl)

theorem equal_A5int (a : List A5int) (a_f : Bool) (b : List A5int) (b_f : Bool) : Ok Tryd.prog 22 [.pv (.slc a.length a_f (a.flatMap encA5int)), .pv (.slc b.length b_f (b.flatMap encA5int))] [] (B (decide (a = b))) [] [] := by
 refine Ok.len fun hlen => ?_
 have hl_a : a.length ≤ maxLen := hlen _ (by simp [lensL, lens, lensP])
 have hl_b : b.length ≤ maxLen := hlen _ (by simp [lensL, lens, lensP])
 unfold maxLen at hl_a hl_b
 refine ok_of_sem Tryd.func22 rfl ?_
 show Walks Tryd.prog _ _ ⟨[(0, .pv (.slc a.length a_f (a.flatMap encA5int))), (1, .pv (.slc b.length b_f (b.flatMap encA5int)))], [], 0, [], 26, 0⟩
 refine sem_seq (sem_region rfl (step_r rfl rfl trivial (step_nil (seqK_n (sem_seq (sem_seq (sem_region rfl (step_r rfl rfl trivial (step_r rfl rfl trivial (step_r rfl rfl trivial (step_r rfl rfl trivial ?_)))))))))))
 refine step_bin rfl rfl rfl rfl rfl trivial (step_nil (seqK_n ?_))
 refine sem_cond rfl (fun h1 => ?_) (fun h1 => ?_)
 ·skip
  refine sem_seq (sem_region rfl (step_r rfl rfl trivial (step_nil (seqK_n (sem_ret (seqK_r ?_))))))
  have hne : ¬ a.length = b.length := by
   have h := h1; simp at h; omega
  exact answersR rfl (by simp) (congrArg B (decide_eq_false (fun e => hne (by rw [e]))).symm) rfl
 ·have hlen : a.length = b.length := by
   have h := h1; simp at h; omega
  refine sem_skip (seqK_n (sem_seq (sem_seq (sem_region rfl (step_r rfl rfl trivial (step_r rfl rfl trivial (step_r rfl rfl trivial (step_nil (seqK_n (sem_block ?_))))))))))
  refine sem_loop_of (fun k : Nat => (⟨[(0, .pv (.slc a.length a_f (a.flatMap encA5int))), (1, .pv (.slc b.length b_f (b.flatMap encA5int))), (12, I a.length), (13, I k)], [], 0, [], 26, 0⟩ : St)) (fun k : Nat => k ≤ a.length ∧ a.take k = b.take k) (fun k : Nat => a.length - k) 0 (⟨Nat.zero_le _, rfl⟩) (less_of rfl ⟨⟨rfl, rfl⟩, ⟨rfl, rfl⟩, ⟨rfl, rfl⟩, ⟨rfl, rfl⟩, trivial⟩ trivial (fun _ _ => .inr (Nat.zero_le _))) (fun k hI => ?_)
  show Walks Tryd.prog _ _ (⟨[(0, .pv (.slc a.length a_f (a.flatMap encA5int))), (1, .pv (.slc b.length b_f (b.flatMap encA5int))), (12, I a.length), (13, I k)], [], 0, [], 26, 0⟩ : St)
  refine sem_seq (sem_region rfl (step_bin rfl rfl rfl rfl rfl trivial (step_nil (seqK_n (sem_seq ?_)))))
  refine sem_cond rfl (fun h2 => ?_) (fun h2 => ?_)
  ·have hk : k < a.length := by simpa using h2
   have hk2 : k < b.length := by omega
   obtain ⟨x, hx⟩ : ∃ x, a[k]? = some x := ⟨_, List.getElem?_eq_getElem hk⟩
   obtain ⟨y, hy⟩ : ∃ y, b[k]? = some y := ⟨_, List.getElem?_eq_getElem hk2⟩
   refine sem_skip (seqK_n (sem_seq (sem_block (sem_seq (sem_region rfl (step_r rfl rfl trivial (step_r rfl rfl trivial (step_nil (seqK_n (sem_seq ?_))))))))))
   refine sem_drawn rfl (by decide +kernel) rfl ?_
   refine step_r rfl rfl trivial (step_r rfl rfl trivial (step_idxS (k := k) rfl rfl rfl rfl hk (flat_ne (s := 5) (enc := encA5int) (fun _ => rfl) (by decide) hk) rfl (step_load_row rfl rfl rfl (flat_lt (s := 5) (enc := encA5int) (fun _ => rfl) hk) (flat_take (s := 5) (enc := encA5int) (fun _ => rfl) hx) rfl (step_r rfl rfl trivial (step_r rfl rfl trivial (step_idxS (k := k) rfl rfl rfl rfl hk2 (flat_ne (s := 5) (enc := encA5int) (fun _ => rfl) (by decide) hk2) rfl (step_load_row rfl rfl rfl (flat_lt (s := 5) (enc := encA5int) (fun _ => rfl) hk2) (flat_take (s := 5) (enc := encA5int) (fun _ => rfl) hy) rfl ?_)))))))
   refine step_neqA rfl rfl rfl (by kernel_rfl) rfl rfl rfl rfl rfl ?_
   refine step_nil (seqK_n ?_)
   refine sem_cond rfl (fun h4 => ?_) (fun h4 => ?_)
   ·have hne : x ≠ y := by
     intro e; subst e; simp at h4
    refine sem_seq (sem_region rfl (step_r rfl rfl trivial (step_nil (seqK_n (sem_ret (blkK_r (seqK_r (lupK_r (blkK_r (seqK_r ?_))))))))))
    exact answersR rfl (by simp) (congrArg B (decide_eq_false (same_no hx hy hne)).symm) rfl
   ·have hxy : x = y := by
     have h := h4
     simp at h
     rcases x with ⟨⟩; rcases y with ⟨⟩; simp_all
    refine sem_skip (blkK_n (seqK_n (sem_region rfl (step_bin rfl rfl rfl rfl rfl trivial (step_r rfl rfl trivial (step_nil ?_))))))
    exact lup_again (k+1) (⟨hk, by rw [take_snoc hx, take_snoc hy, hI.2, hxy]⟩) (by omega) (less_of rfl ⟨⟨rfl, rfl⟩, ⟨rfl, rfl⟩, ⟨rfl, rfl⟩, ⟨congrArg (fun n => some (I n)) (wrapK hk hl_a), rfl⟩, trivial⟩ trivial (fun _ _ => .inr (Nat.zero_le _)))
  ·have hk : k = a.length := by have := of_decide_eq_false h2; have := hI.1; omega
   refine sem_exit (seqK_e (lupK_e (blkK_t rfl (seqK_n (sem_seq (sem_region rfl (step_r rfl rfl trivial (step_nil (seqK_n (sem_ret ?_))))))))))
   exact answersR rfl (by simp) (congrArg B (decide_eq_true (same_all hI.2 hk hlen)).symm) rfl

theorem del_row_GSeen {l : List GSeen} {i j : Nat} (h1 : i ≤ j) (h2 : j ≤ l.length) : setPs (l.flatMap encGSeen) (i * 11) (((l.flatMap encGSeen).drop (j * 11)).take ((l.length - j) * 11)) = (l.take i ++ l.drop j ++ l.drop (i + (l.length - j))).flatMap encGSeen := by
  have e1 : ((l.flatMap encGSeen).drop (j * 11)).take ((l.length - j) * 11) = (l.drop j).flatMap encGSeen := flat_from (s := 11) (fun _ => rfl) l j
  rw [e1, setPs_eq _ _ _ (by rw [flat_len (s := 11) (fun _ => rfl), flat_len (s := 11) (fun _ => rfl)]; simp only [List.length_drop]; rw [← Nat.add_mul]; exact Nat.mul_le_mul_right _ (by omega))]
  rw [flat_len (s := 11) (fun _ => rfl), ← Nat.add_mul, flat_drop (s := 11) (fun _ => rfl)]
  have e2 : (l.flatMap encGSeen).take (i * 11) = (l.take i).flatMap encGSeen := by have := flat_upto (s := 11) (enc := encGSeen) (fun _ => rfl) l i (by omega); simpa using this
  rw [e2, List.length_drop]; simp only [List.flatMap_append]
theorem clr_row_GSeen {a b : List GSeen} (zs : List PV) (hz : zs.length = 11) : (setPs ((a ++ b).flatMap encGSeen) (a.length * 11) (repeatZ zs b.length)).take (a.length * 11) = a.flatMap encGSeen := by
  rw [setPs_eq _ _ _ (by rw [flat_len (s := 11) (fun _ => rfl), repeatZ_length, hz, ← Nat.add_mul, List.length_append]; exact Nat.le_refl _)]
  rw [List.append_assoc, List.take_append_of_le_length (by rw [List.length_take, flat_len (s := 11) (fun _ => rfl), List.length_append, Nat.add_mul]; omega)]
  rw [List.take_take, Nat.min_self, List.flatMap_append, List.take_append_of_le_length (by rw [flat_len (s := 11) (fun _ => rfl)]; exact Nat.le_refl _)]
  rw [List.take_of_length_le (by rw [flat_len (s := 11) (fun _ => rfl)]; exact Nat.le_refl _)]

theorem delete_GSeen (l : List GSeen) (i : Int) (j : Int) (b0 : 0 ≤ i) (b1 : i ≤ j) (b2 : j ≤ l.length) (hm : l.length ≤ 140737488355328) : Ok Tryd.prog 27 [.ref 0 11 0 l.length, I i, I j] [.row 60 11 (l.flatMap encGSeen)] (.ref 0 11 0 (l.take i.toNat ++ l.drop j.toNat).length) [.row 60 11 ((l.take i.toNat ++ l.drop j.toNat).flatMap encGSeen)] [] := by
 have hfl : (0 + (l.length : Int).toNat) * 11 ≤ (l.flatMap encGSeen).length := by rw [flat_len (s := 11) (enc := encGSeen) (fun _ => rfl) l]; simp
 have hll : (l.take i.toNat ++ l.drop j.toNat).length = i.toNat + (l.length - j.toNat) := by simp; omega
 have hlm : (l.take i.toNat ++ l.drop j.toNat ++ l.drop (i.toNat + (l.length - j.toNat))).length = l.length := by simp; omega
 refine ok_of_sem Tryd.func27 rfl ?_
 show Walks Tryd.prog _ _ ⟨[(0, .ref 0 11 0 l.length), (1, I i), (2, I j)], [(0, .row 60 11 (l.flatMap encGSeen))], 1, [], 33, 1⟩
 refine sem_seq (sem_region rfl (step_n (nx' := 2) rfl rfl rfl trivial (step_nil (seqK_n (sem_seq (sem_region rfl (step_r rfl rfl trivial (step_r rfl rfl trivial (step_r rfl rfl trivial (step_r rfl rfl trivial (step_r rfl rfl trivial ?_)))))))))))
 refine step_x (v' := .undef) rfl (.inl rfl) ⟨by decide, by first | exact b0 | (simp; omega), by first | exact b1 | (simp; omega), by first | exact b2 | (simp; omega), by (first | exact hfl | (simp only [Int.toNat_natCast]; rw [flat_len (s := 11) (enc := encGSeen) (fun _ => rfl) l]; omega)), by simp⟩ rfl rfl rfl ?_
 refine step_nil (seqK_n (sem_seq (sem_seq (sem_region rfl (step_r rfl rfl trivial (step_r rfl rfl trivial (step_bin rfl rfl rfl rfl rfl trivial (step_nil (seqK_n ?_)))))))))
 refine sem_cond rfl (fun h3 => ?_) (fun h3 => ?_)
 ·have g3 := h3
  try simp at g3
  have hij : i = j := beq_t h3
  refine sem_seq (sem_region rfl (step_r rfl rfl trivial (step_r rfl rfl trivial (step_nil (seqK_n ?_)))))
  have e_ : (l.take i.toNat ++ l.drop j.toNat) = l := by
   rw [hij]; exact List.take_append_drop _ _
  rw [e_]
  refine sem_ret (seqK_r ?_)
  exact answersGR [] [] rfl ⟨trivial, trivial⟩ rfl (by (repeat' apply And.intro) <;> first | trivial | rfl | exact flat_len (fun _ => rfl) _ | exact encI_len _ | assumption) (rfl) rfl rfl rfl (by decide) rfl rfl ⟨⟨rfl, rfl⟩, trivial⟩
 ·have g3 := h3
  try simp at g3
  refine sem_skip (seqK_n (sem_seq (sem_region rfl (step_r rfl rfl trivial (step_r rfl rfl trivial (step_r rfl rfl trivial (step_nil (seqK_n (sem_seq ?_)))))))))
  refine sem_drawn rfl (by decide +kernel) rfl ?_
  refine step_r rfl rfl trivial (step_r rfl rfl trivial ?_)
  refine step_rv (v' := .ref 0 11 0 i.toNat) rfl (by simp) rfl (by simp; omega) ?_
  refine step_r rfl rfl trivial (step_r rfl rfl trivial ?_)
  refine step_rv (v' := .ref 0 11 j.toNat (l.length - j.toNat)) rfl (by simp) rfl (by simp; omega) ?_
  refine step_x (c := 0 < 11 ∧ _ ∧ _) (v' := .ref 0 11 0 (l.take i.toNat ++ l.drop j.toNat).length) (H'' := [(1, .row _ _ _), (0, .row 60 11 ((l.take i.toNat ++ l.drop j.toNat ++ l.drop (i.toNat + (l.length - j.toNat))).flatMap encGSeen))]) rfl (.inr (by decide +kernel)) ⟨by decide, by rw [List.length_take, List.length_drop, flat_len (s := 11) (enc := encGSeen) (fun _ => rfl) l, ← Nat.sub_mul]; omega, by rw [flat_len (s := 11) (enc := encGSeen) (fun _ => rfl) l]; exact Nat.mul_le_mul_right _ (by omega)⟩ (by simp only [List.length_append, List.length_take, List.length_drop]; congr 1; omega) (by rw [Nat.zero_add, del_row_GSeen (by omega) (by omega)]; rfl) rfl ?_
  refine step_r rfl rfl trivial (step_nil (seqK_n (sem_seq (sem_region rfl (step_r rfl rfl trivial (step_r rfl rfl trivial (step_r rfl rfl trivial (step_r rfl rfl trivial ?_))))))))
  refine step_x (v' := .ref 0 11 (l.take i.toNat ++ l.drop j.toNat).length (l.length - (l.take i.toNat ++ l.drop j.toNat).length)) rfl (.inl rfl) ⟨by decide, by simp only [Option.getD_some]; omega, by simp only [Option.getD_some, hll]; omega, by simp only [Option.getD_some, Int.toNat_natCast]; rw [flat_len (s := 11) (enc := encGSeen) (fun _ => rfl), hlm]; omega⟩ (by simp only [Option.getD_some, Int.toNat_natCast, Nat.zero_add]) rfl rfl ?_
  refine step_x0 (H'' := [(1, .row _ _ _), (0, .row _ _ _)]) rfl (.inl rfl) ⟨by decide, rfl, by rw [flat_len (s := 11) (enc := encGSeen) (fun _ => rfl), hlm]; exact Nat.mul_le_mul_right _ (by omega)⟩ rfl ?_
  refine step_nil (seqK_n (sem_seq (sem_region rfl (step_r rfl rfl trivial (step_r rfl rfl trivial (step_nil (seqK_n ?_)))))))
  refine sem_trans (Trans.cut (id := 0) (m := (l.take i.toNat ++ l.drop j.toNat).length * 11) (cs' := (l.take i.toNat ++ l.drop j.toNat).flatMap encGSeen) rfl (by have h9 := clr_row_GSeen (a := (l.take i.toNat ++ l.drop j.toNat)) (b := l.drop (i.toNat + (l.length - j.toNat))) ([i64 0, (.str []), i64 0, i64 0, i64 0, i64 0, i64 0, i64 0, i64 0, i64 0, i64 0]) rfl; rwa [show (l.drop (i.toNat + (l.length - j.toNat))).length = l.length - (l.take i.toNat ++ l.drop j.toNat).length by rw [List.length_drop, hll]] at h9)) ?_
  refine sem_ret ?_
  exact answersGR [] [] rfl ⟨trivial, trivial⟩ rfl (by (repeat' apply And.intro) <;> first | trivial | rfl | exact flat_len (fun _ => rfl) _ | exact encI_len _ | assumption) (rfl) rfl rfl rfl (by decide) rfl rfl ⟨⟨rfl, rfl⟩, trivial⟩

theorem clone_GSeen_nil  : Ok Tryd.prog 34 [.pv .nils] [] (.ref 0 11 0 0) [.row 60 11 []] [] := by
 refine ok_of_sem Tryd.func34 rfl ?_
 show Walks Tryd.prog _ _ ⟨[(0, .pv .nils)], [], 0, [], 8, 0⟩
 refine sem_seq (sem_region rfl (step_n (nx' := 1) rfl rfl rfl trivial (step_nil (seqK_n (sem_seq (sem_seq (sem_region rfl (step_r rfl rfl trivial (step_r rfl rfl trivial (step_nil (seqK_n ?_)))))))))))
 refine sem_cond rfl (fun h1 => ?_) (fun h1 => ?_)
 ·skip
  refine sem_seq (sem_region rfl (step_n (nx' := 2) rfl rfl rfl trivial (step_nil (seqK_n (sem_ret (seqK_r ?_))))))
  exact answersGR [] [1] rfl ⟨trivial, trivial⟩ rfl (by (repeat' apply And.intro) <;> first | trivial | rfl | exact flat_len (fun _ => rfl) _ | exact encI_len _ | assumption) (rfl) rfl rfl rfl (by decide) rfl rfl ⟨⟨rfl, rfl⟩, trivial⟩
 ·cases h1

theorem clone_GSeen_nnl (l : List GSeen) (hl : l.length ≤ 16777216) : Ok Tryd.prog 34 [.pv (.nnl l.length (l.flatMap encGSeen))] [] (.ref 0 11 0 l.length) [.row 60 11 (l.flatMap encGSeen)] [] := by
 refine ok_of_sem Tryd.func34 rfl ?_
 show Walks Tryd.prog _ _ ⟨[(0, .pv (.nnl l.length (l.flatMap encGSeen)))], [], 0, [], 8, 0⟩
 refine sem_seq (sem_region rfl (step_n (nx' := 1) rfl rfl rfl trivial (step_nil (seqK_n (sem_seq (sem_seq (sem_region rfl (step_r rfl rfl trivial (step_r rfl rfl trivial (step_nil (seqK_n ?_)))))))))))
 refine sem_cond rfl (fun h1 => ?_) (fun h1 => ?_)
 ·cases h1
 ·skip
  refine sem_skip (seqK_n (sem_seq (sem_region rfl (step_r rfl rfl ⟨by decide, rfl⟩ (step_r rfl rfl trivial ?_)))))
  refine step_appendN (m := l.length) (new := l.flatMap encGSeen) (cs' := l.flatMap encGSeen) (n' := l.length) rfl rfl (rfl) rfl rfl rfl rfl rfl rfl (flat_len (s := 11) (enc := encGSeen) (fun _ => rfl) l) (by first | decide | (unfold maxGrow; omega) | (unfold maxGrow; simp; omega) | (unfold maxGrow; simp only [List.length_append, List.length_take, List.length_drop, List.length_cons, List.length_nil, IntKind.wrap_i64] at *; omega)) rfl rfl rfl rfl ?_
  refine step_r rfl rfl trivial (step_nil (seqK_n (sem_ret ?_)))
  exact answersGR [] [1] rfl ⟨trivial, trivial⟩ rfl (by (repeat' apply And.intro) <;> first | trivial | rfl | exact flat_len (fun _ => rfl) _ | exact encI_len _ | assumption) (rfl) rfl rfl rfl (by decide) rfl rfl ⟨⟨rfl, rfl⟩, trivial⟩

theorem clone_GSeen (l : List GSeen) (full : Bool) (hl : l.length ≤ 16777216) : Ok Tryd.prog 34 [.pv (.slc l.length full (l.flatMap encGSeen))] [] (.ref 0 11 0 l.length) [.row 60 11 (l.flatMap encGSeen)] [] := by
  refine Ok.slc1 (fun h1 h2 => ?_) (clone_GSeen_nnl l hl)
  rw [h1, h2]; exact clone_GSeen_nil

theorem clone_A5int_nil  : Ok Tryd.prog 35 [.pv .nils] [] (.ref 0 5 0 0) [.row 68 5 []] [] := by
 refine ok_of_sem Tryd.func35 rfl ?_
 show Walks Tryd.prog _ _ ⟨[(0, .pv .nils)], [], 0, [], 8, 0⟩
 refine sem_seq (sem_region rfl (step_n (nx' := 1) rfl rfl rfl trivial (step_nil (seqK_n (sem_seq (sem_seq (sem_region rfl (step_r rfl rfl trivial (step_r rfl rfl trivial (step_nil (seqK_n ?_)))))))))))
 refine sem_cond rfl (fun h1 => ?_) (fun h1 => ?_)
 ·skip
  refine sem_seq (sem_region rfl (step_n (nx' := 2) rfl rfl rfl trivial (step_nil (seqK_n (sem_ret (seqK_r ?_))))))
  exact answersGR [] [1] rfl ⟨trivial, trivial⟩ rfl (by (repeat' apply And.intro) <;> first | trivial | rfl | exact flat_len (fun _ => rfl) _ | exact encI_len _ | assumption) (rfl) rfl rfl rfl (by decide) rfl rfl ⟨⟨rfl, rfl⟩, trivial⟩
 ·cases h1

theorem clone_A5int_nnl (l : List A5int) (hl : l.length ≤ 16777216) : Ok Tryd.prog 35 [.pv (.nnl l.length (l.flatMap encA5int))] [] (.ref 0 5 0 l.length) [.row 68 5 (l.flatMap encA5int)] [] := by
 refine ok_of_sem Tryd.func35 rfl ?_
 show Walks Tryd.prog _ _ ⟨[(0, .pv (.nnl l.length (l.flatMap encA5int)))], [], 0, [], 8, 0⟩
 refine sem_seq (sem_region rfl (step_n (nx' := 1) rfl rfl rfl trivial (step_nil (seqK_n (sem_seq (sem_seq (sem_region rfl (step_r rfl rfl trivial (step_r rfl rfl trivial (step_nil (seqK_n ?_)))))))))))
 refine sem_cond rfl (fun h1 => ?_) (fun h1 => ?_)
 ·cases h1
 ·skip
  refine sem_skip (seqK_n (sem_seq (sem_region rfl (step_r rfl rfl ⟨by decide, rfl⟩ (step_r rfl rfl trivial ?_)))))
  refine step_appendN (m := l.length) (new := l.flatMap encA5int) (cs' := l.flatMap encA5int) (n' := l.length) rfl rfl (rfl) rfl rfl rfl rfl rfl rfl (flat_len (s := 5) (enc := encA5int) (fun _ => rfl) l) (by first | decide | (unfold maxGrow; omega) | (unfold maxGrow; simp; omega) | (unfold maxGrow; simp only [List.length_append, List.length_take, List.length_drop, List.length_cons, List.length_nil, IntKind.wrap_i64] at *; omega)) rfl rfl rfl rfl ?_
  refine step_r rfl rfl trivial (step_nil (seqK_n (sem_ret ?_)))
  exact answersGR [] [1] rfl ⟨trivial, trivial⟩ rfl (by (repeat' apply And.intro) <;> first | trivial | rfl | exact flat_len (fun _ => rfl) _ | exact encI_len _ | assumption) (rfl) rfl rfl rfl (by decide) rfl rfl ⟨⟨rfl, rfl⟩, trivial⟩

theorem clone_A5int (l : List A5int) (full : Bool) (hl : l.length ≤ 16777216) : Ok Tryd.prog 35 [.pv (.slc l.length full (l.flatMap encA5int))] [] (.ref 0 5 0 l.length) [.row 68 5 (l.flatMap encA5int)] [] := by
  refine Ok.slc1 (fun h1 h2 => ?_) (clone_A5int_nnl l hl)
  rw [h1, h2]; exact clone_A5int_nil

theorem ixf_GSeen (l : List GSeen) (l_f : Bool) (cl : FuncId) (caps : List AV) (p : GSeen → Bool) (hcl : Fn1 Tryd.prog cl caps (fun x => [aGSeen x]) (fun x => B (p x))) : Ok Tryd.prog 37 [.pv (.slc l.length l_f (l.flatMap encGSeen)), .fnc cl caps] [] (I (fidx p l)) [] [] := by
 refine Ok.len fun hlen => ?_
 have hl_l : l.length ≤ maxLen := hlen _ (by simp [lensL, lens, lensP])
 unfold maxLen at hl_l
 refine ok_of_sem Tryd.func37 rfl ?_
 show Walks Tryd.prog _ _ ⟨[(0, .pv (.slc l.length l_f (l.flatMap encGSeen))), (1, .fnc cl caps)], [], 0, [], 19, 0⟩
 refine sem_seq (sem_region rfl (step_r rfl rfl trivial (step_nil (seqK_n (sem_seq (sem_seq (sem_region rfl (step_r rfl rfl trivial (step_r rfl rfl trivial (step_r rfl rfl trivial (step_nil ?_)))))))))))
 refine seqK_n (sem_block ?_)
 refine sem_loop_of (fun k : Nat => (⟨[(0, .pv (.slc l.length l_f (l.flatMap encGSeen))), (1, .fnc cl caps), (7, I l.length), (8, I k)], [], 0, [], 19, 0⟩ : St)) (fun k : Nat => k ≤ l.length ∧ ∀ y ∈ l.take k, p y = false) (fun k : Nat => l.length - k) 0 (⟨Nat.zero_le _, by simp⟩) (less_of rfl ⟨⟨rfl, rfl⟩, ⟨rfl, hcl.belN⟩, ⟨rfl, rfl⟩, ⟨rfl, rfl⟩, trivial⟩ trivial (fun _ _ => .inr (Nat.zero_le _))) (fun k hI => ?_)
 show Walks Tryd.prog _ _ (⟨[(0, .pv (.slc l.length l_f (l.flatMap encGSeen))), (1, .fnc cl caps), (7, I l.length), (8, I k)], [], 0, [], 19, 0⟩ : St)
 refine sem_seq (sem_region rfl (step_bin rfl rfl rfl rfl rfl trivial (step_nil (seqK_n (sem_seq ?_)))))
 refine sem_cond rfl (fun h1 => ?_) (fun h1 => ?_)
 ·have hk : k < l.length := by have h := of_decide_eq_true h1; omega
  obtain ⟨x, hx⟩ : ∃ x, l[k]? = some x := ⟨_, List.getElem?_eq_getElem hk⟩
  refine sem_skip (seqK_n (sem_seq (sem_block (sem_seq (sem_region rfl (step_r rfl rfl trivial (step_r rfl rfl trivial (step_nil (seqK_n (sem_seq (sem_region rfl ?_)))))))))))
  refine step_r rfl rfl trivial (step_r rfl rfl trivial (step_r rfl rfl trivial (step_idxS (k := k) rfl rfl rfl rfl hk (flat_ne (s := 11) (enc := encGSeen) (fun _ => rfl) (by decide) hk) rfl (step_load_row rfl rfl rfl (flat_lt (s := 11) (enc := encGSeen) (fun _ => rfl) hk) (flat_take (s := 11) (enc := encGSeen) (fun _ => rfl) hx) rfl ?_))))
  refine step_callF hcl x rfl rfl rfl rfl rfl rfl ?_
  refine step_nil (seqK_n ?_)
  refine sem_cond rfl (fun h3 => ?_) (fun h3 => ?_)
  ·have gp := h3
   refine sem_seq (sem_region rfl (step_r rfl rfl trivial (step_r rfl rfl trivial (step_nil (seqK_n (sem_ret (blkK_r (seqK_r (lupK_r (blkK_r (seqK_r ?_)))))))))))
   exact answersR rfl ⟨trivial, trivial⟩ (congrArg I (fidx_found (p := p) hI.2 hx gp).symm) rfl
  ·have gp := h3
   refine sem_skip (blkK_n (seqK_n (sem_region rfl (step_bin rfl rfl rfl rfl rfl trivial (step_r rfl rfl trivial (step_nil ?_))))))
   exact lup_again (k+1) (⟨hk, take_all_snoc hI.2 hx gp⟩) (by omega) (less_of rfl ⟨⟨rfl, rfl⟩, ⟨rfl, hcl.belN⟩, ⟨rfl, rfl⟩, ⟨congrArg (fun n => some (I n)) (wrapK hk (by assumption)), rfl⟩, trivial⟩ trivial (fun _ _ => .inr (Nat.zero_le _)))
 ·have hk : k = l.length := by have h := of_decide_eq_false h1; have := hI; omega
  refine sem_exit (seqK_e (lupK_e (blkK_t rfl (seqK_n (sem_seq (sem_region rfl (step_r rfl rfl trivial (step_nil (seqK_n (sem_ret ?_))))))))))
  exact answersR rfl ⟨trivial, trivial⟩ (congrArg I (fidx_none (p := p) hI.2 hk).symm) rfl

theorem clone_UInt8_nil  : Ok Tryd.prog 42 [.pv .nils] [] (.ref 0 1 0 0) [.row 5 1 []] [] := by
 refine ok_of_sem Tryd.func42 rfl ?_
 show Walks Tryd.prog _ _ ⟨[(0, .pv .nils)], [], 0, [], 8, 0⟩
 refine sem_seq (sem_region rfl (step_n (nx' := 1) rfl rfl rfl trivial (step_nil (seqK_n (sem_seq (sem_seq (sem_region rfl (step_r rfl rfl trivial (step_r rfl rfl trivial (step_nil (seqK_n ?_)))))))))))
 refine sem_cond rfl (fun h1 => ?_) (fun h1 => ?_)
 ·skip
  refine sem_seq (sem_region rfl (step_n (nx' := 2) rfl rfl rfl trivial (step_nil (seqK_n (sem_ret (seqK_r ?_))))))
  exact answersGR [] [1] rfl ⟨trivial, trivial⟩ rfl (by (repeat' apply And.intro) <;> first | trivial | rfl | exact flat_len (fun _ => rfl) _ | exact encI_len _ | assumption) (rfl) rfl rfl rfl (by decide) rfl rfl ⟨⟨rfl, rfl⟩, trivial⟩
 ·cases h1

theorem clone_UInt8_nnl (l : List UInt8) (hl : l.length ≤ 16777216) : Ok Tryd.prog 42 [.pv (.nnl l.length (encY l))] [] (.ref 0 1 0 l.length) [.row 5 1 (encY l)] [] := by
 refine ok_of_sem Tryd.func42 rfl ?_
 show Walks Tryd.prog _ _ ⟨[(0, .pv (.nnl l.length (encY l)))], [], 0, [], 8, 0⟩
 refine sem_seq (sem_region rfl (step_n (nx' := 1) rfl rfl rfl trivial (step_nil (seqK_n (sem_seq (sem_seq (sem_region rfl (step_r rfl rfl trivial (step_r rfl rfl trivial (step_nil (seqK_n ?_)))))))))))
 refine sem_cond rfl (fun h1 => ?_) (fun h1 => ?_)
 ·cases h1
 ·skip
  refine sem_skip (seqK_n (sem_seq (sem_region rfl (step_r rfl rfl ⟨by decide, rfl⟩ (step_r rfl rfl trivial ?_)))))
  refine step_appendN (m := l.length) (new := encY l) (cs' := encY l) (n' := l.length) rfl rfl (rfl) rfl rfl rfl rfl rfl rfl (encY_len l) (by first | decide | (unfold maxGrow; omega) | (unfold maxGrow; simp; omega) | (unfold maxGrow; simp only [List.length_append, List.length_take, List.length_drop, List.length_cons, List.length_nil, IntKind.wrap_i64] at *; omega)) rfl rfl rfl rfl ?_
  refine step_r rfl rfl trivial (step_nil (seqK_n (sem_ret ?_)))
  exact answersGR [] [1] rfl ⟨trivial, trivial⟩ rfl (by (repeat' apply And.intro) <;> first | trivial | rfl | exact flat_len (fun _ => rfl) _ | exact encI_len _ | assumption) (rfl) rfl rfl rfl (by decide) rfl rfl ⟨⟨rfl, rfl⟩, trivial⟩

theorem clone_UInt8 (l : List UInt8) (full : Bool) (hl : l.length ≤ 16777216) : Ok Tryd.prog 42 [.pv (.slc l.length full (encY l))] [] (.ref 0 1 0 l.length) [.row 5 1 (encY l)] [] := by
  refine Ok.slc1 (fun h1 h2 => ?_) (clone_UInt8_nnl l hl)
  rw [h1, h2]; exact clone_UInt8_nil
end Go.Proofs.YtbfmonajbfljmaaDoor

import Derived.Test.YtbfmonajbfljmaaDoorSl
namespace Go.Proofs.YtbfmonajbfljmaaDoor
open Go Go.RowKit Go.Proofs.YtbfmonajbfljmaaDoorVm
attribute [local irreducible] opsWp AnswersE OpsS
set_option maxHeartbeats 400000
set_option maxRecDepth 100000
set_option linter.all false
/-- the cells of a row with one more in the middle -/
theorem ins_grow {cs xs zs : List PV} {n k z m p q : Nat} (hc : cs.length = n * z) (hx : xs.length = z) (hz : zs.length = z) (hk : k ≤ n) (hm : m = n + 1 - k) (hp : p = k * z) (hq : q = (k + 1) * z) :
    overPs (overPs (cs.take p ++ repeatZ zs m) p xs) q (cs.drop p) = cs.take p ++ (xs ++ cs.drop p) := by
  subst hp; subst hq; subst hm
  have hkz : k * z ≤ n * z := Nat.mul_le_mul_right _ hk
  have h1 : (cs.take (k * z)).length = k * z := by rw [List.length_take]; omega
  have h2 : (n + 1 - k) * z = n * z + z - k * z := by rw [Nat.sub_mul, Nat.add_mul, Nat.one_mul]
  have h3 : (k + 1) * z = k * z + z := by rw [Nat.add_mul, Nat.one_mul]
  have e1 : overPs (cs.take (k * z) ++ repeatZ zs (n + 1 - k)) (k * z) xs = cs.take (k * z) ++ (xs ++ (repeatZ zs (n + 1 - k)).drop z) := by
    unfold overPs
    rw [List.take_left' h1, List.drop_append, List.drop_of_length_le (by rw [h1, hx]; omega), h1, hx, List.nil_append, Nat.add_sub_cancel_left]
  rw [e1]
  unfold overPs
  have e2 : (cs.take (k * z) ++ (xs ++ (repeatZ zs (n + 1 - k)).drop z)).take ((k + 1) * z) = cs.take (k * z) ++ xs := by
    rw [← List.append_assoc, List.take_left']
    rw [List.length_append, h1, hx, h3]
  have e3 : (cs.take (k * z) ++ (xs ++ (repeatZ zs (n + 1 - k)).drop z)).drop ((k + 1) * z + (cs.drop (k * z)).length) = [] := by
    refine List.drop_of_length_le ?_
    rw [List.length_append, List.length_append, List.length_drop, List.length_drop, h1, hx, repeatZ_length, hz, hc]
    omega
  rw [e2, e3, List.append_nil, List.append_assoc]
theorem ins_room {cs xs : List PV} {n k z p q : Nat} (hc : cs.length = n * z) (hx : xs.length = z) (hk : k < n) (hp : p = k * z) (hq : q = (k + 1) * z) :
    overPs (overPs cs q (cs.drop p)) p xs = cs.take p ++ (xs ++ cs.drop p) := by
  subst hp; subst hq
  have hkz : (k + 1) * z ≤ n * z := Nat.mul_le_mul_right _ hk
  have h3 : (k + 1) * z = k * z + z := by rw [Nat.add_mul, Nat.one_mul]
  have h1 : (cs.take ((k + 1) * z)).length = (k + 1) * z := by rw [List.length_take]; omega
  have e1 : overPs cs ((k + 1) * z) (cs.drop (k * z)) = cs.take ((k + 1) * z) ++ cs.drop (k * z) := by
    have e0 : cs.drop ((k + 1) * z + (cs.drop (k * z)).length) = [] := List.drop_of_length_le (by rw [List.length_drop]; omega)
    unfold overPs
    rw [e0, List.append_nil]
  rw [e1]
  unfold overPs
  have e2 : (cs.take ((k + 1) * z) ++ cs.drop (k * z)).take (k * z) = cs.take (k * z) := by
    rw [List.take_append_of_le_length (by rw [h1]; omega), List.take_take, Nat.min_eq_left (by omega)]
  have e3 : (cs.take ((k + 1) * z) ++ cs.drop (k * z)).drop (k * z + xs.length) = cs.drop (k * z) := by
    rw [hx, ← h3, List.drop_left' h1]
  rw [e2, e3]
theorem ins_flat {α : Type} {enc : α → List PV} {z : Nat} (h : ∀ x, (enc x).length = z) (l : List α) (x : α) {k : Nat} (hk : k ≤ l.length) : (l.flatMap enc).take (k * z) ++ ([x].flatMap enc ++ (l.flatMap enc).drop (k * z)) = (l.take k ++ x :: l.drop k).flatMap enc := by
  have e : l.flatMap enc = (l.take k).flatMap enc ++ (l.drop k).flatMap enc := by rw [← List.flatMap_append, List.take_append_drop]
  have hl : ((l.take k).flatMap enc).length = k * z := by rw [flat_len (s := z) h, List.length_take, Nat.min_eq_left hk]
  rw [e, List.take_left' hl, List.drop_left' hl, List.flatMap_append, List.flatMap_cons, List.flatMap_cons, List.flatMap_nil, List.append_nil]
theorem ins_end {α : Type} {l : List α} {x : α} {k : Nat} (hk : k = l.length) : l.take k ++ x :: l.drop k = l ++ [x] := by
  subst hk; rw [List.take_length, List.drop_length]
theorem room_of {c : Ctx} {w : World} {id sz n : Nat} {r : List AV} {vals : List Value} (h : RepL c w (.ref id sz 0 n :: r) vals) : n = 0 ∨ ∃ b K, c.φ id = some (.blk b K) := by
  cases vals with
  | nil => simp [RepL] at h
  | cons v vs =>
    simp only [RepL, Rep] at h
    rcases h.1 with ⟨_, _, h3, _⟩ | ⟨b, cap, _, h3, _⟩
    · exact .inl h3
    · exact .inr ⟨b, cap, h3⟩
section
variable {B : Base} {P : Program} {ops : Array Oper} {r : List Oper} {S : St} {Q : St → Prop} {j : Nat} {o1 o2 o3 o4 o5 o6 o7 o8 : Oper}
theorem opsB_cut4 (h : opsWp P ops false j [o1, o2, o3, o4] S (fun S1 => OpsB B P ops r S1 Q)) : OpsB B P ops (o1 :: o2 :: o3 :: o4 :: r) S Q := opsB_app (l1 := [o1, o2, o3, o4]) h
theorem opsB_cut6 (h : opsWp P ops false j [o1, o2, o3, o4, o5, o6] S (fun S1 => OpsB B P ops r S1 Q)) : OpsB B P ops (o1 :: o2 :: o3 :: o4 :: o5 :: o6 :: r) S Q := opsB_app (l1 := [o1, o2, o3, o4, o5, o6]) h
theorem opsB_cut8 (h : opsWp P ops false j [o1, o2, o3, o4, o5, o6, o7, o8] S (fun S1 => OpsB B P ops r S1 Q)) : OpsB B P ops (o1 :: o2 :: o3 :: o4 :: o5 :: o6 :: o7 :: o8 :: r) S Q := opsB_app (l1 := [o1, o2, o3, o4, o5, o6, o7, o8]) h
end
theorem transB_of {B : Base} {S S' : St} (h : Trans S S') : TransB B S S' := fun c w a hs => h B c w a hs


theorem insert_GSeen (l : List GSeen) (i : Int) (x : GSeen) (b0 : 0 ≤ i) (b1 : i ≤ l.length) (hm : l.length ≤ 16777000) : Ok Tryd.prog 40 [.ref 0 11 0 l.length, I i, .ref 1 11 0 [x].length] [.row 60 11 (l.flatMap encGSeen), .row 60 11 ([x].flatMap encGSeen)] (.ref 0 11 0 (l.take i.toNat ++ x :: l.drop i.toNat).length) [.row 60 11 ((l.take i.toNat ++ x :: l.drop i.toNat).flatMap encGSeen), .row 60 11 ([x].flatMap encGSeen)] [0] := by
 have hcs : (l.flatMap encGSeen).length = l.length * 11 := (flat_len (s := 11) (enc := encGSeen) (fun _ => rfl) l)
 have hxs : ([x].flatMap encGSeen).length = 11 := by rw [(flat_len (s := 11) (enc := encGSeen) (fun _ => rfl) [x])]; rfl
 refine ok_of_semB Tryd.func40 rfl fun B hBm hargs hrel => ?_
 have hbk : l.length = 0 ∨ ∃ b K, B.c0.φ 0 = some (.blk b K) := by
   obtain ⟨vals, hv⟩ := hargs
   exact room_of hv
 show WalksB B Tryd.prog _ _ ⟨[(0, .ref 0 11 0 l.length), (1, I i), (2, .ref 1 11 0 [x].length)], [(0, .row 60 11 (l.flatMap encGSeen)), (1, .row 60 11 ([x].flatMap encGSeen))], 2, [], 95, 2⟩
 refine semB_seq ?_
 refine semB_region rfl (opsB_of (j := 0) ?_)
 refine step_n (nx' := 3) rfl rfl rfl trivial (step_nil ?_)
 refine seqKB_n ?_
 refine semB_seq ?_
 refine semB_region rfl (opsB_of (j := 0) ?_)
 refine step_r rfl rfl trivial (step_r rfl rfl trivial ?_)
 refine step_rv (v' := .ref 0 11 i.toNat (l.length - i.toNat)) rfl (by first | rfl | (congr 1 <;> first | rfl | omega | (simp only [Option.getD_some, Option.getD_none]; omega) | (simp; done) | (simp; omega))) rfl (by first | trivial | omega | (simp; done) | (simp; omega) | (refine ⟨?_, ?_, ?_⟩ <;> first | trivial | omega)) ?_
 refine step_nil ?_
 refine seqKB_n ?_
 refine semB_seq ?_
 refine semB_region rfl (opsB_of (j := 0) ?_)
 refine step_r rfl rfl trivial ?_
 refine step_rv (v' := I 1) rfl (by first | rfl | (simp; omega) | simp) rfl (by first | trivial | (simp; omega) | simp) ?_
 refine step_r rfl rfl trivial (step_nil ?_)
 refine seqKB_n ?_
 refine semB_seq ?_
 refine semB_seq ?_
 refine semB_region rfl (opsB_of (j := 0) ?_)
 refine step_r rfl rfl trivial (step_bin rfl rfl rfl rfl rfl trivial (step_nil ?_))
 refine seqKB_n ?_
 refine semB_condF rfl ?_
 refine semB_skip ?_
 refine seqKB_n ?_
 refine semB_seq ?_
 refine semB_region rfl (opsB_of (j := 0) ?_)
 refine step_r rfl rfl trivial (step_r rfl rfl trivial (step_r rfl rfl trivial (step_nil ?_)))
 refine seqKB_n ?_
 refine semB_seq ?_
 refine semB_seq ?_
 refine semB_region rfl (opsB_of (j := 0) ?_)
 refine step_r rfl rfl trivial (step_r rfl rfl trivial (step_bin rfl rfl rfl rfl rfl trivial (step_nil ?_)))
 refine seqKB_n ?_
 refine semB_cond rfl (fun h4 => ?_) (fun h4 => ?_)
 ·have h22 : i = l.length := beq_t h4
  refine semB_seq ?_
  refine semB_region rfl (opsB_of (j := 0) ?_)
  refine step_r rfl rfl trivial (step_r rfl rfl trivial ?_)
  refine step_appendC (m := ([x]).length) (new := ([x]).flatMap encGSeen) (cs' := (l ++ [x]).flatMap encGSeen) (n' := (l ++ [x]).length) (H' := [(2, .row _ _ _), (0, .row _ _ _), (1, .row _ _ _)]) rfl rfl rfl (contentsR rfl (flat_len (s := 11) (enc := encGSeen) (fun _ => rfl) ([x]))) rfl rfl rfl rfl rfl rfl (flat_len (s := 11) (enc := encGSeen) (fun _ => rfl) l) (flat_len (s := 11) (enc := encGSeen) (fun _ => rfl) ([x])) (by first | decide | (unfold maxGrow; omega) | (unfold maxGrow; simp; omega) | (unfold maxGrow; simp only [List.length_append, List.length_take, List.length_drop, List.length_cons, List.length_nil, IntKind.wrap_i64] at *; omega)) (len_append l ([x])) (flat_append encGSeen _ _) (.inl rfl) rfl rfl (.keep rfl (.keep rfl (.keep rfl .nil))) (.keep rfl (.lose (v' := .undef) rfl (.keep rfl (.keep rfl (.keep rfl (.keep rfl (.keep rfl (.lose (v' := .undef) rfl (.keep rfl (.keep rfl (.keep rfl (.keep rfl (.keep rfl (.lose (v' := .undef) rfl (.keep rfl (.lose (v' := .undef) rfl (.keep rfl (.lose (v' := .undef) rfl (.keep rfl (.keep rfl .nil)))))))))))))))))))) ?_
  refine step_r rfl rfl trivial (step_nil ?_)
  refine seqKB_n ?_
  skip
  refine semB_ret ?_
  refine seqKB_r ?_
  rw [ins_end (l := l) (x := x) (k := i.toNat) (by omega)]
  exact answersGR [] [] rfl ⟨trivial, trivial⟩ rfl (by (repeat' apply And.intro) <;> first | trivial | rfl | exact flat_len (fun _ => rfl) _ | exact encI_len _ | assumption) (rfl) rfl rfl rfl (by decide) rfl rfl ⟨⟨rfl, rfl⟩, ⟨rfl, rfl⟩, trivial⟩
 ·have h22 : i ≠ l.length := beq_f h4
  obtain ⟨b_, K, hK⟩ := hbk.resolve_left (by omega)
  refine semB_skip ?_
  refine seqKB_n ?_
  refine semB_seq ?_
  refine semB_seq ?_
  refine semB_region rfl (opsB_cut4 (j := 0) ?_)
  refine step_r rfl rfl trivial (step_r rfl rfl trivial ?_)
  refine step_rv (v' := I ((l.length : Int) + 1)) rfl (by first | rfl | (simp only [List.length_singleton]; exact congrArg (fun q => AV.pv (.int .i64 q)) (wrap_lt (by omega) (by omega)))) rfl (trivial) ?_
  refine step_r rfl rfl trivial (step_nil ?_)
  refine opsB_cap (K := K) hK rfl rfl rfl rfl ?_
  refine opsB_of (j := 0) ?_
  refine step_bin rfl rfl rfl rfl rfl trivial (step_nil ?_)
  refine seqKB_n ?_
  refine semB_cond rfl (fun h5 => ?_) (fun h5 => ?_)
  ·have h31 : K < l.length + 1 := by have h9 := of_decide_eq_true h5; omega
   refine semB_seq ?_
   refine semB_region rfl (opsB_cut8 (j := 0) ?_)
   refine step_r rfl rfl trivial (step_r rfl rfl trivial ?_)
   refine step_rv (v' := .ref 0 11 0 i.toNat) rfl (by first | rfl | (congr 1 <;> first | rfl | omega | (simp only [Option.getD_some, Option.getD_none]; omega) | (simp; done) | (simp; omega))) rfl (by first | trivial | omega | (simp; done) | (simp; omega) | (refine ⟨?_, ?_, ?_⟩ <;> first | trivial | omega)) ?_
   refine step_r rfl rfl trivial (step_r rfl rfl trivial ?_)
   refine step_rv (v' := I ((l.length : Int) + 1)) rfl (by first | rfl | (simp only [List.length_singleton]; exact congrArg (fun q => AV.pv (.int .i64 q)) (wrap_lt (by omega) (by omega)))) rfl (trivial) ?_
   refine step_r rfl rfl trivial ?_
   refine step_rv (v' := I ((l.length : Int) + 1 - i)) rfl (by first | rfl | (simp only [List.length_singleton]; exact congrArg (fun q => AV.pv (.int .i64 q)) (wrap_lt (by omega) (by omega)))) rfl (trivial) ?_
   refine step_nil ?_
   refine opsB_zeros (K := K) (i := i.toNat) (m := l.length + 1 - i.toNat) (zs := [i64 0, (.str []), i64 0, i64 0, i64 0, i64 0, i64 0, i64 0, i64 0, i64 0, i64 0]) hK rfl rfl rfl (by omega) rfl (by omega) rfl rfl rfl rfl rfl (by decide) rfl (by rw [(flat_len (s := 11) (enc := encGSeen) (fun _ => rfl) l)]; exact Nat.mul_le_mul_right _ (by omega)) (by omega) (by unfold maxGrow; omega) (by decide) rfl ?_
   refine opsB_of (j := 0) ?_
   refine step_r rfl rfl trivial (step_nil ?_)
   refine seqKB_n ?_
   refine semB_seq ?_
   refine semB_region rfl (opsB_of (j := 0) ?_)
   refine step_r rfl rfl trivial (step_r rfl rfl trivial ?_)
   refine step_rv (v' := .ref 3 11 i.toNat (i.toNat + (l.length + 1 - i.toNat) - i.toNat)) rfl (by first | rfl | (congr 1 <;> first | rfl | omega | (simp only [Option.getD_some, Option.getD_none]; omega) | (simp; done) | (simp; omega))) rfl (by first | trivial | omega | (simp; done) | (simp; omega) | (refine ⟨?_, ?_, ?_⟩ <;> first | trivial | omega)) ?_
   refine step_r rfl rfl trivial ?_
   refine step_x (v' := .pv (.int .i64 _)) (H'' := [(3, .row 60 11 (overPs ((l.flatMap encGSeen).take (i.toNat * 11) ++ repeatZ [i64 0, (.str []), i64 0, i64 0, i64 0, i64 0, i64 0, i64 0, i64 0, i64 0, i64 0] (l.length + 1 - i.toNat)) (i.toNat * 11) ([x].flatMap encGSeen))), (2, .row _ _ _), (0, .row _ _ _), (1, .row _ _ _)]) rfl (by first | exact .inl rfl | exact .inr (by decide +kernel)) (⟨by decide, by first | omega | (simp; omega), by simp only [List.length_append, List.length_take, repeatZ_length, hcs]; omega, by rw [(flat_len (s := 11) (enc := encGSeen) (fun _ => rfl) [x])]; exact Nat.mul_le_mul_right _ (by first | omega | (simp; omega))⟩) rfl (by have e9 : (([x].flatMap encGSeen).drop (0 * 11)).take (min (i.toNat + (l.length + 1 - i.toNat) - i.toNat) [x].length * 11) = [x].flatMap encGSeen := (by rw [Nat.zero_mul, List.drop_zero, List.take_of_length_le (by rw [hxs, show min (i.toNat + (l.length + 1 - i.toNat) - i.toNat) [x].length = 1 by simp; omega]; decide)]); rw [e9]; rfl) rfl ?_
   refine step_nil ?_
   refine seqKB_n ?_
   refine semB_seq ?_
   refine semB_of (sem_drawn rfl (by decide +kernel) rfl ?_)
   refine step_r rfl rfl trivial (step_r rfl rfl trivial (step_r rfl rfl trivial ?_))
   refine step_rv (v' := I (i + 1)) rfl (by first | rfl | (simp only [List.length_singleton]; exact congrArg (fun q => AV.pv (.int .i64 q)) (wrap_lt (by omega) (by omega)))) rfl (trivial) ?_
   refine step_rv (v' := .ref 3 11 (i.toNat + 1) (i.toNat + (l.length + 1 - i.toNat) - (i.toNat + 1))) rfl (by first | rfl | (congr 1 <;> first | rfl | omega | (simp only [Option.getD_some, Option.getD_none]; omega) | (simp; done) | (simp; omega))) rfl (by first | trivial | omega | (simp; done) | (simp; omega) | (refine ⟨?_, ?_, ?_⟩ <;> first | trivial | omega)) ?_
   refine step_r rfl rfl trivial (step_r rfl rfl trivial ?_)
   refine step_rv (v' := .ref 0 11 i.toNat (l.length - i.toNat)) rfl (by first | rfl | (congr 1 <;> first | rfl | omega | (simp only [Option.getD_some, Option.getD_none]; omega) | (simp; done) | (simp; omega))) rfl (by first | trivial | omega | (simp; done) | (simp; omega) | (refine ⟨?_, ?_, ?_⟩ <;> first | trivial | omega)) ?_
   refine step_x (v' := .pv (.int .i64 _)) (H'' := [(3, .row 60 11 ((l.flatMap encGSeen).take (i.toNat * 11) ++ (([x].flatMap encGSeen) ++ (l.flatMap encGSeen).drop (i.toNat * 11)))), (2, .row _ _ _), (0, .row _ _ _), (1, .row _ _ _)]) rfl (by first | exact .inl rfl | exact .inr (by decide +kernel)) (⟨by decide, by first | omega | (simp; omega), by unfold overPs; simp only [List.length_append, List.length_take, List.length_drop, repeatZ_length, hcs, hxs, List.length_cons, List.length_nil]; omega, by rw [hcs]; exact Nat.mul_le_mul_right _ (by first | omega | (simp; omega))⟩) rfl (by have e9 : ((l.flatMap encGSeen).drop (i.toNat * 11)).take (min (i.toNat + (l.length + 1 - i.toNat) - (i.toNat + 1)) (l.length - i.toNat) * 11) = (l.flatMap encGSeen).drop (i.toNat * 11) := (by rw [List.take_of_length_le (by rw [List.length_drop, hcs, ← Nat.sub_mul]; exact Nat.mul_le_mul_right _ (by omega))]); rw [e9, ins_grow (n := l.length) (k := i.toNat) hcs hxs rfl (by omega) rfl rfl rfl]; rfl) rfl ?_
   refine step_nil ?_
   refine seqKB_n ?_
   refine semB_seq ?_
   refine semB_region rfl (opsB_of (j := 0) ?_)
   refine step_r rfl rfl trivial (step_r rfl rfl trivial (step_nil ?_))
   refine seqKB_n ?_
   refine semB_trans (transB_of (Trans.of_less (less_of (T' := [(6, .ref 3 11 0 (l.length + 1))]) (H' := [(3, .row 60 11 ((l.flatMap encGSeen).take (i.toNat * 11) ++ (([x].flatMap encGSeen) ++ (l.flatMap encGSeen).drop (i.toNat * 11)))), (1, .row 60 11 ([x].flatMap encGSeen))]) (nx' := 4) (mv' := []) rfl ⟨⟨by first | rfl | exact congrArg (fun q => some (AV.ref 3 11 0 q)) (by omega), rfl⟩, trivial⟩ ⟨⟨rfl, rfl, rfl⟩, ⟨rfl, rfl, rfl⟩, trivial⟩ (by simp)))) ?_
   refine semB_trans (TransB.move (i := 0) (j := 3) (lo := 2) (T' := [(6, .ref 0 11 0 (l.length + 1))]) (H' := [(1, .row 60 11 ([x].flatMap encGSeen)), (0, .row 60 11 ((l.flatMap encGSeen).take (i.toNat * 11) ++ (([x].flatMap encGSeen) ++ (l.flatMap encGSeen).drop (i.toNat * 11))))]) (by decide) (by decide) ⟨_, _, hK⟩ (by decide) ⟨⟨rfl, rfl⟩, trivial⟩ ⟨⟨rfl, rfl, by decide⟩, ⟨rfl, rfl, by decide⟩, trivial⟩) ?_
   refine semB_ret ?_
   refine seqKB_r ?_
   rw [show ((l.flatMap encGSeen).take (i.toNat * 11) ++ (([x].flatMap encGSeen) ++ (l.flatMap encGSeen).drop (i.toNat * 11)) : List PV) = (l.take i.toNat ++ x :: l.drop i.toNat).flatMap encGSeen from ins_flat (k := i.toNat) (z := 11) (enc := encGSeen) (fun _ => rfl) l x (by omega), show l.length + 1 = (l.take i.toNat ++ x :: l.drop i.toNat).length by simp only [List.length_append, List.length_take, List.length_cons, List.length_drop]; omega]
   exact answersGR [] [] rfl ⟨trivial, trivial⟩ rfl (by (repeat' apply And.intro) <;> first | trivial | rfl | exact flat_len (fun _ => rfl) _ | exact encI_len _ | assumption) (rfl) rfl rfl rfl (by decide) rfl rfl ⟨⟨rfl, rfl⟩, ⟨rfl, rfl⟩, trivial⟩
  ·have h31 : l.length + 1 ≤ K := by have h9 := of_decide_eq_false h5; omega
   refine semB_skip ?_
   refine seqKB_n ?_
   refine semB_seq ?_
   refine semB_region rfl (opsB_cut4 (j := 0) ?_)
   refine step_r rfl rfl trivial (step_r rfl rfl trivial (step_r rfl rfl trivial ?_))
   refine step_rv (v' := I ((l.length : Int) + 1)) rfl (by first | rfl | (simp only [List.length_singleton]; exact congrArg (fun q => AV.pv (.int .i64 q)) (wrap_lt (by omega) (by omega)))) rfl (trivial) ?_
   refine step_nil ?_
   refine opsB_upto (K := K) (m := l.length + 1) hK rfl rfl rfl (by omega) (by omega) rfl rfl rfl ?_
   refine opsB_of (j := 0) ?_
   refine step_r rfl rfl trivial (step_nil ?_)
   refine seqKB_n ?_
   refine semB_seq ?_
   refine semB_seq ?_
   refine semB_region rfl (opsB_cut6 (j := 0) ?_)
   refine step_r rfl rfl trivial (step_r rfl rfl trivial (step_r rfl rfl trivial (step_r rfl rfl trivial ?_)))
   refine step_rv (v' := I (i + 1)) rfl (by first | rfl | (simp only [List.length_singleton]; exact congrArg (fun q => AV.pv (.int .i64 q)) (wrap_lt (by omega) (by omega)))) rfl (trivial) ?_
   refine step_rv (v' := .ref 0 11 (i.toNat + 1) (l.length + 1 - (i.toNat + 1))) rfl (by first | rfl | (congr 1 <;> first | rfl | omega | (simp only [Option.getD_some, Option.getD_none]; omega) | (simp; done) | (simp; omega))) rfl (by first | trivial | omega | (simp; done) | (simp; omega) | (refine ⟨?_, ?_, ?_⟩ <;> first | trivial | omega)) ?_
   refine step_nil ?_
   refine opsB_apart rfl Tryd.func54 rfl rfl rfl rfl rfl rfl rfl rfl rfl (by decide) rfl rfl (by simp) (by omega) (by decide) rfl ?_
   refine opsB_of (j := 0) ?_
   refine step_r rfl rfl trivial (step_nil ?_)
   refine seqKB_n ?_
   refine semB_cond rfl (fun h6 => ?_) (fun h6 => ?_)
   ·skip
    refine semB_seq ?_
    refine semB_of (sem_drawn rfl (by decide +kernel) rfl ?_)
    refine step_r rfl rfl trivial (step_r rfl rfl trivial (step_r rfl rfl trivial ?_))
    refine step_rv (v' := I (i + 1)) rfl (by first | rfl | (simp only [List.length_singleton]; exact congrArg (fun q => AV.pv (.int .i64 q)) (wrap_lt (by omega) (by omega)))) rfl (trivial) ?_
    refine step_rv (v' := .ref 0 11 (i.toNat + 1) (l.length + 1 - (i.toNat + 1))) rfl (by first | rfl | (congr 1 <;> first | rfl | omega | (simp only [Option.getD_some, Option.getD_none]; omega) | (simp; done) | (simp; omega))) rfl (by first | trivial | omega | (simp; done) | (simp; omega) | (refine ⟨?_, ?_, ?_⟩ <;> first | trivial | omega)) ?_
    refine step_r rfl rfl trivial (step_r rfl rfl trivial ?_)
    refine step_rv (v' := .ref 0 11 i.toNat (l.length + 1 - i.toNat)) rfl (by first | rfl | (congr 1 <;> first | rfl | omega | (simp only [Option.getD_some, Option.getD_none]; omega) | (simp; done) | (simp; omega))) rfl (by first | trivial | omega | (simp; done) | (simp; omega) | (refine ⟨?_, ?_, ?_⟩ <;> first | trivial | omega)) ?_
    refine step_x (v' := .pv (.int .i64 _)) (H'' := [(2, .row _ _ _), (0, .row 60 11 (overPs (l.flatMap encGSeen) ((i.toNat + 1) * 11) ((l.flatMap encGSeen).drop (i.toNat * 11)))), (1, .row _ _ _)]) rfl (by first | exact .inl rfl | exact .inr (by decide +kernel)) (⟨by decide, by first | omega | (simp; omega), by rw [hcs]; exact Nat.mul_le_mul_right _ (by first | omega | (simp; omega)), by rw [hcs]; exact Nat.mul_le_mul_right _ (by first | omega | (simp; omega))⟩) rfl (by have e9 : ((l.flatMap encGSeen).drop (i.toNat * 11)).take (min (l.length + 1 - (i.toNat + 1)) (l.length + 1 - i.toNat) * 11) = (l.flatMap encGSeen).drop (i.toNat * 11) := (by rw [List.take_of_length_le (by rw [List.length_drop, hcs, ← Nat.sub_mul]; exact Nat.mul_le_mul_right _ (by omega))]); rw [e9]; rfl) rfl ?_
    refine step_nil ?_
    refine seqKB_n ?_
    refine semB_seq ?_
    refine semB_region rfl (opsB_of (j := 0) ?_)
    refine step_r rfl rfl trivial (step_r rfl rfl trivial ?_)
    refine step_rv (v' := .ref 0 11 i.toNat (l.length + 1 - i.toNat)) rfl (by first | rfl | (congr 1 <;> first | rfl | omega | (simp only [Option.getD_some, Option.getD_none]; omega) | (simp; done) | (simp; omega))) rfl (by first | trivial | omega | (simp; done) | (simp; omega) | (refine ⟨?_, ?_, ?_⟩ <;> first | trivial | omega)) ?_
    refine step_r rfl rfl trivial ?_
    refine step_x (v' := .pv (.int .i64 _)) (H'' := [(2, .row _ _ _), (0, .row 60 11 ((l.flatMap encGSeen).take (i.toNat * 11) ++ (([x].flatMap encGSeen) ++ (l.flatMap encGSeen).drop (i.toNat * 11)))), (1, .row _ _ _)]) rfl (by first | exact .inl rfl | exact .inr (by decide +kernel)) (⟨by decide, by first | omega | (simp; omega), by unfold overPs; simp only [List.length_append, List.length_take, List.length_drop, hcs]; omega, by rw [hxs]; simp; omega⟩) rfl (by have e9 : (([x].flatMap encGSeen).drop (0 * 11)).take (min (l.length + 1 - i.toNat) [x].length * 11) = [x].flatMap encGSeen := (by rw [Nat.zero_mul, List.drop_zero, List.take_of_length_le (by rw [hxs, show min (l.length + 1 - i.toNat) [x].length = 1 by simp; omega]; decide)]); rw [e9, ins_room (n := l.length) (k := i.toNat) hcs hxs (by omega) rfl rfl]; rfl) rfl ?_
    refine step_nil ?_
    refine seqKB_n ?_
    refine semB_seq ?_
    refine semB_region rfl (opsB_of (j := 0) ?_)
    refine step_r rfl rfl trivial (step_r rfl rfl trivial (step_nil ?_))
    refine seqKB_n ?_
    skip
    refine semB_ret ?_
    refine seqKB_r ?_
    rw [show ((l.flatMap encGSeen).take (i.toNat * 11) ++ (([x].flatMap encGSeen) ++ (l.flatMap encGSeen).drop (i.toNat * 11)) : List PV) = (l.take i.toNat ++ x :: l.drop i.toNat).flatMap encGSeen from ins_flat (k := i.toNat) (z := 11) (enc := encGSeen) (fun _ => rfl) l x (by omega), show l.length + 1 = (l.take i.toNat ++ x :: l.drop i.toNat).length by simp only [List.length_append, List.length_take, List.length_cons, List.length_drop]; omega]
    exact answersGR [] [] rfl ⟨trivial, trivial⟩ rfl (by (repeat' apply And.intro) <;> first | trivial | rfl | exact flat_len (fun _ => rfl) _ | exact encI_len _ | assumption) (rfl) rfl rfl rfl (by decide) rfl rfl ⟨⟨rfl, rfl⟩, ⟨rfl, rfl⟩, trivial⟩
   ·cases h6

theorem insertv_GSeen (l : List GSeen) (i : Int) (v : List GSeen) (b0 : 0 ≤ i) (b1 : i ≤ l.length) (hm : l.length ≤ 16777000) (hv : v.length = 1) : Ok Tryd.prog 40 [.ref 0 11 0 l.length, I i, .ref 1 11 0 v.length] [.row 60 11 (l.flatMap encGSeen), .row 60 11 (v.flatMap encGSeen)] (.ref 0 11 0 (l.take i.toNat ++ (v ++ l.drop i.toNat)).length) [.row 60 11 ((l.take i.toNat ++ (v ++ l.drop i.toNat)).flatMap encGSeen), .row 60 11 (v.flatMap encGSeen)] [0] := by
  match v, hv with
  | [x], _ => exact insert_GSeen l i x b0 b1 hm
end Go.Proofs.YtbfmonajbfljmaaDoor

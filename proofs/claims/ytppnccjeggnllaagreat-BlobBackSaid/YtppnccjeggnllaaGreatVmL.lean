import Derived.Test.YtppnccjeggnllaaGreatVmK
namespace Go.Proofs.YtppnccjeggnllaaGreatVm
open Go Go.RowKit
set_option linter.all false
def zee (ops : Array Oper) (o : Oper) : List Tmp := o.dst.toList ++ Oper.looksAt ops o
def zf0 (ops : Array Oper) : Bool :=
 (List.range ops.size).all fun j => match ops[j]? with
  | some oj => (oj.after.toList.all fun e => !Region.binds .any e || decide (e.on < j)) && (List.range j).all fun i => match ops[i]? with
   | some oi => bef ops j i || !((match oi.dst with | some d => (zee ops oj).contains d | none => false) || (match oj.dst with | some d => (zee ops oi).contains d | none => false))
   | none => true
  | none => true
section
variable {ops : Array Oper}
def zdE (acc : Array Nat) (o : Oper) : Nat := o.after.foldl (fun s e => if Region.binds .any e then s ||| 2 ^ e.on ||| acc.getD e.on 0 else s) 0
theorem zdw (g : Array Nat → Oper → Nat) : ∀ (l : List Oper) (acc : Array Nat), (l.foldl (fun acc o => acc.push (g acc o)) acc).size = acc.size + l.length
 | [], _ => rfl
 | o :: l, acc => by simp [zdw g l]; omega
theorem zdS (g : Array Nat → Oper → Nat) : ∀ (l : List Oper) (acc : Array Nat) (i : Nat), i < acc.size → (l.foldl (fun acc o => acc.push (g acc o)) acc)[i]? = acc[i]?
 | [], _, _, _ => rfl
 | o :: l, acc, i, h => by
  simp only [List.foldl_cons]
  rw [zdS g l _ i (by simp; omega), Array.getElem?_push, if_neg (by omega)]
theorem zh1 (g : Array Nat → Oper → Nat) (l : List Oper) : ∀ (acc : Array Nat) (k : Nat) (o : Oper), l[k]? = some o →
  (l.foldl (fun acc o => acc.push (g acc o)) acc)[acc.size + k]? = some (g ((l.take k).foldl (fun acc o => acc.push (g acc o)) acc) o) := by
 induction l with
 | nil => intro acc k o h; simp at h
 | cons x l ih =>
  intro acc k o h
  cases k with
  | zero =>
   obtain rfl : x = o := by simpa using h
   rw [List.foldl_cons, List.take_zero, List.foldl_nil, Nat.add_zero, zdS g l _ _ (by rw [Array.size_push]; omega), Array.getElem?_push, if_pos rfl]
  | succ k =>
   rw [List.foldl_cons, List.take_succ_cons, List.foldl_cons]
   have := ih (acc.push (g acc x)) k o (by simpa using h)
   rw [← this, Array.size_push]
   congr 1
   omega
theorem zma {j : Nat} {o : Oper} (h : ops[j]? = some o) : ∃ acc : Array Nat, (Region.before ops)[j]? = some (zdE acc o) ∧ ∀ i, acc.getD i 0 = if i < j then (Region.before ops).getD i 0 else 0 := by
 have e : Region.before ops = ops.toList.foldl (fun acc o => acc.push (zdE acc o)) #[] := by
  unfold Region.before zdE
  rw [← Array.foldl_toList]
 have hl : ops.toList[j]? = some o := by simpa using h
 refine ⟨(ops.toList.take j).foldl (fun acc o => acc.push (zdE acc o)) #[], ?_, fun i => ?_⟩
 ·rw [e]
  have := zh1 zdE ops.toList #[] j o hl
  simpa using this
 ·have hj : j < ops.toList.length := (List.getElem?_eq_some_iff.1 hl).1
  have hsz : ((ops.toList.take j).foldl (fun acc o => acc.push (zdE acc o)) #[]).size = j := by
   rw [zdw]; simp at hj ⊢; omega
  split
  ·rename_i hi
   rw [e]
   have h2 : ops.toList = ops.toList.take j ++ ops.toList.drop j := (List.take_append_drop j _).symm
   conv => rhs; rw [h2, List.foldl_append]
   have := zdS zdE (ops.toList.drop j) ((ops.toList.take j).foldl (fun acc o => acc.push (zdE acc o)) #[]) i (by omega)
   simp only [Array.getD_eq_getD_getElem?, this]
  ·rename_i hi
   rw [Array.getD_eq_getD_getElem?, Array.getElem?_eq_none (by omega)]; rfl
theorem zhR (acc : Array Nat) (i : Nat) : ∀ (l : List Edge) (s : Nat), (l.foldl (fun s e => if Region.binds .any e then s ||| 2 ^ e.on ||| acc.getD e.on 0 else s) s).testBit i = true →
  s.testBit i = true ∨ ∃ e ∈ l, Region.binds .any e = true ∧ (e.on = i ∨ (acc.getD e.on 0).testBit i = true)
 | [], s, h => .inl h
 | e :: l, s, h => by
  simp only [List.foldl_cons] at h
  rcases zhR acc i l _ h with h1 | ⟨e', h1, h2⟩
  ·split at h1
   ·rename_i hb
    simp only [Nat.testBit_or, Nat.testBit_two_pow, Bool.or_eq_true, decide_eq_true_eq] at h1
    rcases h1 with (h1 | h1) | h1
    ·exact .inl h1
    ·exact .inr ⟨e, by simp, hb, .inl h1⟩
    ·exact .inr ⟨e, by simp, hb, .inr h1⟩
   ·exact .inl h1
  ·exact .inr ⟨e', by simp [h1], h2⟩
theorem zo5 {j i : Nat} (h : bef ops j i = true) : ∃ o e, ops[j]? = some o ∧ e ∈ o.after ∧ Region.binds .any e = true ∧ (e.on = i ∨ (e.on < j ∧ bef ops e.on i = true)) := by
 unfold bef at h
 cases ho : ops[j]? with
 | none =>
  have hsz : (Region.before ops).size = ops.size := by
   unfold Region.before
   rw [← Array.foldl_toList]
   have := zdw zdE ops.toList #[]
   simpa [zdE] using this
  have : ops.size ≤ j := by simpa using ho
  rw [Array.getD_eq_getD_getElem?, Array.getElem?_eq_none (by omega)] at h
  simp at h
 | some o =>
  obtain ⟨acc, h1, h2⟩ := zma ho
  rw [Array.getD_eq_getD_getElem?, h1] at h
  simp only [Option.getD_some, zdE] at h
  rw [← Array.foldl_toList] at h
  rcases zhR acc i _ _ h with h3 | ⟨e, h3, h4, h5⟩
  ·simp at h3
  ·refine ⟨o, e, rfl, by simpa using h3, h4, h5.imp (fun h => h) (fun h6 => ?_)⟩
   rw [h2] at h6
   split at h6
   ·exact ⟨by assumption, h6⟩
   ·simp at h6
def zfW (ops : Array Oper) (listed : Array Bool) : Prop := ∀ j i, listed.getD j false = true → bef ops j i = true → listed.getD i false = true
theorem zcP {listed : Array Bool} (hc : zfW ops listed) {j i : Nat} (hr : j ∈ Region.ready .any ops listed) (h : bef ops j i = true) : listed.getD i false = true := by
 obtain ⟨_, o, ho, hall⟩ := mem_ready.1 hr
 obtain ⟨o', e, ho', he, hb, h1⟩ := zo5 h
 rw [ho] at ho'; cases ho'
 have h2 := hall e he hb
 rcases h1 with rfl | ⟨_, h3⟩
 ·exact h2
 ·exact hc _ _ h2 h3
theorem zk0 (h : zf0 ops = true) {j : Nat} {o : Oper} (ho : ops[j]? = some o) {e : Edge} (he : e ∈ o.after) (hb : Region.binds .any e = true) : e.on < j := by
 unfold zf0 at h
 have hj : j < ops.size := (Array.getElem?_eq_some_iff.1 ho).1
 have := List.all_eq_true.1 h j (List.mem_range.2 hj)
 simp only [ho, Bool.and_eq_true] at this
 have := List.all_eq_true.1 this.1 e (by simpa using he)
 simpa [hb] using this
theorem zfj (h : zf0 ops = true) {i j : Nat} {oi oj : Oper} (hij : i < j) (hi : ops[i]? = some oi) (hj : ops[j]? = some oj) {d : Tmp} (hd : (oi.dst = some d ∧ d ∈ zee ops oj) ∨ (oj.dst = some d ∧ d ∈ zee ops oi)) : bef ops j i = true := by
 unfold zf0 at h
 have hjs : j < ops.size := (Array.getElem?_eq_some_iff.1 hj).1
 have := List.all_eq_true.1 h j (List.mem_range.2 hjs)
 simp only [hj, Bool.and_eq_true] at this
 have := List.all_eq_true.1 this.2 i (List.mem_range.2 hij)
 simp only [hi, Bool.or_eq_true, Bool.not_eq_true', Bool.or_eq_false_iff] at this
 rcases this with h1 | ⟨h1, h2⟩
 ·exact h1
 ·rcases hd with ⟨h3, h4⟩ | ⟨h3, h4⟩
  ·simp only [h3] at h1
   have : (zee ops oj).contains d = true := by simpa using h4
   rw [this] at h1; cases h1
  ·simp only [h3] at h2
   have : (zee ops oi).contains d = true := by simpa using h4
   rw [this] at h2; cases h2
theorem zgo {i j : Nat} (h : total ops j = true) (hi : i < ops.size) : (i < j → bef ops j i = true) ∧ (j < i → bef ops i j = true) := by
 unfold total at h
 have := List.all_eq_true.1 h i (List.mem_range.2 hi)
 constructor
 ·intro hij; simpa [hij] using this
 ·intro hij; rw [if_neg (by omega), if_pos hij] at this; exact this
theorem zmw (h : zf0 ops = true) {listed : Array Bool} (hsz : listed.size = ops.size) (hr : Region.ready .any ops listed = []) : ∀ j, j < ops.size → listed.getD j false = true := by
 intro j
 induction j using Nat.strongRecOn with
 | _ j ih =>
  intro hj
  cases hl : listed.getD j false with
  | true => rfl
  | false =>
   exfalso
   have : j ∈ Region.ready .any ops listed := mem_ready.2 ⟨by
     have hjl : j < listed.size := by omega
     simp [hjl] at hl ⊢; exact hl, ops[j], by simp [hj], fun e he hb => by
     have := zk0 h (j := j) (o := ops[j]) (by simp [hj]) he hb
     exact ih _ this (by omega)⟩
   rw [hr] at this
   simp at this
end
end Go.Proofs.YtppnccjeggnllaaGreatVm

import Derived.Test.YtkaikflohpbcnaaDraw
namespace Go.Proofs.Ytkaikflohpbcnaa
open Go Go.RowKit Go.Proofs.YtkaikflohpbcnaaVm
attribute [local irreducible] opsWp AnswersE OpsS
set_option maxHeartbeats 400000
set_option maxRecDepth 100000
set_option linter.all false
structure GDrop where
  (Id : Int)
  (Item : Int)
  (Until : Int)
  (Units : List Int)
  (Choices : List Int)
  deriving DecidableEq, Inhabited
def encGDrop (x : GDrop) : List PV := [i64 x.Id, i64 x.Item, i64 x.Until, .slc x.Units.length false (encI x.Units), .slc x.Choices.length false (encI x.Choices)]
abbrev aGDrop (x : GDrop) : AV := .agg [I x.Id, I x.Item, I x.Until, .pv (.slc x.Units.length false (encI x.Units)), .pv (.slc x.Choices.length false (encI x.Choices))]
def wfGDrop (x : GDrop) : Prop := (InR x.Id) ∧ (InR x.Item) ∧ (InR x.Until) ∧ ((∀ y ∈ x.Units, InR y) ∧ x.Units.length ≤ 140737488355328) ∧ ((∀ y ∈ x.Choices, InR y) ∧ x.Choices.length ≤ 140737488355328)

theorem drop_iff (a b : GDrop) : a = b ↔ a.Id = b.Id ∧ a.Item = b.Item ∧ a.Until = b.Until ∧ a.Units = b.Units ∧ a.Choices = b.Choices := by
  obtain ⟨a1, a2, a3, a4, a5⟩ := a
  obtain ⟨b1, b2, b3, b4, b5⟩ := b
  simp
/-- units that rise, each with a choice -/
def rises : Int → List Int → List Int → Bool
  | _, [], _ => true
  | last, u :: us, c :: cs => decide (last < u) && decide (0 ≤ c ∧ c ≤ 3) && rises u us cs
  | _, _ :: _, [] => true
def rightD (d : GDrop) : Prop := 1 ≤ d.Id ∧ 1 ≤ d.Item ∧ d.Units.length ≤ 40 ∧ d.Choices.length = d.Units.length ∧ rises 0 d.Units d.Choices = true
instance (d : GDrop) : Decidable (rightD d) := by unfold rightD; infer_instance
abbrev d0 : GDrop := ⟨0, 0, 0, [], []⟩
def openD (id item til : Int) (units : List Int) : GDrop × Int := if rightD ⟨id, item, til, units, List.replicate units.length 0⟩ then (⟨id, item, til, units, List.replicate units.length 0⟩, 0) else (d0, 1)
def chooseD (d : GDrop) (unit what now : Int) : GDrop × Int := if ¬ rightD d ∨ what < 1 ∨ what > 3 then (d0, 1)
  else if fidx (fun x => unit == x) d.Units < 0 then (d0, 12)
  else if now ≥ d.Until then (d0, 14)
  else if d.Choices.getD (fidx (fun x => unit == x) d.Units).toNat 0 ≠ 0 then (d0, 7)
  else ({ d with Choices := d.Choices.set (fidx (fun x => unit == x) d.Units).toNat what }, 0)
def overD (d : GDrop) (now : Int) : Bool := decide (now ≥ d.Until) || (List.range d.Units.length).all fun i => decide (i < d.Choices.length ∧ d.Choices.getD i 0 ≠ 0)
def whoGo (what : Int) : List Int → List Int → List Int
  | u :: us, c :: cs => if c = what then u :: whoGo what us cs else whoGo what us cs
  | _, _ => []
def whoD (d : GDrop) (what : Int) : List Int := whoGo what d.Units d.Choices
def bestD (d : GDrop) : List Int := if ¬ rightD d then [] else if whoD d 3 ≠ [] then whoD d 3 else whoD d 2
theorem whoGo_len (what : Int) : ∀ us cs : List Int, (whoGo what us cs).length ≤ us.length
  | [], cs => by simp [whoGo]
  | _ :: _, [] => by simp [whoGo]
  | u :: us, c :: cs => by
    have := whoGo_len what us cs
    simp only [whoGo]
    split <;> simp only [List.length_cons] <;> omega
theorem bestD_len (d : GDrop) : (bestD d).length ≤ 40 := by
  unfold bestD
  split
  · simp
  · rename_i h
    have hr : rightD d := by simpa using h
    have h3 := whoGo_len 3 d.Units d.Choices
    have h2 := whoGo_len 2 d.Units d.Choices
    have := hr.2.2.1
    split <;> (unfold whoD; omega)

theorem choice_ok (n : Int) : Ok Try.prog 28 [I n] [] (B (decide (0 ≤ n ∧ n ≤ 3))) [] [] := by
 refine ok_of_sem Try.func28 rfl ?_
 show Walks Try.prog _ _ ⟨[(0, I n)], [], 0, [], 9, 0⟩
 refine sem_seq (sem_region rfl (step_r rfl rfl trivial (step_nil (seqK_n (sem_seq (sem_region rfl (step_r rfl rfl trivial (step_bin rfl rfl rfl rfl rfl trivial (step_r rfl rfl trivial ?_)))))))))
 refine step_gs rfl (fun h3 => ?_) (fun h3 => ?_)
 ·have g3 := h3
  try simp at g3
  refine step_g1 rfl h3 (step_r rfl rfl trivial (step_g1 rfl h3 (step_bin rfl rfl rfl rfl rfl trivial (step_pickT rfl h3 rfl rfl (step_r rfl rfl trivial (step_nil (seqK_n (sem_ret ?_))))))))
  refine answersR (vs := [_]) rfl ⟨trivial, trivial⟩ (congrArg B ?_) rfl
  first
   | rfl
   | (exfalso; omega)
   | (simp [g3]; done)
   | (rw [Bool.eq_iff_iff]; simp [g3]; done)
   | (rw [Bool.eq_iff_iff]; simp [g3]; omega)
   | grind []
 ·have g3 := h3
  try simp at g3
  refine step_g0 rfl h3 rfl (step_g0 rfl h3 rfl (step_pickF rfl h3 rfl rfl (step_r rfl rfl trivial (step_nil (seqK_n (sem_ret ?_))))))
  refine answersR (vs := [_]) rfl ⟨trivial, trivial⟩ (congrArg B ?_) rfl
  first
   | rfl
   | (exfalso; omega)
   | (simp [g3]; done)
   | (rw [Bool.eq_iff_iff]; simp [g3]; done)
   | (rw [Bool.eq_iff_iff]; simp [g3]; omega)
   | grind []

theorem rightD_ok (d : GDrop) : Ok Try.prog 16 [aGDrop d] [] (B (decide (rightD d))) [] [] := by
 refine Ok.len fun hlen => ?_
 have hl_d_Units : d.Units.length ≤ maxLen := hlen _ (by simp [lensL, lens, lensP])
 have hl_d_Choices : d.Choices.length ≤ maxLen := hlen _ (by simp [lensL, lens, lensP])
 unfold maxLen at hl_d_Units hl_d_Choices
 refine ok_of_sem Try.func16 rfl ?_
 show Walks Try.prog _ _ ⟨[(0, aGDrop d)], [], 0, [], 51, 0⟩
 refine sem_seq (sem_region rfl (step_n (o := .box [_, _, _, _, _]) (nx' := 1) rfl rfl rfl trivial (step_r rfl rfl trivial (step_nil (seqK_n (sem_seq (sem_seq (sem_region rfl (step_r rfl rfl (by decide) (step_r rfl rfl trivial (step_bin rfl rfl rfl rfl rfl trivial ?_)))))))))))
 refine step_r rfl rfl trivial ?_
 refine step_gs rfl (fun h2 => ?_) (fun h2 => ?_)
 ·have g2 := h2
  try simp at g2
  refine step_g0 rfl h2 rfl (step_g0 rfl h2 rfl (step_g0 rfl h2 rfl (step_pickT rfl h2 rfl rfl (step_r rfl rfl trivial (step_gf rfl rfl (step_gf rfl rfl (step_gf rfl rfl (step_gf rfl rfl (step_r rfl rfl trivial (step_r rfl rfl trivial (step_gf rfl rfl ?_)))))))))))
  refine step_gf rfl rfl (step_gf rfl rfl (step_gf rfl rfl (step_gf rfl rfl (step_gf rfl rfl (step_gf rfl rfl (step_r rfl rfl trivial (step_nil (seqK_n (sem_condT rfl (sem_seq (sem_region rfl ?_)))))))))))
  refine step_r rfl rfl trivial (step_nil (seqK_n (sem_ret (seqK_r ?_))))
  exact answersR rfl ⟨trivial, trivial⟩ (congrArg B (decide_eq_false (fun h => by have h1 := h.1; have h2 := h.2.1; have h3 := h.2.2.1; have h4 := h.2.2.2.1; omega)).symm) rfl
 ·have g2 := h2
  try simp at g2
  refine step_g1 rfl h2 (step_r rfl rfl (by decide) (step_g1 rfl h2 (step_r rfl rfl trivial (step_g1 rfl h2 (step_bin rfl rfl rfl rfl rfl trivial (step_pickF rfl h2 rfl rfl (step_r rfl rfl trivial ?_)))))))
  refine step_gs rfl (fun h4 => ?_) (fun h4 => ?_)
  ·have g4 := h4
   try simp at g4
   refine step_g0 rfl h4 rfl (step_g0 rfl h4 rfl (step_g0 rfl h4 rfl (step_g0 rfl h4 rfl (step_pickT rfl h4 rfl rfl (step_r rfl rfl trivial (step_gf rfl rfl (step_gf rfl rfl (step_gf rfl rfl (step_gf rfl rfl (step_gf rfl rfl (step_gf rfl rfl ?_)))))))))))
   refine step_gf rfl rfl (step_r rfl rfl trivial (step_nil (seqK_n (sem_condT rfl (sem_seq (sem_region rfl (step_r rfl rfl trivial (step_nil (seqK_n (sem_ret (seqK_r ?_)))))))))))
   exact answersR rfl ⟨trivial, trivial⟩ (congrArg B (decide_eq_false (fun h => by have h1 := h.1; have h2 := h.2.1; have h3 := h.2.2.1; have h4 := h.2.2.2.1; omega)).symm) rfl
  ·have g4 := h4
   try simp at g4
   refine step_g1 rfl h4 (step_r rfl rfl (by decide) (step_g1 rfl h4 (step_r rfl rfl trivial (step_g1 rfl h4 (step_r rfl rfl trivial (step_g1 rfl h4 (step_bin rfl rfl rfl rfl rfl trivial (step_pickF rfl h4 rfl rfl (step_r rfl rfl trivial ?_)))))))))
   refine step_gs rfl (fun h6 => ?_) (fun h6 => ?_)
   ·have g6 := h6
    try simp at g6
    refine step_g0 rfl h6 rfl (step_g0 rfl h6 rfl (step_g0 rfl h6 rfl (step_g0 rfl h6 rfl (step_g0 rfl h6 rfl (step_g0 rfl h6 rfl (step_g0 rfl h6 rfl (step_pickT rfl h6 rfl rfl (step_nil (seqK_n (sem_condT rfl (sem_seq ?_)))))))))))
    refine sem_region rfl (step_r rfl rfl trivial (step_nil (seqK_n (sem_ret (seqK_r ?_)))))
    exact answersR rfl ⟨trivial, trivial⟩ (congrArg B (decide_eq_false (fun h => by have h1 := h.1; have h2 := h.2.1; have h3 := h.2.2.1; have h4 := h.2.2.2.1; omega)).symm) rfl
   ·have g6 := h6
    try simp at g6
    refine step_g1 rfl h6 (step_r rfl rfl (by decide) (step_g1 rfl h6 (step_r rfl rfl trivial (step_g1 rfl h6 (step_r rfl rfl trivial (step_g1 rfl h6 (step_r rfl rfl (by decide) (step_g1 rfl h6 (step_r rfl rfl trivial (step_g1 rfl h6 (step_r rfl rfl trivial ?_)))))))))))
    refine step_g1 rfl h6 (step_bin rfl rfl rfl rfl rfl trivial (step_pickF rfl h6 rfl rfl (step_nil (seqK_n ?_))))
    refine sem_cond rfl (fun h8 => ?_) (fun h8 => ?_)
    ·have g8 := h8
     try simp at g8
     refine sem_seq (sem_region rfl (step_r rfl rfl trivial (step_nil (seqK_n (sem_ret (seqK_r ?_))))))
     exact answersR rfl ⟨trivial, trivial⟩ (congrArg B (decide_eq_false (fun h => by have h1 := h.1; have h2 := h.2.1; have h3 := h.2.2.1; have h4 := h.2.2.2.1; omega)).symm) rfl
    ·have g8 := h8
     try simp at g8
     refine sem_skip (seqK_n (sem_seq (sem_region rfl (step_r rfl rfl trivial (step_nil (seqK_n (sem_seq (sem_seq (sem_region rfl (step_r rfl rfl (by decide) (step_r rfl rfl trivial ?_)))))))))))
     refine step_r rfl rfl trivial (step_r rfl rfl trivial (step_nil (seqK_n (sem_block ?_))))
     refine sem_loop_of (fun a : Nat × Int => match a with | (k, last) => (⟨[(1, .ptr 0 0), (3, I last), (30, .pv (.slc d.Units.length false (encI d.Units))), (31, I d.Units.length), (32, I k)], [(0, .box [I d.Id, I d.Item, I d.Until, .pv (.slc d.Units.length false (encI d.Units)), .pv (.slc d.Choices.length false (encI d.Choices))])], 1, [], 51, 0⟩ : St)) (fun a : Nat × Int => match a with | (k, last) => k ≤ d.Units.length ∧ rises last (d.Units.drop k) (d.Choices.drop k) = rises 0 d.Units d.Choices) (fun a : Nat × Int => match a with | (k, last) => d.Units.length - k) (0, 0) (⟨Nat.zero_le _, rfl⟩) (less_of rfl ⟨⟨rfl, rfl⟩, ⟨rfl, rfl⟩, ⟨rfl, rfl⟩, ⟨rfl, rfl⟩, ⟨rfl, rfl⟩, trivial⟩ ⟨⟨rfl, rfl, rfl⟩, trivial⟩ (fun _ _ => .inr (Nat.zero_le _))) (fun a hI => ?_)
     obtain ⟨k, last⟩ := a
     show Walks Try.prog _ _ (⟨[(1, .ptr 0 0), (3, I last), (30, .pv (.slc d.Units.length false (encI d.Units))), (31, I d.Units.length), (32, I k)], [(0, .box [I d.Id, I d.Item, I d.Until, .pv (.slc d.Units.length false (encI d.Units)), .pv (.slc d.Choices.length false (encI d.Choices))])], 1, [], 51, 0⟩ : St)
     refine sem_seq (sem_region rfl (step_bin rfl rfl rfl rfl rfl trivial (step_nil (seqK_n (sem_seq ?_)))))
     refine sem_cond rfl (fun h9 => ?_) (fun h9 => ?_)
     ·have hk : k < d.Units.length := by have h := of_decide_eq_true h9; omega
      obtain ⟨x, hx⟩ : ∃ x, d.Units[k]? = some x := ⟨_, List.getElem?_eq_getElem hk⟩
      obtain ⟨i1, hR⟩ := hI
      have hkc : k < d.Choices.length := by omega
      obtain ⟨c, hc⟩ : ∃ z_, d.Choices[k]? = some z_ := ⟨_, List.getElem?_eq_getElem hkc⟩
      refine sem_skip (seqK_n (sem_seq (sem_block (sem_seq (sem_region rfl (step_r rfl rfl trivial (step_idxS (k := k) rfl rfl rfl rfl hk (encI_ne hk) rfl (step_load_one rfl rfl rfl (encI_get hx) rfl (step_r rfl rfl trivial (step_r rfl rfl trivial (step_nil ?_)))))))))))
      refine seqK_n (sem_seq (sem_seq (sem_region rfl (step_r rfl rfl trivial (step_r rfl rfl trivial (step_bin rfl rfl rfl rfl rfl trivial (step_r rfl rfl trivial ?_)))))))
      refine step_gs rfl (fun h14 => ?_) (fun h14 => ?_)
      ·have g14 := h14
       try simp at g14
       refine step_g0 rfl h14 rfl (step_g0 rfl h14 rfl (step_g0 rfl h14 rfl (step_g0 rfl h14 rfl (step_g0 rfl h14 rfl (step_g0 rfl h14 rfl (step_g0 rfl h14 rfl (step_pickT rfl h14 rfl rfl (step_nil (seqK_n (sem_condT rfl (sem_seq ?_)))))))))))
       refine sem_region rfl (step_r rfl rfl trivial (step_nil (seqK_n (sem_ret (seqK_r (blkK_r (seqK_r (lupK_r (blkK_r (seqK_r ?_))))))))))
       have e : rises 0 d.Units d.Choices = false := by rw [← hR, drop_cons hx, drop_cons hc, rises]; simp; omega
       exact answersR rfl ⟨trivial, trivial⟩ (congrArg B (decide_eq_false (fun h => by rw [h.2.2.2.2] at e; cases e)).symm) rfl
      ·have g14 := h14
       try simp at g14
       refine step_g1 rfl h14 (step_r rfl rfl (by decide) (step_g1 rfl h14 (step_r rfl rfl trivial (step_g1 rfl h14 (step_r rfl rfl trivial (step_g1 rfl h14 (step_idxS (k := k) rfl rfl rfl rfl hkc (encI_ne hkc) rfl (step_g1 rfl h14 (step_load_one rfl rfl rfl (encI_get hc) rfl (step_g1 rfl h14 (step_call rfl rfl rfl rfl (choice_ok c) rfl rfl rfl ?_)))))))))))
       refine step_g1 rfl h14 (step_r rfl rfl trivial (step_pickF rfl h14 rfl rfl (step_nil (seqK_n ?_))))
       refine sem_cond rfl (fun h16 => ?_) (fun h16 => ?_)
       ·have g16 := h16
        try simp at g16
        refine sem_seq (sem_region rfl (step_r rfl rfl trivial (step_nil (seqK_n (sem_ret (seqK_r (blkK_r (seqK_r (lupK_r (blkK_r (seqK_r ?_)))))))))))
        have e : rises 0 d.Units d.Choices = false := by rw [← hR, drop_cons hx, drop_cons hc, rises]; simp; omega
        exact answersR rfl ⟨trivial, trivial⟩ (congrArg B (decide_eq_false (fun h => by rw [h.2.2.2.2] at e; cases e)).symm) rfl
       ·have g16 := h16
        try simp at g16
        refine sem_skip (seqK_n (sem_region rfl (step_r rfl rfl trivial (step_r rfl rfl trivial (step_nil (blkK_n (seqK_n (sem_region rfl (step_bin rfl rfl rfl rfl rfl trivial (step_r rfl rfl trivial (step_nil ?_)))))))))))
        exact lup_again (k+1, x) (⟨hk, by rw [← hR, drop_cons hx, drop_cons hc]; simp only [rises]; rw [decide_eq_true (by omega), decide_eq_true (by omega)]; simp⟩) (by show d.Units.length - (k + 1) < d.Units.length - k; omega) (less_of rfl ⟨⟨rfl, rfl⟩, ⟨rfl, rfl⟩, ⟨rfl, rfl⟩, ⟨rfl, rfl⟩, ⟨congrArg (fun n => some (I n)) (wrapK hk (by assumption)), rfl⟩, trivial⟩ ⟨⟨rfl, rfl, rfl⟩, trivial⟩ (fun _ _ => .inr (Nat.zero_le _)))
     ·have hk : k = d.Units.length := by have h := of_decide_eq_false h9; have := hI; omega
      obtain ⟨i1, hR⟩ := hI
      refine sem_exit (seqK_e (lupK_e (blkK_t rfl (seqK_n (sem_seq (sem_region rfl (step_r rfl rfl trivial (step_nil (seqK_n (sem_ret ?_))))))))))
      have e : rises 0 d.Units d.Choices = true := by rw [← hR, hk, List.drop_length]; simp [rises]
      exact answersR rfl ⟨trivial, trivial⟩ (congrArg B (decide_eq_true ⟨by omega, by omega, by omega, by omega, e⟩).symm) rfl

theorem rightDR_ok (d : GDrop) : Ok Try.prog 17 [aGDrop d] [] (B (decide (rightD d))) [] [] := by
 refine Ok.len fun hlen => ?_
 have hl_d_Units : d.Units.length ≤ maxLen := hlen _ (by simp [lensL, lens, lensP])
 have hl_d_Choices : d.Choices.length ≤ maxLen := hlen _ (by simp [lensL, lens, lensP])
 unfold maxLen at hl_d_Units hl_d_Choices
 refine ok_of_sem Try.func17 rfl ?_
 show Walks Try.prog _ _ ⟨[(0, aGDrop d)], [], 0, [], 74, 0⟩
 refine sem_seq (sem_region rfl (step_n (o := .box [_, _, _, _, _]) (nx' := 1) rfl rfl rfl trivial (step_r rfl rfl trivial (step_nil (seqK_n (sem_seq (sem_seq (sem_region rfl (step_r rfl rfl (by decide) (step_r rfl rfl trivial (step_bin rfl rfl rfl rfl rfl trivial ?_)))))))))))
 refine step_r rfl rfl trivial ?_
 refine step_gs rfl (fun h2 => ?_) (fun h2 => ?_)
 ·have g2 := h2
  try simp at g2
  refine step_g0 rfl h2 rfl (step_g0 rfl h2 rfl (step_g0 rfl h2 rfl (step_pickT rfl h2 rfl rfl (step_r rfl rfl trivial (step_gf rfl rfl (step_gf rfl rfl (step_gf rfl rfl (step_gf rfl rfl (step_r rfl rfl trivial (step_r rfl rfl trivial (step_gf rfl rfl ?_)))))))))))
  refine step_gf rfl rfl (step_gf rfl rfl (step_gf rfl rfl (step_gf rfl rfl (step_gf rfl rfl (step_gf rfl rfl (step_r rfl rfl trivial (step_nil (seqK_n (sem_condT rfl (sem_seq (sem_region rfl ?_)))))))))))
  refine step_r rfl rfl trivial (step_nil (seqK_n (sem_ret (seqK_r ?_))))
  exact answersR rfl ⟨trivial, trivial⟩ (congrArg B (decide_eq_false (fun h => by have h1 := h.1; have h2 := h.2.1; have h3 := h.2.2.1; have h4 := h.2.2.2.1; omega)).symm) rfl
 ·have g2 := h2
  try simp at g2
  refine step_g1 rfl h2 (step_r rfl rfl (by decide) (step_g1 rfl h2 (step_r rfl rfl trivial (step_g1 rfl h2 (step_bin rfl rfl rfl rfl rfl trivial (step_pickF rfl h2 rfl rfl (step_r rfl rfl trivial ?_)))))))
  refine step_gs rfl (fun h4 => ?_) (fun h4 => ?_)
  ·have g4 := h4
   try simp at g4
   refine step_g0 rfl h4 rfl (step_g0 rfl h4 rfl (step_g0 rfl h4 rfl (step_g0 rfl h4 rfl (step_pickT rfl h4 rfl rfl (step_r rfl rfl trivial (step_gf rfl rfl (step_gf rfl rfl (step_gf rfl rfl (step_gf rfl rfl (step_gf rfl rfl (step_gf rfl rfl ?_)))))))))))
   refine step_gf rfl rfl (step_r rfl rfl trivial (step_nil (seqK_n (sem_condT rfl (sem_seq (sem_region rfl (step_r rfl rfl trivial (step_nil (seqK_n (sem_ret (seqK_r ?_)))))))))))
   exact answersR rfl ⟨trivial, trivial⟩ (congrArg B (decide_eq_false (fun h => by have h1 := h.1; have h2 := h.2.1; have h3 := h.2.2.1; have h4 := h.2.2.2.1; omega)).symm) rfl
  ·have g4 := h4
   try simp at g4
   refine step_g1 rfl h4 (step_r rfl rfl (by decide) (step_g1 rfl h4 (step_r rfl rfl trivial (step_g1 rfl h4 (step_r rfl rfl trivial (step_g1 rfl h4 (step_bin rfl rfl rfl rfl rfl trivial (step_pickF rfl h4 rfl rfl (step_r rfl rfl trivial ?_)))))))))
   refine step_gs rfl (fun h6 => ?_) (fun h6 => ?_)
   ·have g6 := h6
    try simp at g6
    refine step_g0 rfl h6 rfl (step_g0 rfl h6 rfl (step_g0 rfl h6 rfl (step_g0 rfl h6 rfl (step_g0 rfl h6 rfl (step_g0 rfl h6 rfl (step_g0 rfl h6 rfl (step_pickT rfl h6 rfl rfl (step_nil (seqK_n (sem_condT rfl (sem_seq ?_)))))))))))
    refine sem_region rfl (step_r rfl rfl trivial (step_nil (seqK_n (sem_ret (seqK_r ?_)))))
    exact answersR rfl ⟨trivial, trivial⟩ (congrArg B (decide_eq_false (fun h => by have h1 := h.1; have h2 := h.2.1; have h3 := h.2.2.1; have h4 := h.2.2.2.1; omega)).symm) rfl
   ·have g6 := h6
    try simp at g6
    refine step_g1 rfl h6 (step_r rfl rfl (by decide) (step_g1 rfl h6 (step_r rfl rfl trivial (step_g1 rfl h6 (step_r rfl rfl trivial (step_g1 rfl h6 (step_r rfl rfl (by decide) (step_g1 rfl h6 (step_r rfl rfl trivial (step_g1 rfl h6 (step_r rfl rfl trivial ?_)))))))))))
    refine step_g1 rfl h6 (step_bin rfl rfl rfl rfl rfl trivial (step_pickF rfl h6 rfl rfl (step_nil (seqK_n ?_))))
    refine sem_cond rfl (fun h8 => ?_) (fun h8 => ?_)
    ·have g8 := h8
     try simp at g8
     refine sem_seq (sem_region rfl (step_r rfl rfl trivial (step_nil (seqK_n (sem_ret (seqK_r ?_))))))
     exact answersR rfl ⟨trivial, trivial⟩ (congrArg B (decide_eq_false (fun h => by have h1 := h.1; have h2 := h.2.1; have h3 := h.2.2.1; have h4 := h.2.2.2.1; omega)).symm) rfl
    ·have g8 := h8
     try simp at g8
     refine sem_skip (seqK_n (sem_seq (sem_seq (sem_region rfl (step_r rfl rfl trivial (step_nil (seqK_n (sem_block ?_))))))))
     refine sem_loop_of (fun a : Nat × Int => match a with | (k, last) => (⟨[(1, .ptr 0 0), (3, I k)], [(0, .box [I d.Id, I d.Item, I d.Until, .pv (.slc d.Units.length false (encI d.Units)), .pv (.slc d.Choices.length false (encI d.Choices))])], 1, [], 74, 0⟩ : St)) (fun a : Nat × Int => match a with | (k, last) => k ≤ d.Units.length ∧ rises last (d.Units.drop k) (d.Choices.drop k) = rises 0 d.Units d.Choices ∧ (k = 0 ∧ last = 0 ∨ ∃ j, k = j + 1 ∧ d.Units[j]? = some last ∧ 1 ≤ last)) (fun a : Nat × Int => match a with | (k, last) => d.Units.length - k) (0, 0) (⟨Nat.zero_le _, rfl, .inl ⟨rfl, rfl⟩⟩) (less_of rfl ⟨⟨rfl, rfl⟩, ⟨rfl, rfl⟩, trivial⟩ ⟨⟨rfl, rfl, rfl⟩, trivial⟩ (fun _ _ => .inr (Nat.zero_le _))) (fun a hI => ?_)
     obtain ⟨k, last⟩ := a
     show Walks Try.prog _ _ (⟨[(1, .ptr 0 0), (3, I k)], [(0, .box [I d.Id, I d.Item, I d.Until, .pv (.slc d.Units.length false (encI d.Units)), .pv (.slc d.Choices.length false (encI d.Choices))])], 1, [], 74, 0⟩ : St)
     refine sem_seq (sem_seq (sem_region rfl (step_r rfl rfl trivial (step_r rfl rfl (by decide) (step_r rfl rfl trivial (step_r rfl rfl trivial (step_bin rfl rfl rfl rfl rfl trivial (step_nil (seqK_n ?_)))))))))
     refine sem_cond rfl (fun h10 => ?_) (fun h10 => ?_)
     ·have hk : k < d.Units.length := by have h := of_decide_eq_true h10; omega
      obtain ⟨x, hx⟩ : ∃ x, d.Units[k]? = some x := ⟨_, List.getElem?_eq_getElem hk⟩
      obtain ⟨i1, hR, i3⟩ := hI
      have hkc : k < d.Choices.length := by omega
      obtain ⟨c, hc⟩ : ∃ z_, d.Choices[k]? = some z_ := ⟨_, List.getElem?_eq_getElem hkc⟩
      refine sem_skip (seqK_n (sem_seq (sem_block (sem_seq ?_))))
      refine sem_drawn rfl (by decide +kernel) rfl ?_
      refine step_r rfl rfl (by decide) (step_r rfl rfl trivial (step_r rfl rfl trivial (step_idxS (k := k) rfl rfl rfl rfl hk (encI_ne hk) rfl (step_load_one rfl rfl rfl (encI_get hx) rfl (step_bin rfl rfl rfl rfl rfl trivial (step_r rfl rfl trivial ?_))))))
      refine step_gs rfl (fun h12 => ?_) (fun h12 => ?_)
      ·have g12 := h12
       try simp at g12
       refine step_g0 rfl h12 rfl (step_g0 rfl h12 rfl (step_g0 rfl h12 rfl (step_gf rfl rfl (step_gf rfl rfl (step_gf rfl rfl (step_gf rfl rfl (step_gf rfl rfl (step_gf rfl rfl (step_gf rfl rfl (step_gf rfl rfl (step_gf rfl rfl ?_)))))))))))
       refine step_gf rfl rfl (step_gf rfl rfl (step_gf rfl rfl (step_g0 rfl h12 rfl (step_pickT rfl h12 rfl rfl (step_r rfl rfl trivial (step_gf rfl rfl (step_gf rfl rfl (step_gf rfl rfl (step_gf rfl rfl (step_gf rfl rfl (step_gf rfl rfl ?_)))))))))))
       refine step_r rfl rfl trivial (step_r rfl rfl trivial (step_gf rfl rfl (step_gf rfl rfl (step_gf rfl rfl (step_gf rfl rfl (step_gf rfl rfl (step_gf rfl rfl (step_r rfl rfl trivial (step_nil (seqK_n (sem_condT rfl ?_)))))))))))
       refine sem_seq (sem_region rfl (step_r rfl rfl trivial (step_nil (seqK_n (sem_ret (blkK_r (seqK_r (lupK_r (blkK_r (seqK_r ?_))))))))))
       have e : rises 0 d.Units d.Choices = false := by rw [← hR, drop_cons hx, drop_cons hc, rises]; simp; omega
       exact answersR rfl ⟨trivial, trivial⟩ (congrArg B (decide_eq_false (fun h => by rw [h.2.2.2.2] at e; cases e)).symm) rfl
      ·have g12 := h12
       try simp at g12
       refine step_g1 rfl h12 (step_r rfl rfl trivial (step_g1 rfl h12 (step_bin rfl rfl rfl rfl rfl trivial (step_g1 rfl h12 (step_r rfl rfl trivial ?_)))))
       refine step_gs rfl (fun h14 => ?_) (fun h14 => ?_)
       ·have g14 := h14
        try simp at g14
        obtain ⟨j, hjk, hj, hl1⟩ : ∃ j, k = j + 1 ∧ d.Units[j]? = some last ∧ 1 ≤ last := by
         rcases i3 with ⟨h1, _⟩ | h
         · omega
         · exact h
        have hj1 : j < d.Units.length := by omega
        have hjw : IntKind.i64.wrap ((k : Int) - 1) = (j : Int) := by rw [IntKind.wrap_i64]; omega
        refine step_g1 rfl h14 (step_r rfl rfl (by decide) (step_g1 rfl h14 (step_r rfl rfl trivial (step_g1 rfl h14 (step_r rfl rfl trivial (step_g1 rfl h14 (step_idxS (k := k) rfl rfl rfl rfl hk (encI_ne hk) rfl (step_g1 rfl h14 (step_load_one rfl rfl rfl (encI_get hx) rfl (step_g1 rfl h14 (step_r rfl rfl (by decide) ?_)))))))))))
        refine step_g1 rfl h14 (step_r rfl rfl trivial (step_g1 rfl h14 (step_r rfl rfl trivial (step_g1 rfl h14 (step_bin rfl rfl rfl rfl rfl trivial (step_g1 rfl h14 ?_))))))
        refine step_idxS' (k := j) rfl rfl (hjw) rfl rfl hj1 (encI_ne hj1) rfl ?_
        refine step_g1 rfl h14 (step_load_one rfl rfl rfl (encI_get hj) rfl (step_g1 rfl h14 (step_bin rfl rfl rfl rfl rfl trivial (step_g1 rfl h12 (step_pickT rfl h14 rfl rfl (step_pickF rfl h12 rfl rfl (step_r rfl rfl trivial ?_)))))))
        refine step_gs rfl (fun h16 => ?_) (fun h16 => ?_)
        ·have g16 := h16
         try simp at g16
         refine step_g0 rfl h16 rfl (step_g0 rfl h16 rfl (step_g0 rfl h16 rfl (step_g0 rfl h16 rfl (step_g0 rfl h16 rfl (step_g0 rfl h16 rfl (step_pickT rfl h16 rfl rfl (step_r rfl rfl trivial (step_gf rfl rfl (step_gf rfl rfl (step_gf rfl rfl (step_gf rfl rfl ?_)))))))))))
         refine step_gf rfl rfl (step_gf rfl rfl (step_r rfl rfl trivial (step_nil (seqK_n (sem_condT rfl (sem_seq (sem_region rfl (step_r rfl rfl trivial (step_nil (seqK_n (sem_ret ?_)))))))))))
         refine blkK_r (seqK_r (lupK_r (blkK_r (seqK_r ?_))))
         have e : rises 0 d.Units d.Choices = false := by rw [← hR, drop_cons hx, drop_cons hc, rises]; simp; omega
         exact answersR rfl ⟨trivial, trivial⟩ (congrArg B (decide_eq_false (fun h => by rw [h.2.2.2.2] at e; cases e)).symm) rfl
        ·have g16 := h16
         try simp at g16
         refine step_g1 rfl h16 (step_r rfl rfl (by decide) (step_g1 rfl h16 (step_r rfl rfl trivial (step_g1 rfl h16 (step_r rfl rfl trivial (step_g1 rfl h16 (step_idxS (k := k) rfl rfl rfl rfl hkc (encI_ne hkc) rfl (step_g1 rfl h16 (step_load_one rfl rfl rfl (encI_get hc) rfl (step_g1 rfl h16 (step_bin rfl rfl rfl rfl rfl trivial ?_)))))))))))
         refine step_pickF rfl h16 rfl rfl (step_r rfl rfl trivial ?_)
         refine step_gs rfl (fun h18 => ?_) (fun h18 => ?_)
         ·have g18 := h18
          try simp at g18
          refine step_g0 rfl h18 rfl (step_g0 rfl h18 rfl (step_g0 rfl h18 rfl (step_g0 rfl h18 rfl (step_g0 rfl h18 rfl (step_g0 rfl h18 rfl (step_pickT rfl h18 rfl rfl (step_nil (seqK_n (sem_condT rfl (sem_seq (sem_region rfl ?_)))))))))))
          refine step_r rfl rfl trivial (step_nil (seqK_n (sem_ret (blkK_r (seqK_r (lupK_r (blkK_r (seqK_r ?_))))))))
          have e : rises 0 d.Units d.Choices = false := by rw [← hR, drop_cons hx, drop_cons hc, rises]; simp; omega
          exact answersR rfl ⟨trivial, trivial⟩ (congrArg B (decide_eq_false (fun h => by rw [h.2.2.2.2] at e; cases e)).symm) rfl
         ·have g18 := h18
          try simp at g18
          refine step_g1 rfl h18 (step_r rfl rfl (by decide) (step_g1 rfl h18 (step_r rfl rfl trivial (step_g1 rfl h18 (step_r rfl rfl trivial (step_g1 rfl h18 (step_idxS (k := k) rfl rfl rfl rfl hkc (encI_ne hkc) rfl (step_g1 rfl h18 (step_load_one rfl rfl rfl (encI_get hc) rfl (step_g1 rfl h18 (step_bin rfl rfl rfl rfl rfl trivial ?_)))))))))))
          refine step_pickF rfl h18 rfl rfl (step_nil (seqK_n ?_))
          refine sem_cond rfl (fun h20 => ?_) (fun h20 => ?_)
          ·have g20 := h20
           try simp at g20
           refine sem_seq (sem_region rfl (step_r rfl rfl trivial (step_nil (seqK_n (sem_ret (blkK_r (seqK_r (lupK_r (blkK_r (seqK_r ?_))))))))))
           have e : rises 0 d.Units d.Choices = false := by rw [← hR, drop_cons hx, drop_cons hc, rises]; simp; omega
           exact answersR rfl ⟨trivial, trivial⟩ (congrArg B (decide_eq_false (fun h => by rw [h.2.2.2.2] at e; cases e)).symm) rfl
          ·have g20 := h20
           try simp at g20
           refine sem_skip (blkK_n (seqK_n (sem_region rfl (step_r rfl rfl trivial (step_bin rfl rfl rfl rfl rfl trivial (step_r rfl rfl trivial (step_nil ?_)))))))
           exact lup_again (k+1, x) (⟨hk, by rw [← hR, drop_cons hx, drop_cons hc]; simp only [rises]; rw [decide_eq_true (by omega), decide_eq_true (by omega)]; simp, .inr ⟨k, rfl, hx, by omega⟩⟩) (by show d.Units.length - (k + 1) < d.Units.length - k; omega) (less_of rfl ⟨⟨rfl, rfl⟩, ⟨congrArg (fun n => some (I n)) (wrapK hk (by assumption)), rfl⟩, trivial⟩ ⟨⟨rfl, rfl, rfl⟩, trivial⟩ (fun _ _ => .inr (Nat.zero_le _)))
       ·have g14 := h14
        try simp at g14
        have hl0 : last = 0 := by
         rcases i3 with ⟨_, h⟩ | ⟨j, h, _⟩
         · exact h
         · omega
        refine step_g0 rfl h14 rfl (step_g0 rfl h14 rfl (step_g0 rfl h14 rfl (step_g0 rfl h14 rfl (step_g0 rfl h14 rfl (step_g0 rfl h14 rfl (step_g0 rfl h14 rfl (step_g0 rfl h14 rfl (step_g0 rfl h14 rfl (step_g0 rfl h14 rfl (step_g0 rfl h14 rfl (step_g0 rfl h14 rfl ?_)))))))))))
        refine step_g1 rfl h12 (step_pickF rfl h14 rfl rfl (step_pickF rfl h12 rfl rfl (step_r rfl rfl trivial (step_gt rfl (step_r rfl rfl (by decide) (step_gt rfl (step_r rfl rfl trivial (step_gt rfl (step_r rfl rfl trivial (step_gt rfl (step_idxS (k := k) rfl rfl rfl rfl hkc (encI_ne hkc) rfl ?_)))))))))))
        refine step_gt rfl (step_load_one rfl rfl rfl (encI_get hc) rfl (step_gt rfl (step_bin rfl rfl rfl rfl rfl trivial (step_r rfl rfl trivial (step_r rfl rfl trivial ?_)))))
        refine step_gs rfl (fun h23 => ?_) (fun h23 => ?_)
        ·have g23 := h23
         try simp at g23
         refine step_g0 rfl h23 rfl (step_g0 rfl h23 rfl (step_g0 rfl h23 rfl (step_g0 rfl h23 rfl (step_g0 rfl h23 rfl (step_g0 rfl h23 rfl (step_pickT rfl h23 rfl rfl (step_nil (seqK_n (sem_condT rfl (sem_seq (sem_region rfl ?_)))))))))))
         refine step_r rfl rfl trivial (step_nil (seqK_n (sem_ret (blkK_r (seqK_r (lupK_r (blkK_r (seqK_r ?_))))))))
         have e : rises 0 d.Units d.Choices = false := by rw [← hR, drop_cons hx, drop_cons hc, rises]; simp; omega
         exact answersR rfl ⟨trivial, trivial⟩ (congrArg B (decide_eq_false (fun h => by rw [h.2.2.2.2] at e; cases e)).symm) rfl
        ·have g23 := h23
         try simp at g23
         refine step_g1 rfl h23 (step_r rfl rfl (by decide) (step_g1 rfl h23 (step_r rfl rfl trivial (step_g1 rfl h23 (step_r rfl rfl trivial (step_g1 rfl h23 (step_idxS (k := k) rfl rfl rfl rfl hkc (encI_ne hkc) rfl (step_g1 rfl h23 (step_load_one rfl rfl rfl (encI_get hc) rfl (step_g1 rfl h23 (step_bin rfl rfl rfl rfl rfl trivial ?_)))))))))))
         refine step_pickF rfl h23 rfl rfl (step_nil (seqK_n ?_))
         refine sem_cond rfl (fun h25 => ?_) (fun h25 => ?_)
         ·have g25 := h25
          try simp at g25
          refine sem_seq (sem_region rfl (step_r rfl rfl trivial (step_nil (seqK_n (sem_ret (blkK_r (seqK_r (lupK_r (blkK_r (seqK_r ?_))))))))))
          have e : rises 0 d.Units d.Choices = false := by rw [← hR, drop_cons hx, drop_cons hc, rises]; simp; omega
          exact answersR rfl ⟨trivial, trivial⟩ (congrArg B (decide_eq_false (fun h => by rw [h.2.2.2.2] at e; cases e)).symm) rfl
         ·have g25 := h25
          try simp at g25
          refine sem_skip (blkK_n (seqK_n (sem_region rfl (step_r rfl rfl trivial (step_bin rfl rfl rfl rfl rfl trivial (step_r rfl rfl trivial (step_nil ?_)))))))
          exact lup_again (k+1, x) (⟨hk, by rw [← hR, drop_cons hx, drop_cons hc]; simp only [rises]; rw [decide_eq_true (by omega), decide_eq_true (by omega)]; simp, .inr ⟨k, rfl, hx, by omega⟩⟩) (by show d.Units.length - (k + 1) < d.Units.length - k; omega) (less_of rfl ⟨⟨rfl, rfl⟩, ⟨congrArg (fun n => some (I n)) (wrapK hk (by assumption)), rfl⟩, trivial⟩ ⟨⟨rfl, rfl, rfl⟩, trivial⟩ (fun _ _ => .inr (Nat.zero_le _)))
     ·have hk : k = d.Units.length := by have h := of_decide_eq_false h10; have := hI; omega
      obtain ⟨i1, hR, i3⟩ := hI
      refine sem_exit (seqK_e (lupK_e (blkK_t rfl (seqK_n (sem_seq (sem_region rfl (step_r rfl rfl trivial (step_nil (seqK_n (sem_ret ?_))))))))))
      have e : rises 0 d.Units d.Choices = true := by rw [← hR, hk, List.drop_length]; simp [rises]
      exact answersR rfl ⟨trivial, trivial⟩ (congrArg B (decide_eq_true ⟨by omega, by omega, by omega, by omega, e⟩).symm) rfl

theorem copyD_ok (d : GDrop) (h1 : d.Units.length ≤ 16777216) (h2 : d.Choices.length ≤ 16777216) : Ok Try.prog 14 [aGDrop d] [] (.agg [I d.Id, I d.Item, I d.Until, .ref 0 1 0 d.Units.length, .ref 1 1 0 d.Choices.length]) [.row 3 1 (encI d.Units), .row 3 1 (encI d.Choices)] [] := by
 refine Ok.len fun hlen => ?_
 have hl_d_Units : d.Units.length ≤ maxLen := hlen _ (by simp [lensL, lens, lensP])
 have hl_d_Choices : d.Choices.length ≤ maxLen := hlen _ (by simp [lensL, lens, lensP])
 unfold maxLen at hl_d_Units hl_d_Choices
 refine ok_of_sem Try.func14 rfl ?_
 show Walks Try.prog _ _ ⟨[(0, aGDrop d)], [], 0, [], 12, 0⟩
 refine sem_seq (sem_region rfl (step_n (o := .box [_, _, _, _, _]) (nx' := 1) rfl rfl rfl trivial (step_n (o := .box [_, _, _, _, _]) (nx' := 2) rfl rfl rfl trivial (step_nil (seqK_n (sem_seq ?_))))))
 refine sem_drawn rfl (by decide +kernel) rfl ?_
 refine step_r rfl rfl (by decide) (step_r rfl rfl trivial ?_)
 refine step_callJ (Hin := []) (out' := .ref 2 _ _ _) (H' := [(2, .row _ _ _), (1, _), (0, _)]) (nx' := 3) [] rfl rfl rfl rfl rfl rfl rfl rfl rfl (by (repeat' apply And.intro) <;> first | trivial | rfl | exact flat_len (fun _ => rfl) _ | exact encI_len _ | exact Nat.le_of_ble_eq_true rfl | assumption) (clone_Int d.Units false (by first | assumption | omega | (simp; omega) | simp_all)) rfl (by decide) rfl rfl ⟨encI_solid, trivial⟩ rfl rfl rfl rfl ?_
 refine step_r rfl rfl (by decide) (step_r rfl rfl trivial ?_)
 refine step_callJ (Hin := []) (out' := .ref 3 _ _ _) (H' := [(3, .row _ _ _), (2, _), (1, _), (0, _)]) (nx' := 4) [] rfl rfl rfl rfl rfl rfl rfl rfl rfl (by (repeat' apply And.intro) <;> first | trivial | rfl | exact flat_len (fun _ => rfl) _ | exact encI_len _ | exact Nat.le_of_ble_eq_true rfl | assumption) (clone_Int d.Choices false (by first | assumption | omega | (simp; omega) | simp_all)) rfl (by decide) rfl rfl ⟨encI_solid, trivial⟩ rfl rfl rfl rfl ?_
 refine step_r rfl rfl (by decide) ?_
 refine step_storeB (H' := [(3, _), (2, _), (1, _), (0, .box [_, _, _, _, _])]) rfl rfl rfl rfl rfl rfl (.inr (by decide +kernel)) rfl ?_
 refine step_r rfl rfl (by decide) ?_
 refine step_storeB (H' := [(3, _), (2, _), (1, _), (0, .box [_, _, _, _, _])]) rfl rfl rfl rfl rfl rfl (.inr (by decide +kernel)) rfl ?_
 refine step_nil (seqK_n (sem_seq (sem_region rfl (step_r (v := (.agg [_, _, _, _, _])) rfl rfl (Nat.le_of_ble_eq_true rfl) ?_))))
 refine step_storeB (H' := [(3, _), (2, _), (1, .box [_, _, _, _, _]), (0, _)]) rfl rfl rfl rfl rfl rfl (.inl rfl) rfl ?_
 refine step_nil (seqK_n (sem_ret ?_))
 exact answersGR [] [2, 3] rfl ⟨Nat.le_of_ble_eq_true rfl, trivial⟩ rfl (by (repeat' apply And.intro) <;> first | trivial | rfl | exact flat_len (fun _ => rfl) _ | exact encI_len _ | assumption) (rfl) rfl rfl rfl (by decide) rfl rfl ⟨⟨rfl, rfl⟩, ⟨rfl, rfl⟩, trivial⟩

theorem copyDR_ok (d : GDrop) (h1 : d.Units.length ≤ 16777216) (h2 : d.Choices.length ≤ 16777216) : Ok Try.prog 9 [aGDrop d] [] (.agg [I d.Id, I d.Item, I d.Until, .ref 0 1 0 d.Units.length, .ref 1 1 0 d.Choices.length]) [.row 3 1 (encI d.Units), .row 3 1 (encI d.Choices)] [] := by
 refine Ok.len fun hlen => ?_
 have hl_d_Units : d.Units.length ≤ maxLen := hlen _ (by simp [lensL, lens, lensP])
 have hl_d_Choices : d.Choices.length ≤ maxLen := hlen _ (by simp [lensL, lens, lensP])
 unfold maxLen at hl_d_Units hl_d_Choices
 refine ok_of_sem Try.func9 rfl ?_
 show Walks Try.prog _ _ ⟨[(0, aGDrop d)], [], 0, [], 14, 0⟩
 refine sem_seq (sem_region rfl (step_n (o := .box [_, _, _, _, _]) (nx' := 1) rfl rfl rfl trivial (step_n (o := .box [_, _, _, _, _]) (nx' := 2) rfl rfl rfl trivial (step_nil (seqK_n (sem_seq (sem_region rfl (step_r rfl rfl ⟨by decide, rfl⟩ (step_r rfl rfl (by decide) (step_r rfl rfl trivial ?_))))))))))
 refine step_appendN (m := d.Units.length) (new := encI d.Units) (cs' := encI d.Units) (n' := d.Units.length) rfl rfl (rfl) rfl rfl rfl rfl rfl rfl (encI_len d.Units) (by first | decide | (unfold maxGrow; omega) | (unfold maxGrow; simp; omega) | (unfold maxGrow; simp only [List.length_append, List.length_take, List.length_drop, List.length_cons, List.length_nil, IntKind.wrap_i64] at *; omega)) rfl rfl rfl rfl ?_
 refine step_r rfl rfl (by decide) ?_
 refine step_storeB (H' := [(2, _), (1, _), (0, .box [_, _, _, _, _])]) rfl rfl rfl rfl rfl rfl (.inl rfl) rfl ?_
 refine step_nil (seqK_n (sem_seq (sem_region rfl (step_r rfl rfl ⟨by decide, rfl⟩ (step_r rfl rfl (by decide) (step_r rfl rfl trivial ?_))))))
 refine step_appendN (m := d.Choices.length) (new := encI d.Choices) (cs' := encI d.Choices) (n' := d.Choices.length) rfl rfl (rfl) rfl rfl rfl rfl rfl rfl (encI_len d.Choices) (by first | decide | (unfold maxGrow; omega) | (unfold maxGrow; simp; omega) | (unfold maxGrow; simp only [List.length_append, List.length_take, List.length_drop, List.length_cons, List.length_nil, IntKind.wrap_i64] at *; omega)) rfl rfl rfl rfl ?_
 refine step_r rfl rfl (by decide) ?_
 refine step_storeB (H' := [(3, _), (2, _), (1, _), (0, .box [_, _, _, _, _])]) rfl rfl rfl rfl rfl rfl (.inl rfl) rfl ?_
 refine step_nil (seqK_n (sem_seq (sem_region rfl (step_r (v := (.agg [_, _, _, _, _])) rfl rfl (Nat.le_of_ble_eq_true rfl) ?_))))
 refine step_storeB (H' := [(3, _), (2, _), (1, .box [_, _, _, _, _]), (0, _)]) rfl rfl rfl rfl rfl rfl (.inl rfl) rfl ?_
 refine step_nil (seqK_n (sem_ret ?_))
 exact answersGR [] [2, 3] rfl ⟨Nat.le_of_ble_eq_true rfl, trivial⟩ rfl (by (repeat' apply And.intro) <;> first | trivial | rfl | exact flat_len (fun _ => rfl) _ | exact encI_len _ | assumption) (rfl) rfl rfl rfl (by decide) rfl rfl ⟨⟨rfl, rfl⟩, ⟨rfl, rfl⟩, trivial⟩

theorem sameD_ok (a : GDrop) (b : GDrop) : Ok Try.prog 23 [aGDrop a, aGDrop b] [] (B (decide (a = b))) [] [] := by
 refine Ok.len fun hlen => ?_
 have hl_a_Units : a.Units.length ≤ maxLen := hlen _ (by simp [lensL, lens, lensP])
 have hl_a_Choices : a.Choices.length ≤ maxLen := hlen _ (by simp [lensL, lens, lensP])
 have hl_b_Units : b.Units.length ≤ maxLen := hlen _ (by simp [lensL, lens, lensP])
 have hl_b_Choices : b.Choices.length ≤ maxLen := hlen _ (by simp [lensL, lens, lensP])
 unfold maxLen at hl_a_Units hl_a_Choices hl_b_Units hl_b_Choices
 refine ok_of_sem Try.func23 rfl ?_
 show Walks Try.prog _ _ ⟨[(0, aGDrop a), (1, aGDrop b)], [], 0, [], 38, 0⟩
 refine sem_seq (sem_region rfl (step_n (o := .box [_, _, _, _, _]) (nx' := 1) rfl rfl rfl trivial (step_n (o := .box [_, _, _, _, _]) (nx' := 2) rfl rfl rfl trivial (step_r rfl rfl trivial (step_nil (seqK_n (sem_seq (sem_region rfl (step_r rfl rfl (by decide) (step_r rfl rfl trivial (step_r rfl rfl (by decide) ?_)))))))))))
 refine step_r rfl rfl trivial (step_bin rfl rfl rfl rfl rfl trivial (step_r rfl rfl trivial ?_))
 refine step_gs rfl (fun h2 => ?_) (fun h2 => ?_)
 ·have g2 := h2
  try simp at g2
  refine step_g1 rfl h2 (step_r rfl rfl (by decide) (step_g1 rfl h2 (step_r rfl rfl trivial (step_g1 rfl h2 (step_r rfl rfl (by decide) (step_g1 rfl h2 (step_r rfl rfl trivial (step_g1 rfl h2 (step_bin rfl rfl rfl rfl rfl trivial (step_pickT rfl h2 rfl rfl (step_r rfl rfl trivial ?_)))))))))))
  refine step_gs rfl (fun h4 => ?_) (fun h4 => ?_)
  ·have g4 := h4
   try simp at g4
   refine step_g1 rfl h4 (step_r rfl rfl (by decide) (step_g1 rfl h4 (step_r rfl rfl trivial (step_g1 rfl h4 (step_r rfl rfl (by decide) (step_g1 rfl h4 (step_r rfl rfl trivial (step_g1 rfl h4 (step_bin rfl rfl rfl rfl rfl trivial (step_pickT rfl h4 rfl rfl (step_r rfl rfl trivial ?_)))))))))))
   refine step_gs rfl (fun h6 => ?_) (fun h6 => ?_)
   ·have g6 := h6
    try simp at g6
    refine step_g1 rfl h6 (step_r rfl rfl (by decide) (step_g1 rfl h6 (step_r rfl rfl trivial (step_g1 rfl h6 (step_r rfl rfl (by decide) (step_g1 rfl h6 (step_r rfl rfl trivial (step_g1 rfl h6 (step_call rfl rfl rfl rfl (equal_Int a.Units false b.Units false) rfl rfl rfl (step_pickT rfl h6 rfl rfl (step_r rfl rfl trivial ?_)))))))))))
    refine step_gs rfl (fun h8 => ?_) (fun h8 => ?_)
    ·have g8 := h8
     try simp at g8
     refine step_g1 rfl h8 (step_r rfl rfl (by decide) (step_g1 rfl h8 (step_r rfl rfl trivial (step_g1 rfl h8 (step_r rfl rfl (by decide) (step_g1 rfl h8 (step_r rfl rfl trivial (step_g1 rfl h8 (step_call rfl rfl rfl rfl (equal_Int a.Choices false b.Choices false) rfl rfl rfl (step_pickT rfl h8 rfl rfl (step_r rfl rfl trivial ?_)))))))))))
     refine step_nil (seqK_n (sem_ret ?_))
     refine answersR (vs := [_]) rfl ⟨trivial, trivial⟩ (congrArg B ?_) rfl
     first
      | rfl
      | (exfalso; omega)
      | (simp [drop_iff, g2, g4, g6, g8]; done)
      | (rw [Bool.eq_iff_iff]; simp [drop_iff, g2, g4, g6, g8]; done)
      | (rw [Bool.eq_iff_iff]; simp [drop_iff, g2, g4, g6, g8]; omega)
      | grind [drop_iff]
    ·have g8 := h8
     try simp at g8
     refine step_g0 rfl h8 rfl (step_g0 rfl h8 rfl (step_g0 rfl h8 rfl (step_g0 rfl h8 rfl (step_g0 rfl h8 rfl (step_pickF rfl h8 rfl rfl (step_r rfl rfl trivial (step_nil (seqK_n (sem_ret ?_)))))))))
     refine answersR (vs := [_]) rfl ⟨trivial, trivial⟩ (congrArg B ?_) rfl
     first
      | rfl
      | (exfalso; omega)
      | (simp [drop_iff, g2, g4, g6, g8]; done)
      | (rw [Bool.eq_iff_iff]; simp [drop_iff, g2, g4, g6, g8]; done)
      | (rw [Bool.eq_iff_iff]; simp [drop_iff, g2, g4, g6, g8]; omega)
      | grind [drop_iff]
   ·have g6 := h6
    try simp at g6
    refine step_g0 rfl h6 rfl (step_g0 rfl h6 rfl (step_g0 rfl h6 rfl (step_g0 rfl h6 rfl (step_g0 rfl h6 rfl (step_pickF rfl h6 rfl rfl (step_r rfl rfl trivial (step_gf rfl rfl (step_gf rfl rfl (step_gf rfl rfl (step_gf rfl rfl (step_gf rfl rfl ?_)))))))))))
    refine step_r rfl rfl trivial (step_r rfl rfl trivial (step_nil (seqK_n (sem_ret ?_))))
    refine answersR (vs := [_]) rfl ⟨trivial, trivial⟩ (congrArg B ?_) rfl
    first
     | rfl
     | (exfalso; omega)
     | (simp [drop_iff, g2, g4, g6]; done)
     | (rw [Bool.eq_iff_iff]; simp [drop_iff, g2, g4, g6]; done)
     | (rw [Bool.eq_iff_iff]; simp [drop_iff, g2, g4, g6]; omega)
     | grind [drop_iff]
  ·have g4 := h4
   try simp at g4
   refine step_g0 rfl h4 rfl (step_g0 rfl h4 rfl (step_g0 rfl h4 rfl (step_g0 rfl h4 rfl (step_g0 rfl h4 rfl (step_pickF rfl h4 rfl rfl (step_r rfl rfl trivial (step_gf rfl rfl (step_gf rfl rfl (step_gf rfl rfl (step_gf rfl rfl (step_gf rfl rfl ?_)))))))))))
   refine step_r rfl rfl trivial (step_r rfl rfl trivial (step_gf rfl rfl (step_gf rfl rfl (step_gf rfl rfl (step_gf rfl rfl (step_gf rfl rfl (step_r rfl rfl trivial (step_r rfl rfl trivial (step_nil (seqK_n (sem_ret ?_)))))))))))
   refine answersR (vs := [_]) rfl ⟨trivial, trivial⟩ (congrArg B ?_) rfl
   first
    | rfl
    | (exfalso; omega)
    | (simp [drop_iff, g2, g4]; done)
    | (rw [Bool.eq_iff_iff]; simp [drop_iff, g2, g4]; done)
    | (rw [Bool.eq_iff_iff]; simp [drop_iff, g2, g4]; omega)
    | grind [drop_iff]
 ·have g2 := h2
  try simp at g2
  refine step_g0 rfl h2 rfl (step_g0 rfl h2 rfl (step_g0 rfl h2 rfl (step_g0 rfl h2 rfl (step_g0 rfl h2 rfl (step_pickF rfl h2 rfl rfl (step_r rfl rfl trivial (step_gf rfl rfl (step_gf rfl rfl (step_gf rfl rfl (step_gf rfl rfl (step_gf rfl rfl ?_)))))))))))
  refine step_r rfl rfl trivial (step_r rfl rfl trivial (step_gf rfl rfl (step_gf rfl rfl (step_gf rfl rfl (step_gf rfl rfl (step_gf rfl rfl (step_r rfl rfl trivial (step_r rfl rfl trivial (step_gf rfl rfl (step_gf rfl rfl (step_gf rfl rfl ?_)))))))))))
  refine step_gf rfl rfl (step_gf rfl rfl (step_r rfl rfl trivial (step_r rfl rfl trivial (step_nil (seqK_n (sem_ret ?_))))))
  refine answersR (vs := [_]) rfl ⟨trivial, trivial⟩ (congrArg B ?_) rfl
  first
   | rfl
   | (exfalso; omega)
   | (simp [drop_iff, g2]; done)
   | (rw [Bool.eq_iff_iff]; simp [drop_iff, g2]; done)
   | (rw [Bool.eq_iff_iff]; simp [drop_iff, g2]; omega)
   | grind [drop_iff]

theorem sameDR_ok (a : GDrop) (b : GDrop) : Ok Try.prog 15 [aGDrop a, aGDrop b] [] (B (decide (a = b))) [] [] := by
 refine Ok.len fun hlen => ?_
 have hl_a_Units : a.Units.length ≤ maxLen := hlen _ (by simp [lensL, lens, lensP])
 have hl_a_Choices : a.Choices.length ≤ maxLen := hlen _ (by simp [lensL, lens, lensP])
 have hl_b_Units : b.Units.length ≤ maxLen := hlen _ (by simp [lensL, lens, lensP])
 have hl_b_Choices : b.Choices.length ≤ maxLen := hlen _ (by simp [lensL, lens, lensP])
 unfold maxLen at hl_a_Units hl_a_Choices hl_b_Units hl_b_Choices
 refine ok_of_sem Try.func15 rfl ?_
 show Walks Try.prog _ _ ⟨[(0, aGDrop a), (1, aGDrop b)], [], 0, [], 42, 0⟩
 refine sem_seq (sem_region rfl (step_n (o := .box [_, _, _, _, _]) (nx' := 1) rfl rfl rfl trivial (step_n (o := .box [_, _, _, _, _]) (nx' := 2) rfl rfl rfl trivial (step_r rfl rfl trivial (step_nil (seqK_n (sem_seq (sem_region rfl (step_r rfl rfl (by decide) (step_r rfl rfl trivial (step_r rfl rfl (by decide) ?_)))))))))))
 refine step_r rfl rfl trivial (step_call rfl rfl rfl rfl (same02_ok a.Units false b.Units false) rfl rfl rfl (step_r rfl rfl trivial (step_nil (seqK_n (sem_seq (sem_region rfl (step_r rfl rfl (by decide) (step_r rfl rfl trivial (step_r rfl rfl (by decide) (step_r rfl rfl trivial (step_call rfl rfl rfl rfl (same02_ok a.Choices false b.Choices false) rfl rfl rfl ?_)))))))))))
 refine step_r rfl rfl trivial (step_nil (seqK_n (sem_seq (sem_region rfl (step_r rfl rfl (by decide) (step_r rfl rfl trivial (step_r rfl rfl (by decide) (step_r rfl rfl trivial (step_bin rfl rfl rfl rfl rfl trivial (step_r rfl rfl trivial ?_))))))))))
 refine step_gs rfl (fun h4 => ?_) (fun h4 => ?_)
 ·have g4 := h4
  try simp at g4
  refine step_g1 rfl h4 (step_r rfl rfl (by decide) (step_g1 rfl h4 (step_r rfl rfl trivial (step_g1 rfl h4 (step_r rfl rfl (by decide) (step_g1 rfl h4 (step_r rfl rfl trivial (step_g1 rfl h4 (step_bin rfl rfl rfl rfl rfl trivial (step_pickT rfl h4 rfl rfl (step_r rfl rfl trivial ?_)))))))))))
  refine step_gs rfl (fun h6 => ?_) (fun h6 => ?_)
  ·have g6 := h6
   try simp at g6
   refine step_g1 rfl h6 (step_r rfl rfl (by decide) (step_g1 rfl h6 (step_r rfl rfl trivial (step_g1 rfl h6 (step_r rfl rfl (by decide) (step_g1 rfl h6 (step_r rfl rfl trivial (step_g1 rfl h6 (step_bin rfl rfl rfl rfl rfl trivial (step_pickT rfl h6 rfl rfl (step_r rfl rfl trivial ?_)))))))))))
   refine step_gs rfl (fun h8 => ?_) (fun h8 => ?_)
   ·have g8 := h8
    try simp at g8
    refine step_g1 rfl h8 (step_r rfl rfl trivial (step_pickT rfl h8 rfl rfl (step_r rfl rfl trivial ?_)))
    refine step_gs rfl (fun h9 => ?_) (fun h9 => ?_)
    ·have g9 := h9
     try simp at g9
     refine step_g1 rfl h9 (step_r rfl rfl trivial (step_pickT rfl h9 rfl rfl (step_r rfl rfl trivial (step_nil (seqK_n (sem_ret ?_))))))
     refine answersR (vs := [_]) rfl ⟨trivial, trivial⟩ (congrArg B ?_) rfl
     first
      | rfl
      | (exfalso; omega)
      | (simp [drop_iff, g4, g6, g8, g9]; done)
      | (rw [Bool.eq_iff_iff]; simp [drop_iff, g4, g6, g8, g9]; done)
      | (rw [Bool.eq_iff_iff]; simp [drop_iff, g4, g6, g8, g9]; omega)
      | grind [drop_iff]
    ·have g9 := h9
     try simp at g9
     refine step_g0 rfl h9 rfl (step_pickF rfl h9 rfl rfl (step_r rfl rfl trivial (step_nil (seqK_n (sem_ret ?_)))))
     refine answersR (vs := [_]) rfl ⟨trivial, trivial⟩ (congrArg B ?_) rfl
     first
      | rfl
      | (exfalso; omega)
      | (simp [drop_iff, g4, g6, g8, g9]; done)
      | (rw [Bool.eq_iff_iff]; simp [drop_iff, g4, g6, g8, g9]; done)
      | (rw [Bool.eq_iff_iff]; simp [drop_iff, g4, g6, g8, g9]; omega)
      | grind [drop_iff]
   ·have g8 := h8
    try simp at g8
    refine step_g0 rfl h8 rfl (step_pickF rfl h8 rfl rfl (step_r rfl rfl trivial (step_gf rfl rfl (step_r rfl rfl trivial (step_r rfl rfl trivial (step_nil (seqK_n (sem_ret ?_))))))))
    refine answersR (vs := [_]) rfl ⟨trivial, trivial⟩ (congrArg B ?_) rfl
    first
     | rfl
     | (exfalso; omega)
     | (simp [drop_iff, g4, g6, g8]; done)
     | (rw [Bool.eq_iff_iff]; simp [drop_iff, g4, g6, g8]; done)
     | (rw [Bool.eq_iff_iff]; simp [drop_iff, g4, g6, g8]; omega)
     | grind [drop_iff]
  ·have g6 := h6
   try simp at g6
   refine step_g0 rfl h6 rfl (step_g0 rfl h6 rfl (step_g0 rfl h6 rfl (step_g0 rfl h6 rfl (step_g0 rfl h6 rfl (step_pickF rfl h6 rfl rfl (step_r rfl rfl trivial (step_gf rfl rfl (step_r rfl rfl trivial (step_r rfl rfl trivial (step_gf rfl rfl (step_r rfl rfl trivial ?_)))))))))))
   refine step_r rfl rfl trivial (step_nil (seqK_n (sem_ret ?_)))
   refine answersR (vs := [_]) rfl ⟨trivial, trivial⟩ (congrArg B ?_) rfl
   first
    | rfl
    | (exfalso; omega)
    | (simp [drop_iff, g4, g6]; done)
    | (rw [Bool.eq_iff_iff]; simp [drop_iff, g4, g6]; done)
    | (rw [Bool.eq_iff_iff]; simp [drop_iff, g4, g6]; omega)
    | grind [drop_iff]
 ·have g4 := h4
  try simp at g4
  refine step_g0 rfl h4 rfl (step_g0 rfl h4 rfl (step_g0 rfl h4 rfl (step_g0 rfl h4 rfl (step_g0 rfl h4 rfl (step_pickF rfl h4 rfl rfl (step_r rfl rfl trivial (step_gf rfl rfl (step_gf rfl rfl (step_gf rfl rfl (step_gf rfl rfl (step_gf rfl rfl ?_)))))))))))
  refine step_r rfl rfl trivial (step_r rfl rfl trivial (step_gf rfl rfl (step_r rfl rfl trivial (step_r rfl rfl trivial (step_gf rfl rfl (step_r rfl rfl trivial (step_r rfl rfl trivial (step_nil (seqK_n (sem_ret ?_))))))))))
  refine answersR (vs := [_]) rfl ⟨trivial, trivial⟩ (congrArg B ?_) rfl
  first
   | rfl
   | (exfalso; omega)
   | (simp [drop_iff, g4]; done)
   | (rw [Bool.eq_iff_iff]; simp [drop_iff, g4]; done)
   | (rw [Bool.eq_iff_iff]; simp [drop_iff, g4]; omega)
   | grind [drop_iff]

theorem open_ok (id : Int) (item : Int) (til : Int) (units : List Int) (units_f : Bool) (hu : units.length ≤ 16777216) : Ok Try.prog 12 [I id, I item, I til, .pv (.slc units.length units_f (encI units))] [] (.tup [.agg [I (openD id item til units).1.Id, I (openD id item til units).1.Item, I (openD id item til units).1.Until, .ref 0 1 0 (openD id item til units).1.Units.length, .ref 1 1 0 (openD id item til units).1.Choices.length], I (openD id item til units).2]) [.row 3 1 (encI (openD id item til units).1.Units), .row 3 1 (encI (openD id item til units).1.Choices)] [] := by
 refine Ok.len fun hlen => ?_
 have hl_units : units.length ≤ maxLen := hlen _ (by simp [lensL, lens, lensP])
 unfold maxLen at hl_units
 refine ok_of_sem Try.func12 rfl ?_
 show Walks Try.prog _ _ ⟨[(0, I id), (1, I item), (2, I til), (3, .pv (.slc units.length units_f (encI units)))], [], 0, [], 25, 0⟩
 refine sem_seq (sem_region rfl (step_n (o := .box [_, _, _, _, _]) (nx' := 1) rfl rfl rfl trivial (step_r rfl rfl trivial (step_nil (seqK_n (sem_seq ?_))))))
 refine sem_drawn rfl (by decide +kernel) rfl ?_
 refine step_r rfl rfl trivial (step_r rfl rfl trivial (step_r rfl rfl trivial (step_r rfl rfl trivial ?_)))
 refine step_callJ (Hin := []) (out' := .ref 1 _ _ _) (H' := [(1, .row _ _ _), (0, _)]) (nx' := 2) [] rfl rfl rfl rfl rfl rfl rfl rfl rfl (by (repeat' apply And.intro) <;> first | trivial | rfl | exact flat_len (fun _ => rfl) _ | exact encI_len _ | exact Nat.le_of_ble_eq_true rfl | assumption) (clone_Int units false (by first | assumption | omega | (simp; omega) | simp_all)) rfl (by decide) rfl rfl ⟨encI_solid, trivial⟩ rfl rfl rfl rfl ?_
 refine step_r rfl rfl trivial (step_r rfl rfl trivial ?_)
 refine step_mkS (sz := 1) (n := units.length) (n' := (List.replicate units.length (0 : Int)).length) (cs := encI (List.replicate units.length (0 : Int))) rfl rfl rfl rfl rfl rfl rfl (by unfold maxGrow; omega) (repeatZ_map _) (List.length_replicate ..).symm rfl rfl ?_
 refine step_r (v := (.agg [_, _, _, _, _])) rfl rfl trivial (step_n (o := .box [_, _, _, _, _]) (nx' := 4) rfl rfl rfl trivial ?_)
 refine step_storeB (H' := [(3, .box [_, _, _, _, _]), (2, _), (1, _), (0, _)]) rfl rfl rfl rfl rfl rfl (.inr (by decide +kernel)) rfl ?_
 refine step_nil (seqK_n (sem_seq (sem_seq (sem_region rfl (step_r (v := (.agg [_, _, _, _, _])) rfl rfl (Nat.le_of_ble_eq_true rfl) ?_)))))
 refine step_callJ (Hin := [.row _ _ _, .row _ _ _]) (H' := [(3, _), (2, _), (1, _), (0, _)]) (nx' := 4) [1, 2] rfl rfl rfl rfl rfl rfl rfl rfl rfl (by (repeat' apply And.intro) <;> first | trivial | rfl | exact flat_len (fun _ => rfl) _ | exact encI_len _ | exact Nat.le_of_ble_eq_true rfl | assumption) (rightD_ok (⟨id, item, til, units, (List.replicate units.length (0 : Int))⟩ : GDrop)) rfl (by decide) rfl rfl trivial rfl rfl rfl rfl ?_
 refine step_r rfl rfl trivial (step_nil (seqK_n ?_))
 refine sem_cond rfl (fun h4 => ?_) (fun h4 => ?_)
 ·have g4 := h4
  try simp at g4
  refine sem_seq (sem_region rfl (step_r (v := (.agg [_, _, _, _, _])) rfl rfl trivial ?_))
  refine step_storeB (H' := [(3, _), (2, _), (1, _), (0, .box [_, _, _, _, _])]) rfl rfl rfl rfl rfl rfl (.inl rfl) rfl ?_
  refine step_r rfl rfl trivial (step_nil (seqK_n ?_))
  refine sem_trans (Trans.virt (T' := [(8, .ptr 0 0), (9, I 1)]) (H' := [(0, .box [I 0, I 0, I 0, .ref 4 1 0 0, .pv (.slc 0 true [])])]) 3 1 rfl ⟨⟨rfl, rfl⟩, ⟨rfl, rfl⟩, trivial⟩ ⟨⟨rfl, rfl⟩, trivial⟩) ?_
  refine sem_trans (Trans.virt (T' := [(8, .ptr 0 0), (9, I 1)]) (H' := [(0, .box [I 0, I 0, I 0, .ref 4 1 0 0, .ref 5 1 0 0]), (4, .row 3 1 [])]) 3 1 rfl ⟨⟨rfl, rfl⟩, ⟨rfl, rfl⟩, trivial⟩ ⟨⟨rfl, rfl⟩, ⟨rfl, rfl⟩, trivial⟩) ?_
  refine sem_ret (seqK_r ?_)
  have e : openD id item til units = (d0, 1) := if_neg (by first | assumption | (intro h; exact absurd h.2.2.1 (by simp only; omega)))
  rw [e]
  exact answersGR [] [4, 5] rfl ⟨Nat.le_of_ble_eq_true rfl, trivial, trivial⟩ rfl (by (repeat' apply And.intro) <;> first | trivial | rfl | exact flat_len (fun _ => rfl) _ | exact encI_len _ | assumption) (rfl) rfl rfl rfl (by decide) rfl rfl ⟨⟨rfl, rfl⟩, ⟨rfl, rfl⟩, trivial⟩
 ·have g4 := h4
  try simp at g4
  refine sem_skip (seqK_n (sem_seq (sem_region rfl (step_r (v := (.agg [_, _, _, _, _])) rfl rfl (Nat.le_of_ble_eq_true rfl) ?_))))
  refine step_storeB (H' := [(3, _), (2, _), (1, _), (0, .box [_, _, _, _, _])]) rfl rfl rfl rfl rfl rfl (.inl rfl) rfl ?_
  refine step_r rfl rfl trivial (step_nil (seqK_n (sem_ret ?_)))
  have e : openD id item til units = (⟨id, item, til, units, List.replicate units.length 0⟩, 0) := if_pos (by assumption)
  rw [e]
  exact answersGR [] [1, 2] rfl ⟨Nat.le_of_ble_eq_true rfl, trivial, trivial⟩ rfl (by (repeat' apply And.intro) <;> first | trivial | rfl | exact flat_len (fun _ => rfl) _ | exact encI_len _ | assumption) (rfl) rfl rfl rfl (by decide) rfl rfl ⟨⟨rfl, rfl⟩, ⟨rfl, rfl⟩, trivial⟩

theorem openR_ok (id : Int) (item : Int) (til : Int) (units : List Int) (units_f : Bool) (hu : units.length ≤ 16777216) : Ok Try.prog 13 [I id, I item, I til, .pv (.slc units.length units_f (encI units))] [] (.tup [.agg [I (openD id item til units).1.Id, I (openD id item til units).1.Item, I (openD id item til units).1.Until, .ref 0 1 0 (openD id item til units).1.Units.length, .ref 1 1 0 (openD id item til units).1.Choices.length], I (openD id item til units).2]) [.row 3 1 (encI (openD id item til units).1.Units), .row 3 1 (encI (openD id item til units).1.Choices)] [] := by
 refine Ok.len fun hlen => ?_
 have hl_units : units.length ≤ maxLen := hlen _ (by simp [lensL, lens, lensP])
 unfold maxLen at hl_units
 refine ok_of_sem Try.func13 rfl ?_
 show Walks Try.prog _ _ ⟨[(0, I id), (1, I item), (2, I til), (3, .pv (.slc units.length units_f (encI units)))], [], 0, [], 32, 0⟩
 refine sem_seq (sem_region rfl (step_n (o := .box [_, _, _, _, _]) (nx' := 1) rfl rfl rfl trivial (step_r rfl rfl trivial (step_nil (seqK_n (sem_seq (sem_seq (sem_region rfl (step_r rfl rfl trivial (step_r rfl rfl trivial (step_bin rfl rfl rfl rfl rfl trivial ?_)))))))))))
 refine step_nil (seqK_n ?_)
 refine sem_cond rfl (fun h1 => ?_) (fun h1 => ?_)
 ·have g1 := h1
  try simp at g1
  refine sem_seq (sem_region rfl (step_r (v := (.agg [_, _, _, _, _])) rfl rfl trivial ?_))
  refine step_storeB (H' := [(0, .box [_, _, _, _, _])]) rfl rfl rfl rfl rfl rfl (.inl rfl) rfl ?_
  refine step_r rfl rfl trivial (step_nil (seqK_n ?_))
  refine sem_trans (Trans.virt (T' := [(8, .ptr 0 0), (9, I 1)]) (H' := [(0, .box [I 0, I 0, I 0, .ref 1 1 0 0, .pv (.slc 0 true [])])]) 3 1 rfl ⟨⟨rfl, rfl⟩, ⟨rfl, rfl⟩, trivial⟩ ⟨⟨rfl, rfl⟩, trivial⟩) ?_
  refine sem_trans (Trans.virt (T' := [(8, .ptr 0 0), (9, I 1)]) (H' := [(0, .box [I 0, I 0, I 0, .ref 1 1 0 0, .ref 2 1 0 0]), (1, .row 3 1 [])]) 3 1 rfl ⟨⟨rfl, rfl⟩, ⟨rfl, rfl⟩, trivial⟩ ⟨⟨rfl, rfl⟩, ⟨rfl, rfl⟩, trivial⟩) ?_
  refine sem_ret (seqK_r ?_)
  have e : openD id item til units = (d0, 1) := if_neg (by first | assumption | (intro h; exact absurd h.2.2.1 (by simp only; omega)))
  rw [e]
  exact answersGR [] [1, 2] rfl ⟨Nat.le_of_ble_eq_true rfl, trivial, trivial⟩ rfl (by (repeat' apply And.intro) <;> first | trivial | rfl | exact flat_len (fun _ => rfl) _ | exact encI_len _ | assumption) (rfl) rfl rfl rfl (by decide) rfl rfl ⟨⟨rfl, rfl⟩, ⟨rfl, rfl⟩, trivial⟩
 ·have g1 := h1
  try simp at g1
  refine sem_skip (seqK_n (sem_seq ?_))
  refine sem_drawnE [(5, 2), (5, 1), (5, 0)] rfl (by decide +kernel) (by decide +kernel) rfl ?_
  refine step_r rfl rfl trivial (step_r rfl rfl trivial (step_r rfl rfl trivial (step_r rfl rfl ⟨by decide, rfl⟩ (step_r rfl rfl trivial ?_))))
  refine step_appendN (m := units.length) (new := encI units) (cs' := encI units) (n' := units.length) rfl rfl (rfl) rfl rfl rfl rfl rfl rfl (encI_len units) (by first | decide | (unfold maxGrow; omega) | (unfold maxGrow; simp; omega) | (unfold maxGrow; simp only [List.length_append, List.length_take, List.length_drop, List.length_cons, List.length_nil, IntKind.wrap_i64] at *; omega)) rfl rfl rfl rfl ?_
  refine step_r rfl rfl trivial (step_r rfl rfl trivial ?_)
  refine step_mkS (sz := 1) (n := units.length) (n' := (List.replicate units.length (0 : Int)).length) (cs := encI (List.replicate units.length (0 : Int))) rfl rfl rfl rfl rfl rfl rfl (by unfold maxGrow; omega) (repeatZ_map _) (List.length_replicate ..).symm rfl rfl ?_
  refine step_r (v := (.agg [_, _, _, _, _])) rfl rfl trivial (step_n (o := .box [_, _, _, _, _]) (nx' := 4) rfl rfl rfl trivial ?_)
  refine step_storeB (H' := [(3, .box [_, _, _, _, _]), (2, _), (1, _), (0, _)]) rfl rfl rfl rfl rfl rfl (.inr (by decide +kernel)) rfl ?_
  refine step_nil (seqK_n (sem_seq (sem_region rfl (step_r (v := (.agg [_, _, _, _, _])) rfl rfl (Nat.le_of_ble_eq_true rfl) ?_))))
  refine step_callJ (Hin := [.row _ _ _, .row _ _ _]) (H' := [(3, _), (2, _), (1, _), (0, _)]) (nx' := 4) [1, 2] rfl rfl rfl rfl rfl rfl rfl rfl rfl (by (repeat' apply And.intro) <;> first | trivial | rfl | exact flat_len (fun _ => rfl) _ | exact encI_len _ | exact Nat.le_of_ble_eq_true rfl | assumption) (rightDR_ok (⟨id, item, til, units, (List.replicate units.length (0 : Int))⟩ : GDrop)) rfl (by decide) rfl rfl trivial rfl rfl rfl rfl ?_
  refine step_r rfl rfl trivial (step_nil (seqK_n (sem_seq (sem_seq (sem_region rfl (step_r rfl rfl trivial (step_r rfl rfl trivial (step_nil (seqK_n ?_)))))))))
  refine sem_cond rfl (fun h6 => ?_) (fun h6 => ?_)
  ·have g6 := h6
   try simp at g6
   refine sem_seq (sem_region rfl (step_r (v := (.agg [_, _, _, _, _])) rfl rfl trivial ?_))
   refine step_storeB (H' := [(3, _), (2, _), (1, _), (0, .box [_, _, _, _, _])]) rfl rfl rfl rfl rfl rfl (.inl rfl) rfl ?_
   refine step_r rfl rfl trivial (step_nil (seqK_n ?_))
   refine sem_trans (Trans.virt (T' := [(8, .ptr 0 0), (9, I 1)]) (H' := [(0, .box [I 0, I 0, I 0, .ref 4 1 0 0, .pv (.slc 0 true [])])]) 3 1 rfl ⟨⟨rfl, rfl⟩, ⟨rfl, rfl⟩, trivial⟩ ⟨⟨rfl, rfl⟩, trivial⟩) ?_
   refine sem_trans (Trans.virt (T' := [(8, .ptr 0 0), (9, I 1)]) (H' := [(0, .box [I 0, I 0, I 0, .ref 4 1 0 0, .ref 5 1 0 0]), (4, .row 3 1 [])]) 3 1 rfl ⟨⟨rfl, rfl⟩, ⟨rfl, rfl⟩, trivial⟩ ⟨⟨rfl, rfl⟩, ⟨rfl, rfl⟩, trivial⟩) ?_
   refine sem_ret (seqK_r ?_)
   have e : openD id item til units = (d0, 1) := if_neg (by first | assumption | (intro h; exact absurd h.2.2.1 (by simp only; omega)))
   rw [e]
   exact answersGR [] [4, 5] rfl ⟨Nat.le_of_ble_eq_true rfl, trivial, trivial⟩ rfl (by (repeat' apply And.intro) <;> first | trivial | rfl | exact flat_len (fun _ => rfl) _ | exact encI_len _ | assumption) (rfl) rfl rfl rfl (by decide) rfl rfl ⟨⟨rfl, rfl⟩, ⟨rfl, rfl⟩, trivial⟩
  ·have g6 := h6
   try simp at g6
   refine sem_skip (seqK_n (sem_seq (sem_region rfl (step_r (v := (.agg [_, _, _, _, _])) rfl rfl (Nat.le_of_ble_eq_true rfl) ?_))))
   refine step_storeB (H' := [(3, _), (2, _), (1, _), (0, .box [_, _, _, _, _])]) rfl rfl rfl rfl rfl rfl (.inl rfl) rfl ?_
   refine step_r rfl rfl trivial (step_nil (seqK_n (sem_ret ?_)))
   have e : openD id item til units = (⟨id, item, til, units, List.replicate units.length 0⟩, 0) := if_pos (by assumption)
   rw [e]
   exact answersGR [] [1, 2] rfl ⟨Nat.le_of_ble_eq_true rfl, trivial, trivial⟩ rfl (by (repeat' apply And.intro) <;> first | trivial | rfl | exact flat_len (fun _ => rfl) _ | exact encI_len _ | assumption) (rfl) rfl rfl rfl (by decide) rfl rfl ⟨⟨rfl, rfl⟩, ⟨rfl, rfl⟩, trivial⟩

theorem choose_ok (d : GDrop) (unit : Int) (what : Int) (now : Int) : Ok Try.prog 10 [aGDrop d, I unit, I what, I now] [] (.tup [.agg [I (chooseD d unit what now).1.Id, I (chooseD d unit what now).1.Item, I (chooseD d unit what now).1.Until, .ref 0 1 0 (chooseD d unit what now).1.Units.length, .ref 1 1 0 (chooseD d unit what now).1.Choices.length], I (chooseD d unit what now).2]) [.row 3 1 (encI (chooseD d unit what now).1.Units), .row 3 1 (encI (chooseD d unit what now).1.Choices)] [] := by
 refine Ok.len fun hlen => ?_
 have hl_d_Units : d.Units.length ≤ maxLen := hlen _ (by simp [lensL, lens, lensP])
 have hl_d_Choices : d.Choices.length ≤ maxLen := hlen _ (by simp [lensL, lens, lensP])
 unfold maxLen at hl_d_Units hl_d_Choices
 refine ok_of_sem Try.func10 rfl ?_
 show Walks Try.prog _ _ ⟨[(0, aGDrop d), (1, I unit), (2, I what), (3, I now)], [], 0, [], 54, 0⟩
 refine sem_seq (sem_region rfl (step_n (o := .box [_, _, _, _, _]) (nx' := 1) rfl rfl rfl trivial (step_n (o := .box [_, _, _, _, _]) (nx' := 2) rfl rfl rfl trivial (step_r rfl rfl trivial (step_nil (seqK_n (sem_seq (sem_seq (sem_region rfl (step_r (v := (.agg [_, _, _, _, _])) rfl rfl (Nat.le_of_ble_eq_true rfl) (step_call rfl rfl rfl rfl (rightD_ok d) rfl rfl rfl ?_)))))))))))
 refine step_r rfl rfl trivial (step_r rfl rfl trivial ?_)
 refine step_gs rfl (fun h2 => ?_) (fun h2 => ?_)
 ·have g2 := h2
  try simp at g2
  refine step_g0 rfl h2 rfl (step_g0 rfl h2 rfl (step_g0 rfl h2 rfl (step_pickT rfl h2 rfl rfl (step_r rfl rfl trivial (step_gf rfl rfl (step_gf rfl rfl (step_r rfl rfl trivial (step_nil (seqK_n (sem_condT rfl (sem_seq ?_)))))))))))
  refine sem_region rfl (step_r (v := (.agg [_, _, _, _, _])) rfl rfl trivial ?_)
  refine step_storeB (H' := [(1, .box [_, _, _, _, _]), (0, _)]) rfl rfl rfl rfl rfl rfl (.inl rfl) rfl ?_
  refine step_r rfl rfl trivial (step_nil (seqK_n ?_))
  refine sem_trans (Trans.virt (T' := [(8, .ptr 1 0), (9, I 1)]) (H' := [(1, .box [I 0, I 0, I 0, .ref 2 1 0 0, .pv (.slc 0 true [])])]) 3 1 rfl ⟨⟨rfl, rfl⟩, ⟨rfl, rfl⟩, trivial⟩ ⟨⟨rfl, rfl⟩, trivial⟩) ?_
  refine sem_trans (Trans.virt (T' := [(8, .ptr 1 0), (9, I 1)]) (H' := [(1, .box [I 0, I 0, I 0, .ref 2 1 0 0, .ref 3 1 0 0]), (2, .row 3 1 [])]) 3 1 rfl ⟨⟨rfl, rfl⟩, ⟨rfl, rfl⟩, trivial⟩ ⟨⟨rfl, rfl⟩, ⟨rfl, rfl⟩, trivial⟩) ?_
  refine sem_ret (seqK_r ?_)
  have e : chooseD d unit what now = (d0, 1) := by
   unfold chooseD; rw [if_pos]
   first | (left; assumption) | (right; omega)
  rw [e]
  exact answersGR [] [2, 3] rfl ⟨Nat.le_of_ble_eq_true rfl, trivial, trivial⟩ rfl (by (repeat' apply And.intro) <;> first | trivial | rfl | exact flat_len (fun _ => rfl) _ | exact encI_len _ | assumption) (rfl) rfl rfl rfl (by decide) rfl rfl ⟨⟨rfl, rfl⟩, ⟨rfl, rfl⟩, trivial⟩
 ·have g2 := h2
  try simp at g2
  refine step_g1 rfl h2 (step_r rfl rfl trivial (step_g1 rfl h2 (step_call rfl rfl rfl rfl (choice_ok what) rfl rfl rfl (step_g1 rfl h2 (step_r rfl rfl trivial (step_pickF rfl h2 rfl rfl (step_r rfl rfl trivial ?_)))))))
  refine step_gs rfl (fun h5 => ?_) (fun h5 => ?_)
  ·have g5 := h5
   try simp at g5
   refine step_g0 rfl h5 rfl (step_g0 rfl h5 rfl (step_pickT rfl h5 rfl rfl (step_nil (seqK_n (sem_condT rfl (sem_seq (sem_region rfl (step_r (v := (.agg [_, _, _, _, _])) rfl rfl trivial ?_))))))))
   refine step_storeB (H' := [(1, .box [_, _, _, _, _]), (0, _)]) rfl rfl rfl rfl rfl rfl (.inl rfl) rfl ?_
   refine step_r rfl rfl trivial (step_nil (seqK_n ?_))
   refine sem_trans (Trans.virt (T' := [(8, .ptr 1 0), (9, I 1)]) (H' := [(1, .box [I 0, I 0, I 0, .ref 2 1 0 0, .pv (.slc 0 true [])])]) 3 1 rfl ⟨⟨rfl, rfl⟩, ⟨rfl, rfl⟩, trivial⟩ ⟨⟨rfl, rfl⟩, trivial⟩) ?_
   refine sem_trans (Trans.virt (T' := [(8, .ptr 1 0), (9, I 1)]) (H' := [(1, .box [I 0, I 0, I 0, .ref 2 1 0 0, .ref 3 1 0 0]), (2, .row 3 1 [])]) 3 1 rfl ⟨⟨rfl, rfl⟩, ⟨rfl, rfl⟩, trivial⟩ ⟨⟨rfl, rfl⟩, ⟨rfl, rfl⟩, trivial⟩) ?_
   refine sem_ret (seqK_r ?_)
   have e : chooseD d unit what now = (d0, 1) := by
    unfold chooseD; rw [if_pos]
    first | (left; assumption) | (right; omega)
   rw [e]
   exact answersGR [] [2, 3] rfl ⟨Nat.le_of_ble_eq_true rfl, trivial, trivial⟩ rfl (by (repeat' apply And.intro) <;> first | trivial | rfl | exact flat_len (fun _ => rfl) _ | exact encI_len _ | assumption) (rfl) rfl rfl rfl (by decide) rfl rfl ⟨⟨rfl, rfl⟩, ⟨rfl, rfl⟩, trivial⟩
  ·have g5 := h5
   try simp at g5
   refine step_g1 rfl h5 (step_r rfl rfl trivial (step_g1 rfl h5 (step_bin rfl rfl rfl rfl rfl trivial (step_pickF rfl h5 rfl rfl (step_nil (seqK_n ?_))))))
   refine sem_cond rfl (fun h7 => ?_) (fun h7 => ?_)
   ·have g7 := h7
    try simp at g7
    refine sem_seq (sem_region rfl (step_r (v := (.agg [_, _, _, _, _])) rfl rfl trivial ?_))
    refine step_storeB (H' := [(1, .box [_, _, _, _, _]), (0, _)]) rfl rfl rfl rfl rfl rfl (.inl rfl) rfl ?_
    refine step_r rfl rfl trivial (step_nil (seqK_n ?_))
    refine sem_trans (Trans.virt (T' := [(8, .ptr 1 0), (9, I 1)]) (H' := [(1, .box [I 0, I 0, I 0, .ref 2 1 0 0, .pv (.slc 0 true [])])]) 3 1 rfl ⟨⟨rfl, rfl⟩, ⟨rfl, rfl⟩, trivial⟩ ⟨⟨rfl, rfl⟩, trivial⟩) ?_
    refine sem_trans (Trans.virt (T' := [(8, .ptr 1 0), (9, I 1)]) (H' := [(1, .box [I 0, I 0, I 0, .ref 2 1 0 0, .ref 3 1 0 0]), (2, .row 3 1 [])]) 3 1 rfl ⟨⟨rfl, rfl⟩, ⟨rfl, rfl⟩, trivial⟩ ⟨⟨rfl, rfl⟩, ⟨rfl, rfl⟩, trivial⟩) ?_
    refine sem_ret (seqK_r ?_)
    have e : chooseD d unit what now = (d0, 1) := by
     unfold chooseD; rw [if_pos]
     first | (left; assumption) | (right; omega)
    rw [e]
    exact answersGR [] [2, 3] rfl ⟨Nat.le_of_ble_eq_true rfl, trivial, trivial⟩ rfl (by (repeat' apply And.intro) <;> first | trivial | rfl | exact flat_len (fun _ => rfl) _ | exact encI_len _ | assumption) (rfl) rfl rfl rfl (by decide) rfl rfl ⟨⟨rfl, rfl⟩, ⟨rfl, rfl⟩, trivial⟩
   ·have g7 := h7
    try simp at g7
    have c1 : ¬ (¬ rightD d ∨ what < 1 ∨ what > 3) := by
     have hr : rightD d := by assumption
     simp only [not_or, Decidable.not_not]
     exact ⟨hr, by omega, by omega⟩
    have hlen : d.Choices.length = d.Units.length := by simp only [not_or, Decidable.not_not] at c1; exact c1.1.2.2.2.1
    have hu40 : d.Units.length ≤ 40 := by simp only [not_or, Decidable.not_not] at c1; exact c1.1.2.2.1
    refine sem_skip (seqK_n (sem_seq (sem_region rfl (step_r rfl rfl (by decide) (step_r rfl rfl trivial (step_r rfl rfl trivial (step_call rfl rfl rfl rfl (ix_Int d.Units false unit) rfl rfl rfl (step_r rfl rfl trivial (step_nil (seqK_n (sem_seq ?_)))))))))))
    refine sem_block (sem_seq (sem_region rfl (step_r rfl rfl trivial (step_bin rfl rfl rfl rfl rfl trivial (step_r rfl rfl trivial (step_nil (seqK_n ?_)))))))
    refine sem_cond rfl (fun h11 => ?_) (fun h11 => ?_)
    ·have g11 := h11
     try simp at g11
     have c20 : fidx (fun x => unit == x) d.Units < 0 := by omega
     refine sem_seq (sem_region rfl (step_r (v := (.agg [_, _, _, _, _])) rfl rfl trivial ?_))
     refine step_storeB (H' := [(1, .box [_, _, _, _, _]), (0, _)]) rfl rfl rfl rfl rfl rfl (.inl rfl) rfl ?_
     refine step_r rfl rfl trivial (step_nil (seqK_n ?_))
     refine sem_trans (Trans.virt (T' := [(8, .ptr 1 0), (9, I 12)]) (H' := [(1, .box [I 0, I 0, I 0, .ref 2 1 0 0, .pv (.slc 0 true [])])]) 3 1 rfl ⟨⟨rfl, rfl⟩, ⟨rfl, rfl⟩, trivial⟩ ⟨⟨rfl, rfl⟩, trivial⟩) ?_
     refine sem_trans (Trans.virt (T' := [(8, .ptr 1 0), (9, I 12)]) (H' := [(1, .box [I 0, I 0, I 0, .ref 2 1 0 0, .ref 3 1 0 0]), (2, .row 3 1 [])]) 3 1 rfl ⟨⟨rfl, rfl⟩, ⟨rfl, rfl⟩, trivial⟩ ⟨⟨rfl, rfl⟩, ⟨rfl, rfl⟩, trivial⟩) ?_
     refine sem_ret (blkK_r (seqK_r ?_))
     have e : chooseD d unit what now = (d0, 12) := by unfold chooseD; rw [if_neg c1, if_pos c20]
     rw [e]
     exact answersGR [] [2, 3] rfl ⟨Nat.le_of_ble_eq_true rfl, trivial, trivial⟩ rfl (by (repeat' apply And.intro) <;> first | trivial | rfl | exact flat_len (fun _ => rfl) _ | exact encI_len _ | assumption) (rfl) rfl rfl rfl (by decide) rfl rfl ⟨⟨rfl, rfl⟩, ⟨rfl, rfl⟩, trivial⟩
    ·have g11 := h11
     try simp at g11
     obtain ⟨k, x, e1, hx, e3, e4⟩ := (fidx_cases (fun x => unit == x) d.Units).resolve_left (by rintro ⟨h, _⟩; omega)
     have hk : k < d.Units.length := (List.getElem?_eq_some_iff.1 hx).1
     have hkc : k < d.Choices.length := by omega
     obtain ⟨c, hc⟩ : ∃ z_, d.Choices[k]? = some z_ := ⟨_, List.getElem?_eq_getElem hkc⟩
     have c2 : ¬ fidx (fun x => unit == x) d.Units < 0 := by omega
     have hgc : d.Choices.getD (fidx (fun x => unit == x) d.Units).toNat 0 = c := by rw [e1]; simp [List.getD, hc]
     rw [e1]
     refine sem_seq (sem_region rfl (step_r rfl rfl trivial (step_r rfl rfl (by decide) (step_r rfl rfl trivial (step_bin rfl rfl rfl rfl rfl trivial (step_r rfl rfl trivial (step_nil (seqK_n ?_))))))))
     refine sem_cond rfl (fun h14 => ?_) (fun h14 => ?_)
     ·have g14 := h14
      try simp at g14
      refine sem_seq (sem_region rfl (step_r (v := (.agg [_, _, _, _, _])) rfl rfl trivial ?_))
      refine step_storeB (H' := [(1, .box [_, _, _, _, _]), (0, _)]) rfl rfl rfl rfl rfl rfl (.inl rfl) rfl ?_
      refine step_r rfl rfl trivial (step_nil (seqK_n ?_))
      refine sem_trans (Trans.virt (T' := [(8, .ptr 1 0), (9, I 14)]) (H' := [(1, .box [I 0, I 0, I 0, .ref 2 1 0 0, .pv (.slc 0 true [])])]) 3 1 rfl ⟨⟨rfl, rfl⟩, ⟨rfl, rfl⟩, trivial⟩ ⟨⟨rfl, rfl⟩, trivial⟩) ?_
      refine sem_trans (Trans.virt (T' := [(8, .ptr 1 0), (9, I 14)]) (H' := [(1, .box [I 0, I 0, I 0, .ref 2 1 0 0, .ref 3 1 0 0]), (2, .row 3 1 [])]) 3 1 rfl ⟨⟨rfl, rfl⟩, ⟨rfl, rfl⟩, trivial⟩ ⟨⟨rfl, rfl⟩, ⟨rfl, rfl⟩, trivial⟩) ?_
      refine sem_ret (blkK_r (seqK_r ?_))
      have e : chooseD d unit what now = (d0, 14) := by unfold chooseD; rw [if_neg c1, if_neg c2, if_pos (by omega)]
      rw [e]
      exact answersGR [] [2, 3] rfl ⟨Nat.le_of_ble_eq_true rfl, trivial, trivial⟩ rfl (by (repeat' apply And.intro) <;> first | trivial | rfl | exact flat_len (fun _ => rfl) _ | exact encI_len _ | assumption) (rfl) rfl rfl rfl (by decide) rfl rfl ⟨⟨rfl, rfl⟩, ⟨rfl, rfl⟩, trivial⟩
     ·have g14 := h14
      try simp at g14
      refine sem_seq (sem_region rfl (step_r rfl rfl (by decide) (step_r rfl rfl trivial (step_r rfl rfl trivial (step_idxS (k := k) rfl rfl rfl rfl hkc (encI_ne hkc) rfl (step_load_one rfl rfl rfl (encI_get hc) rfl (step_bin rfl rfl rfl rfl rfl trivial (step_r rfl rfl trivial (step_nil (seqK_n ?_))))))))))
      refine sem_cond rfl (fun h16 => ?_) (fun h16 => ?_)
      ·have g16 := h16
       try simp at g16
       refine sem_seq (sem_region rfl (step_r (v := (.agg [_, _, _, _, _])) rfl rfl trivial ?_))
       refine step_storeB (H' := [(1, .box [_, _, _, _, _]), (0, _)]) rfl rfl rfl rfl rfl rfl (.inl rfl) rfl ?_
       refine step_r rfl rfl trivial (step_nil (seqK_n ?_))
       refine sem_trans (Trans.virt (T' := [(8, .ptr 1 0), (9, I 7)]) (H' := [(1, .box [I 0, I 0, I 0, .ref 2 1 0 0, .pv (.slc 0 true [])])]) 3 1 rfl ⟨⟨rfl, rfl⟩, ⟨rfl, rfl⟩, trivial⟩ ⟨⟨rfl, rfl⟩, trivial⟩) ?_
       refine sem_trans (Trans.virt (T' := [(8, .ptr 1 0), (9, I 7)]) (H' := [(1, .box [I 0, I 0, I 0, .ref 2 1 0 0, .ref 3 1 0 0]), (2, .row 3 1 [])]) 3 1 rfl ⟨⟨rfl, rfl⟩, ⟨rfl, rfl⟩, trivial⟩ ⟨⟨rfl, rfl⟩, ⟨rfl, rfl⟩, trivial⟩) ?_
       refine sem_ret (blkK_r (seqK_r ?_))
       have e : chooseD d unit what now = (d0, 7) := by unfold chooseD; rw [if_neg c1, if_neg c2, if_neg (by omega), if_pos (by rw [hgc]; assumption)]
       rw [e]
       exact answersGR [] [2, 3] rfl ⟨Nat.le_of_ble_eq_true rfl, trivial, trivial⟩ rfl (by (repeat' apply And.intro) <;> first | trivial | rfl | exact flat_len (fun _ => rfl) _ | exact encI_len _ | assumption) (rfl) rfl rfl rfl (by decide) rfl rfl ⟨⟨rfl, rfl⟩, ⟨rfl, rfl⟩, trivial⟩
      ·have g16 := h16
       try simp at g16
       refine sem_skip (blkK_n (seqK_n (sem_seq (sem_region rfl (step_r (v := (.agg [_, _, _, _, _])) rfl rfl (Nat.le_of_ble_eq_true rfl) ?_)))))
       refine step_callJ (Hin := []) (out' := .agg [_, _, _, .ref 2 _ _ _, .ref 3 _ _ _]) (H' := [(2, .row _ _ _), (3, .row _ _ _), (1, _), (0, _)]) (nx' := 4) [] rfl rfl rfl rfl rfl rfl rfl rfl rfl (by (repeat' apply And.intro) <;> first | trivial | rfl | exact flat_len (fun _ => rfl) _ | exact encI_len _ | exact Nat.le_of_ble_eq_true rfl | assumption) (copyD_ok d (by first | omega | assumption | decide +kernel | (simp; done) | (simp; omega) | simp_all) (by first | omega | assumption | decide +kernel | (simp; done) | (simp; omega) | simp_all)) rfl (by decide) rfl rfl ⟨encI_solid, encI_solid, trivial⟩ rfl rfl rfl rfl ?_
       refine step_storeB (H' := [(2, _), (3, _), (1, _), (0, .box [_, _, _, _, _])]) rfl rfl rfl rfl rfl rfl (.inl rfl) rfl ?_
       refine step_nil (seqK_n (sem_seq (sem_region rfl (step_r rfl rfl (by decide) (step_r rfl rfl trivial (step_r rfl rfl trivial (step_r rfl rfl trivial ?_)))))))
       have jk17 : k < d.Choices.length := by first | assumption | omega | (simp only [List.length_set]; omega) | (simp; omega) | simp_all
       obtain ⟨y17, jx17⟩ : ∃ z_, d.Choices[k]? = some z_ := ⟨_, List.getElem?_eq_getElem jk17⟩
       refine step_idxR (k := k) rfl rfl rfl rfl jk17 rfl ?_
       refine step_storeR rfl rfl rfl rfl (by have := jk17; simp [encI]; omega) (encI_set d.Choices k what) (.inl rfl) rfl ?_
       refine step_nil (seqK_n (sem_seq (sem_region rfl (step_r (v := (.agg [_, _, _, _, _])) rfl rfl (Nat.le_of_ble_eq_true rfl) ?_))))
       refine step_storeB (H' := [(2, _), (3, _), (1, .box [_, _, _, _, _]), (0, _)]) rfl rfl rfl rfl rfl rfl (.inl rfl) rfl ?_
       refine step_r rfl rfl trivial (step_nil (seqK_n (sem_ret ?_)))
       have e : chooseD d unit what now = ({ d with Choices := d.Choices.set k what }, 0) := by unfold chooseD; rw [if_neg c1, if_neg c2, if_neg (by omega), if_neg (by rw [hgc]; omega), e1]; rfl
       rw [e]
       have el : (d.Choices.set k what).length = d.Choices.length := List.length_set ..
       simp only [el]
       exact answersGR [] [2, 3] rfl ⟨Nat.le_of_ble_eq_true rfl, trivial, trivial⟩ rfl (by (repeat' apply And.intro) <;> first | trivial | rfl | exact flat_len (fun _ => rfl) _ | exact encI_len _ | assumption) (rfl) rfl rfl rfl (by decide) rfl rfl ⟨⟨rfl, rfl⟩, ⟨rfl, rfl⟩, trivial⟩

theorem chooseR_ok (d : GDrop) (unit : Int) (what : Int) (now : Int) : Ok Try.prog 11 [aGDrop d, I unit, I what, I now] [] (.tup [.agg [I (chooseD d unit what now).1.Id, I (chooseD d unit what now).1.Item, I (chooseD d unit what now).1.Until, .ref 0 1 0 (chooseD d unit what now).1.Units.length, .ref 1 1 0 (chooseD d unit what now).1.Choices.length], I (chooseD d unit what now).2]) [.row 3 1 (encI (chooseD d unit what now).1.Units), .row 3 1 (encI (chooseD d unit what now).1.Choices)] [] := by
 refine Ok.len fun hlen => ?_
 have hl_d_Units : d.Units.length ≤ maxLen := hlen _ (by simp [lensL, lens, lensP])
 have hl_d_Choices : d.Choices.length ≤ maxLen := hlen _ (by simp [lensL, lens, lensP])
 unfold maxLen at hl_d_Units hl_d_Choices
 refine ok_of_sem Try.func11 rfl ?_
 show Walks Try.prog _ _ ⟨[(0, aGDrop d), (1, I unit), (2, I what), (3, I now)], [], 0, [], 60, 0⟩
 refine sem_seq (sem_region rfl (step_n (o := .box [_, _, _, _, _]) (nx' := 1) rfl rfl rfl trivial (step_n (o := .box [_, _, _, _, _]) (nx' := 2) rfl rfl rfl trivial (step_r rfl rfl trivial (step_nil (seqK_n (sem_seq (sem_region rfl (step_r (v := (.agg [_, _, _, _, _])) rfl rfl (Nat.le_of_ble_eq_true rfl) (step_call rfl rfl rfl rfl (rightDR_ok d) rfl rfl rfl (step_r rfl rfl trivial ?_)))))))))))
 refine step_nil (seqK_n (sem_seq (sem_seq (sem_region rfl (step_r rfl rfl trivial (step_r rfl rfl trivial (step_r rfl rfl trivial ?_)))))))
 refine step_gs rfl (fun h3 => ?_) (fun h3 => ?_)
 ·have g3 := h3
  try simp at g3
  refine step_g0 rfl h3 rfl (step_g0 rfl h3 rfl (step_pickT rfl h3 rfl rfl (step_r rfl rfl trivial (step_gf rfl rfl (step_gf rfl rfl (step_r rfl rfl trivial (step_nil (seqK_n (sem_condT rfl (sem_seq (sem_region rfl ?_)))))))))))
  refine step_r (v := (.agg [_, _, _, _, _])) rfl rfl trivial ?_
  refine step_storeB (H' := [(1, .box [_, _, _, _, _]), (0, _)]) rfl rfl rfl rfl rfl rfl (.inl rfl) rfl ?_
  refine step_r rfl rfl trivial (step_nil (seqK_n ?_))
  refine sem_trans (Trans.virt (T' := [(8, .ptr 1 0), (9, I 1)]) (H' := [(1, .box [I 0, I 0, I 0, .ref 2 1 0 0, .pv (.slc 0 true [])])]) 3 1 rfl ⟨⟨rfl, rfl⟩, ⟨rfl, rfl⟩, trivial⟩ ⟨⟨rfl, rfl⟩, trivial⟩) ?_
  refine sem_trans (Trans.virt (T' := [(8, .ptr 1 0), (9, I 1)]) (H' := [(1, .box [I 0, I 0, I 0, .ref 2 1 0 0, .ref 3 1 0 0]), (2, .row 3 1 [])]) 3 1 rfl ⟨⟨rfl, rfl⟩, ⟨rfl, rfl⟩, trivial⟩ ⟨⟨rfl, rfl⟩, ⟨rfl, rfl⟩, trivial⟩) ?_
  refine sem_ret (seqK_r ?_)
  have e : chooseD d unit what now = (d0, 1) := by
   unfold chooseD; rw [if_pos]
   first | (left; assumption) | (right; omega)
  rw [e]
  exact answersGR [] [2, 3] rfl ⟨Nat.le_of_ble_eq_true rfl, trivial, trivial⟩ rfl (by (repeat' apply And.intro) <;> first | trivial | rfl | exact flat_len (fun _ => rfl) _ | exact encI_len _ | assumption) (rfl) rfl rfl rfl (by decide) rfl rfl ⟨⟨rfl, rfl⟩, ⟨rfl, rfl⟩, trivial⟩
 ·have g3 := h3
  try simp at g3
  refine step_g1 rfl h3 (step_r rfl rfl trivial (step_g1 rfl h3 (step_bin rfl rfl rfl rfl rfl trivial (step_pickF rfl h3 rfl rfl (step_r rfl rfl trivial ?_)))))
  refine step_gs rfl (fun h6 => ?_) (fun h6 => ?_)
  ·have g6 := h6
   try simp at g6
   refine step_g0 rfl h6 rfl (step_g0 rfl h6 rfl (step_pickT rfl h6 rfl rfl (step_nil (seqK_n (sem_condT rfl (sem_seq (sem_region rfl (step_r (v := (.agg [_, _, _, _, _])) rfl rfl trivial ?_))))))))
   refine step_storeB (H' := [(1, .box [_, _, _, _, _]), (0, _)]) rfl rfl rfl rfl rfl rfl (.inl rfl) rfl ?_
   refine step_r rfl rfl trivial (step_nil (seqK_n ?_))
   refine sem_trans (Trans.virt (T' := [(8, .ptr 1 0), (9, I 1)]) (H' := [(1, .box [I 0, I 0, I 0, .ref 2 1 0 0, .pv (.slc 0 true [])])]) 3 1 rfl ⟨⟨rfl, rfl⟩, ⟨rfl, rfl⟩, trivial⟩ ⟨⟨rfl, rfl⟩, trivial⟩) ?_
   refine sem_trans (Trans.virt (T' := [(8, .ptr 1 0), (9, I 1)]) (H' := [(1, .box [I 0, I 0, I 0, .ref 2 1 0 0, .ref 3 1 0 0]), (2, .row 3 1 [])]) 3 1 rfl ⟨⟨rfl, rfl⟩, ⟨rfl, rfl⟩, trivial⟩ ⟨⟨rfl, rfl⟩, ⟨rfl, rfl⟩, trivial⟩) ?_
   refine sem_ret (seqK_r ?_)
   have e : chooseD d unit what now = (d0, 1) := by
    unfold chooseD; rw [if_pos]
    first | (left; assumption) | (right; omega)
   rw [e]
   exact answersGR [] [2, 3] rfl ⟨Nat.le_of_ble_eq_true rfl, trivial, trivial⟩ rfl (by (repeat' apply And.intro) <;> first | trivial | rfl | exact flat_len (fun _ => rfl) _ | exact encI_len _ | assumption) (rfl) rfl rfl rfl (by decide) rfl rfl ⟨⟨rfl, rfl⟩, ⟨rfl, rfl⟩, trivial⟩
  ·have g6 := h6
   try simp at g6
   refine step_g1 rfl h6 (step_r rfl rfl trivial (step_g1 rfl h6 (step_bin rfl rfl rfl rfl rfl trivial (step_pickF rfl h6 rfl rfl (step_nil (seqK_n ?_))))))
   refine sem_cond rfl (fun h8 => ?_) (fun h8 => ?_)
   ·have g8 := h8
    try simp at g8
    refine sem_seq (sem_region rfl (step_r (v := (.agg [_, _, _, _, _])) rfl rfl trivial ?_))
    refine step_storeB (H' := [(1, .box [_, _, _, _, _]), (0, _)]) rfl rfl rfl rfl rfl rfl (.inl rfl) rfl ?_
    refine step_r rfl rfl trivial (step_nil (seqK_n ?_))
    refine sem_trans (Trans.virt (T' := [(8, .ptr 1 0), (9, I 1)]) (H' := [(1, .box [I 0, I 0, I 0, .ref 2 1 0 0, .pv (.slc 0 true [])])]) 3 1 rfl ⟨⟨rfl, rfl⟩, ⟨rfl, rfl⟩, trivial⟩ ⟨⟨rfl, rfl⟩, trivial⟩) ?_
    refine sem_trans (Trans.virt (T' := [(8, .ptr 1 0), (9, I 1)]) (H' := [(1, .box [I 0, I 0, I 0, .ref 2 1 0 0, .ref 3 1 0 0]), (2, .row 3 1 [])]) 3 1 rfl ⟨⟨rfl, rfl⟩, ⟨rfl, rfl⟩, trivial⟩ ⟨⟨rfl, rfl⟩, ⟨rfl, rfl⟩, trivial⟩) ?_
    refine sem_ret (seqK_r ?_)
    have e : chooseD d unit what now = (d0, 1) := by
     unfold chooseD; rw [if_pos]
     first | (left; assumption) | (right; omega)
    rw [e]
    exact answersGR [] [2, 3] rfl ⟨Nat.le_of_ble_eq_true rfl, trivial, trivial⟩ rfl (by (repeat' apply And.intro) <;> first | trivial | rfl | exact flat_len (fun _ => rfl) _ | exact encI_len _ | assumption) (rfl) rfl rfl rfl (by decide) rfl rfl ⟨⟨rfl, rfl⟩, ⟨rfl, rfl⟩, trivial⟩
   ·have g8 := h8
    try simp at g8
    have c1 : ¬ (¬ rightD d ∨ what < 1 ∨ what > 3) := by
     have hr : rightD d := by assumption
     simp only [not_or, Decidable.not_not]
     exact ⟨hr, by omega, by omega⟩
    have hlen : d.Choices.length = d.Units.length := by simp only [not_or, Decidable.not_not] at c1; exact c1.1.2.2.2.1
    have hu40 : d.Units.length ≤ 40 := by simp only [not_or, Decidable.not_not] at c1; exact c1.1.2.2.1
    refine sem_skip (seqK_n (sem_seq (sem_region rfl (step_r (v := (.agg [_, _, _, _, _])) rfl rfl (Nat.le_of_ble_eq_true rfl) ?_))))
    refine step_callJ (Hin := []) (out' := .agg [_, _, _, .ref 2 _ _ _, .ref 3 _ _ _]) (H' := [(2, .row _ _ _), (3, .row _ _ _), (1, _), (0, _)]) (nx' := 4) [] rfl rfl rfl rfl rfl rfl rfl rfl rfl (by (repeat' apply And.intro) <;> first | trivial | rfl | exact flat_len (fun _ => rfl) _ | exact encI_len _ | exact Nat.le_of_ble_eq_true rfl | assumption) (copyDR_ok d (by first | omega | assumption | decide +kernel | (simp; done) | (simp; omega) | simp_all) (by first | omega | assumption | decide +kernel | (simp; done) | (simp; omega) | simp_all)) rfl (by decide) rfl rfl ⟨encI_solid, encI_solid, trivial⟩ rfl rfl rfl rfl ?_
    refine step_storeB (H' := [(2, _), (3, _), (1, _), (0, .box [_, _, _, _, _])]) rfl rfl rfl rfl rfl rfl (.inl rfl) rfl ?_
    refine step_nil (seqK_n (sem_seq (sem_seq (sem_region rfl (step_r rfl rfl trivial (step_nil (seqK_n (sem_block ?_))))))))
    refine sem_loop_of (fun k : Nat => (⟨[(1, I unit), (2, I what), (3, I now), (4, .ptr 0 0), (8, .ptr 1 0), (11, I k)], [(0, .box [I d.Id, I d.Item, I d.Until, .ref 2 1 0 d.Units.length, .ref 3 1 0 d.Choices.length]), (1, .box [I 0, I 0, I 0, .pv (.slc 0 true []), .pv (.slc 0 true [])]), (2, .row 3 1 (encI d.Units)), (3, .row 3 1 (encI d.Choices))], 4, [], 60, 0⟩ : St)) (fun k : Nat => k ≤ d.Units.length ∧ ∀ y ∈ d.Units.take k, (unit == y) = false) (fun k : Nat => d.Units.length - k) 0 (⟨Nat.zero_le _, by simp⟩) (less_of rfl ⟨⟨rfl, rfl⟩, ⟨rfl, rfl⟩, ⟨rfl, rfl⟩, ⟨rfl, rfl⟩, ⟨rfl, rfl⟩, ⟨rfl, rfl⟩, trivial⟩ ⟨⟨rfl, rfl, rfl⟩, ⟨rfl, rfl, rfl⟩, ⟨rfl, rfl, rfl⟩, ⟨rfl, rfl, rfl⟩, trivial⟩ (fun _ _ => .inr (Nat.zero_le _))) (fun k hI => ?_)
    show Walks Try.prog _ _ (⟨[(1, I unit), (2, I what), (3, I now), (4, .ptr 0 0), (8, .ptr 1 0), (11, I k)], [(0, .box [I d.Id, I d.Item, I d.Until, .ref 2 1 0 d.Units.length, .ref 3 1 0 d.Choices.length]), (1, .box [I 0, I 0, I 0, .pv (.slc 0 true []), .pv (.slc 0 true [])]), (2, .row 3 1 (encI d.Units)), (3, .row 3 1 (encI d.Choices))], 4, [], 60, 0⟩ : St)
    refine sem_seq (sem_seq (sem_region rfl (step_r rfl rfl trivial (step_r rfl rfl (by decide) (step_r rfl rfl trivial (step_r rfl rfl trivial (step_bin rfl rfl rfl rfl rfl trivial (step_nil (seqK_n ?_)))))))))
    refine sem_cond rfl (fun h10 => ?_) (fun h10 => ?_)
    ·have hk : k < d.Units.length := by have h := of_decide_eq_true h10; omega
     obtain ⟨x, hx⟩ : ∃ x, d.Units[k]? = some x := ⟨_, List.getElem?_eq_getElem hk⟩
     refine sem_skip (seqK_n (sem_seq (sem_block (sem_seq (sem_seq (sem_region rfl (step_r rfl rfl (by decide) (step_r rfl rfl trivial (step_r rfl rfl trivial (step_idxR (k := k) rfl rfl rfl rfl hk rfl ?_))))))))))
     refine step_load_oneR rfl rfl rfl rfl (encI_get hx) rfl ?_
     refine step_r rfl rfl trivial (step_bin rfl rfl rfl rfl rfl trivial (step_nil (seqK_n ?_)))
     refine sem_cond rfl (fun h12 => ?_) (fun h12 => ?_)
     ·have g12 := h12
      try simp at g12
      have e3 : (unit == x) = false := by have h := h12; simp at h; simp; omega
      refine sem_exit (seqK_e (blkK_t rfl (seqK_n (sem_region rfl (step_r rfl rfl trivial (step_bin rfl rfl rfl rfl rfl trivial (step_r rfl rfl trivial (step_nil ?_))))))))
      exact lup_again (k+1) (⟨hk, take_all_snoc (p := fun x => unit == x) hI.2 hx e3⟩) (by omega) (less_of rfl ⟨⟨rfl, rfl⟩, ⟨rfl, rfl⟩, ⟨rfl, rfl⟩, ⟨rfl, rfl⟩, ⟨rfl, rfl⟩, ⟨congrArg (fun n => some (I n)) (wrapK hk (by assumption)), rfl⟩, trivial⟩ ⟨⟨rfl, rfl, rfl⟩, ⟨rfl, rfl, rfl⟩, ⟨rfl, rfl, rfl⟩, ⟨rfl, rfl, rfl⟩, trivial⟩ (fun _ _ => .inr (Nat.zero_le _)))
     ·have g12 := h12
      try simp at g12
      have e3 : (unit == x) = true := by have h := h12; simp at h; simp [h]
      have e1 := fidx_found (p := fun x => unit == x) hI.2 hx e3
      have hkc : k < d.Choices.length := by omega
      obtain ⟨c, hc⟩ : ∃ z_, d.Choices[k]? = some z_ := ⟨_, List.getElem?_eq_getElem hkc⟩
      have c2 : ¬ fidx (fun x => unit == x) d.Units < 0 := by omega
      have hgc : d.Choices.getD (fidx (fun x => unit == x) d.Units).toNat 0 = c := by rw [e1]; simp [List.getD, hc]
      refine sem_skip (seqK_n (sem_seq (sem_seq (sem_region rfl (step_r rfl rfl trivial (step_r rfl rfl (by decide) (step_r rfl rfl trivial (step_bin rfl rfl rfl rfl rfl trivial (step_nil (seqK_n ?_))))))))))
      refine sem_cond rfl (fun h15 => ?_) (fun h15 => ?_)
      ·have g15 := h15
       try simp at g15
       refine sem_seq (sem_region rfl (step_r (v := (.agg [_, _, _, _, _])) rfl rfl trivial ?_))
       refine step_storeB (H' := [(0, _), (1, .box [_, _, _, _, _]), (2, _), (3, _)]) rfl rfl rfl rfl rfl rfl (.inl rfl) rfl ?_
       refine step_r rfl rfl trivial (step_nil (seqK_n ?_))
       refine sem_trans (Trans.virt (T' := [(8, .ptr 1 0), (9, I 14)]) (H' := [(1, .box [I 0, I 0, I 0, .ref 4 1 0 0, .pv (.slc 0 true [])])]) 3 1 rfl ⟨⟨rfl, rfl⟩, ⟨rfl, rfl⟩, trivial⟩ ⟨⟨rfl, rfl⟩, trivial⟩) ?_
       refine sem_trans (Trans.virt (T' := [(8, .ptr 1 0), (9, I 14)]) (H' := [(1, .box [I 0, I 0, I 0, .ref 4 1 0 0, .ref 5 1 0 0]), (4, .row 3 1 [])]) 3 1 rfl ⟨⟨rfl, rfl⟩, ⟨rfl, rfl⟩, trivial⟩ ⟨⟨rfl, rfl⟩, ⟨rfl, rfl⟩, trivial⟩) ?_
       refine sem_ret (seqK_r (blkK_r (seqK_r (lupK_r (blkK_r (seqK_r ?_))))))
       have e : chooseD d unit what now = (d0, 14) := by unfold chooseD; rw [if_neg c1, if_neg c2, if_pos (by omega)]
       rw [e]
       exact answersGR [] [4, 5] rfl ⟨Nat.le_of_ble_eq_true rfl, trivial, trivial⟩ rfl (by (repeat' apply And.intro) <;> first | trivial | rfl | exact flat_len (fun _ => rfl) _ | exact encI_len _ | assumption) (rfl) rfl rfl rfl (by decide) rfl rfl ⟨⟨rfl, rfl⟩, ⟨rfl, rfl⟩, trivial⟩
      ·have g15 := h15
       try simp at g15
       refine sem_skip (seqK_n (sem_seq (sem_seq (sem_region rfl (step_r rfl rfl (by decide) (step_r rfl rfl trivial (step_r rfl rfl trivial (step_idxR (k := k) rfl rfl rfl rfl hkc rfl ?_))))))))
       refine step_load_oneR rfl rfl rfl rfl (encI_get hc) rfl ?_
       refine step_bin rfl rfl rfl rfl rfl trivial (step_nil (seqK_n ?_))
       refine sem_cond rfl (fun h16 => ?_) (fun h16 => ?_)
       ·have g16 := h16
        try simp at g16
        refine sem_seq (sem_region rfl (step_r (v := (.agg [_, _, _, _, _])) rfl rfl trivial ?_))
        refine step_storeB (H' := [(0, _), (1, .box [_, _, _, _, _]), (2, _), (3, _)]) rfl rfl rfl rfl rfl rfl (.inl rfl) rfl ?_
        refine step_r rfl rfl trivial (step_nil (seqK_n ?_))
        refine sem_trans (Trans.virt (T' := [(8, .ptr 1 0), (9, I 7)]) (H' := [(1, .box [I 0, I 0, I 0, .ref 4 1 0 0, .pv (.slc 0 true [])])]) 3 1 rfl ⟨⟨rfl, rfl⟩, ⟨rfl, rfl⟩, trivial⟩ ⟨⟨rfl, rfl⟩, trivial⟩) ?_
        refine sem_trans (Trans.virt (T' := [(8, .ptr 1 0), (9, I 7)]) (H' := [(1, .box [I 0, I 0, I 0, .ref 4 1 0 0, .ref 5 1 0 0]), (4, .row 3 1 [])]) 3 1 rfl ⟨⟨rfl, rfl⟩, ⟨rfl, rfl⟩, trivial⟩ ⟨⟨rfl, rfl⟩, ⟨rfl, rfl⟩, trivial⟩) ?_
        refine sem_ret (seqK_r (blkK_r (seqK_r (lupK_r (blkK_r (seqK_r ?_))))))
        have e : chooseD d unit what now = (d0, 7) := by unfold chooseD; rw [if_neg c1, if_neg c2, if_neg (by omega), if_pos (by rw [hgc]; assumption)]
        rw [e]
        exact answersGR [] [4, 5] rfl ⟨Nat.le_of_ble_eq_true rfl, trivial, trivial⟩ rfl (by (repeat' apply And.intro) <;> first | trivial | rfl | exact flat_len (fun _ => rfl) _ | exact encI_len _ | assumption) (rfl) rfl rfl rfl (by decide) rfl rfl ⟨⟨rfl, rfl⟩, ⟨rfl, rfl⟩, trivial⟩
       ·have g16 := h16
        try simp at g16
        refine sem_skip (seqK_n (sem_seq (sem_region rfl (step_r rfl rfl (by decide) (step_r rfl rfl trivial (step_r rfl rfl trivial (step_r rfl rfl trivial (step_idxR (k := k) rfl rfl rfl rfl hkc rfl ?_))))))))
        refine step_storeR rfl rfl rfl rfl (by have := hkc; simp [encI]; omega) (encI_set d.Choices k what) (.inl rfl) rfl ?_
        refine step_nil (seqK_n (sem_seq (sem_region rfl (step_r (v := (.agg [_, _, _, _, _])) rfl rfl (Nat.le_of_ble_eq_true rfl) ?_))))
        refine step_storeB (H' := [(0, _), (1, .box [_, _, _, _, _]), (2, _), (3, _)]) rfl rfl rfl rfl rfl rfl (.inl rfl) rfl ?_
        refine step_r rfl rfl trivial (step_nil (seqK_n (sem_ret (blkK_r (seqK_r (lupK_r (blkK_r (seqK_r ?_))))))))
        have e : chooseD d unit what now = ({ d with Choices := d.Choices.set k what }, 0) := by unfold chooseD; rw [if_neg c1, if_neg c2, if_neg (by omega), if_neg (by rw [hgc]; omega), e1]; rfl
        rw [e]
        have el : (d.Choices.set k what).length = d.Choices.length := List.length_set ..
        simp only [el]
        exact answersGR [] [2, 3] rfl ⟨Nat.le_of_ble_eq_true rfl, trivial, trivial⟩ rfl (by (repeat' apply And.intro) <;> first | trivial | rfl | exact flat_len (fun _ => rfl) _ | exact encI_len _ | assumption) (rfl) rfl rfl rfl (by decide) rfl rfl ⟨⟨rfl, rfl⟩, ⟨rfl, rfl⟩, trivial⟩
    ·have hk : k = d.Units.length := by have h := of_decide_eq_false h10; have := hI; omega
     have c20 : fidx (fun x => unit == x) d.Units < 0 := by rw [fidx_none (p := fun x => unit == x) hI.2 hk]; decide
     refine sem_exit (seqK_e (lupK_e (blkK_t rfl (seqK_n (sem_seq (sem_region rfl (step_r (v := (.agg [_, _, _, _, _])) rfl rfl trivial ?_)))))))
     refine step_storeB (H' := [(0, _), (1, .box [_, _, _, _, _]), (2, _), (3, _)]) rfl rfl rfl rfl rfl rfl (.inl rfl) rfl ?_
     refine step_r rfl rfl trivial (step_nil (seqK_n ?_))
     refine sem_trans (Trans.virt (T' := [(8, .ptr 1 0), (9, I 12)]) (H' := [(1, .box [I 0, I 0, I 0, .ref 4 1 0 0, .pv (.slc 0 true [])])]) 3 1 rfl ⟨⟨rfl, rfl⟩, ⟨rfl, rfl⟩, trivial⟩ ⟨⟨rfl, rfl⟩, trivial⟩) ?_
     refine sem_trans (Trans.virt (T' := [(8, .ptr 1 0), (9, I 12)]) (H' := [(1, .box [I 0, I 0, I 0, .ref 4 1 0 0, .ref 5 1 0 0]), (4, .row 3 1 [])]) 3 1 rfl ⟨⟨rfl, rfl⟩, ⟨rfl, rfl⟩, trivial⟩ ⟨⟨rfl, rfl⟩, ⟨rfl, rfl⟩, trivial⟩) ?_
     refine sem_ret ?_
     have e : chooseD d unit what now = (d0, 12) := by unfold chooseD; rw [if_neg c1, if_pos c20]
     rw [e]
     exact answersGR [] [4, 5] rfl ⟨Nat.le_of_ble_eq_true rfl, trivial, trivial⟩ rfl (by (repeat' apply And.intro) <;> first | trivial | rfl | exact flat_len (fun _ => rfl) _ | exact encI_len _ | assumption) (rfl) rfl rfl rfl (by decide) rfl rfl ⟨⟨rfl, rfl⟩, ⟨rfl, rfl⟩, trivial⟩

theorem over1_ok (k : Nat) (d : GDrop) : Ok Try.prog 31 [I k, .pptr [i64 d.Id, i64 d.Item, i64 d.Until, .slc d.Units.length false (encI d.Units), .slc d.Choices.length false (encI d.Choices)] 0] [] (B (!decide (k < d.Choices.length ∧ d.Choices.getD k 0 ≠ 0))) [] [] := by
 refine ok_of_sem Try.func31 rfl ?_
 show Walks Try.prog _ _ ⟨[(0, I k), (1, .pptr [i64 d.Id, i64 d.Item, i64 d.Until, .slc d.Units.length false (encI d.Units), .slc d.Choices.length false (encI d.Choices)] 0)], [], 0, [], 17, 0⟩
 refine sem_seq (sem_region rfl (step_r rfl rfl trivial (step_nil (seqK_n (sem_seq (sem_region rfl (step_r rfl rfl trivial (step_r rfl rfl (by decide) (step_load_one rfl rfl rfl (rfl) rfl (step_r rfl rfl trivial (step_bin rfl rfl rfl rfl rfl trivial ?_)))))))))))
 refine step_r rfl rfl trivial ?_
 refine step_gs rfl (fun h3 => ?_) (fun h3 => ?_)
 ·have g3 := h3
  try simp at g3
  refine step_g0 rfl h3 rfl (step_g0 rfl h3 rfl (step_g0 rfl h3 rfl (step_g0 rfl h3 rfl (step_g0 rfl h3 rfl (step_g0 rfl h3 rfl (step_pickT rfl h3 rfl rfl (step_r rfl rfl trivial (step_nil (seqK_n (sem_ret ?_))))))))))
  refine answersR rfl ⟨trivial, trivial⟩ (congrArg B ?_) rfl
  rw [decide_eq_false (by omega)]; rfl
 ·have g3 := h3
  try simp at g3
  have hkc : k < d.Choices.length := by omega
  obtain ⟨c, hc⟩ : ∃ z_, d.Choices[k]? = some z_ := ⟨_, List.getElem?_eq_getElem hkc⟩
  have hgc : d.Choices.getD k 0 = c := by simp [List.getD, hc]
  refine step_g1 rfl h3 (step_r rfl rfl (by decide) (step_g1 rfl h3 (step_load_one rfl rfl rfl (rfl) rfl (step_g1 rfl h3 (step_r rfl rfl trivial (step_g1 rfl h3 (step_idxS (k := k) rfl rfl rfl rfl hkc (encI_ne hkc) rfl (step_g1 rfl h3 (step_load_one rfl rfl rfl (encI_get hc) rfl (step_g1 rfl h3 (step_bin rfl rfl rfl rfl rfl trivial ?_)))))))))))
  refine step_pickF rfl h3 rfl rfl (step_r rfl rfl trivial (step_nil (seqK_n (sem_ret ?_))))
  refine answersR rfl ⟨trivial, trivial⟩ (congrArg B ?_) rfl
  rw [hgc, Bool.eq_iff_iff]; simp; omega

theorem over_step {d : GDrop} {now : Int} {k : Nat} (hn : now < d.Until) (hk : k < d.Units.length) (h : decide (k < d.Choices.length ∧ d.Choices.getD k 0 ≠ 0) = false) : overD d now = false := by
  unfold overD
  rw [decide_eq_false (by omega), Bool.false_or, List.all_eq_false]
  exact ⟨k, by simpa using hk, by simp only [Bool.not_eq_true]; exact h⟩
theorem over_all {d : GDrop} {now : Int} (h : ∀ i, i < d.Units.length → decide (i < d.Choices.length ∧ d.Choices.getD i 0 ≠ 0) = true) : overD d now = true := by
  unfold overD
  rw [Bool.or_eq_true]
  right
  rw [List.all_eq_true]
  intro i hi
  exact h i (by simpa using hi)

theorem over_ok (d : GDrop) (now : Int) : Ok Try.prog 18 [aGDrop d, I now] [] (B (overD d now)) [] [] := by
 refine Ok.len fun hlen => ?_
 have hl_d_Units : d.Units.length ≤ maxLen := hlen _ (by simp [lensL, lens, lensP])
 have hl_d_Choices : d.Choices.length ≤ maxLen := hlen _ (by simp [lensL, lens, lensP])
 unfold maxLen at hl_d_Units hl_d_Choices
 refine ok_of_sem Try.func18 rfl ?_
 show Walks Try.prog _ _ ⟨[(0, aGDrop d), (1, I now)], [], 0, [], 22, 0⟩
 refine sem_seq (sem_region rfl (step_n (o := .box [_, _, _, _, _]) (nx' := 1) rfl rfl rfl trivial (step_r rfl rfl trivial (step_nil (seqK_n (sem_seq (sem_region rfl (step_r rfl rfl trivial (step_r rfl rfl trivial (step_nil (seqK_n ?_)))))))))))
 refine sem_seq (sem_seq (sem_region rfl (step_r rfl rfl trivial (step_r rfl rfl (by decide) (step_r rfl rfl trivial (step_bin rfl rfl rfl rfl rfl trivial (step_nil (seqK_n ?_))))))))
 refine sem_cond rfl (fun h2 => ?_) (fun h2 => ?_)
 ·have g2 := h2
  try simp at g2
  refine sem_seq (sem_region rfl (step_r rfl rfl trivial (step_nil (seqK_n (sem_ret (seqK_r ?_))))))
  exact answersR rfl ⟨trivial, trivial⟩ (congrArg B (by unfold overD; rw [decide_eq_true (by omega)]; rfl)) rfl
 ·have g2 := h2
  try simp at g2
  have hu := g2
  refine sem_skip (seqK_n (sem_seq (sem_seq (sem_region rfl (step_r rfl rfl (by decide) (step_r rfl rfl trivial (step_r rfl rfl trivial (step_r rfl rfl trivial (step_nil (seqK_n (sem_block ?_)))))))))))
  refine sem_loop_of (fun k : Nat => (⟨[(5, .fnc 31 [.ptr 0 0]), (14, I d.Units.length), (15, I k)], [(0, .box [I d.Id, I d.Item, I d.Until, .pv (.slc d.Units.length false (encI d.Units)), .pv (.slc d.Choices.length false (encI d.Choices))])], 1, [], 22, 0⟩ : St)) (fun k : Nat => k ≤ d.Units.length ∧ ∀ i, i < k → decide (i < d.Choices.length ∧ d.Choices.getD i 0 ≠ 0) = true) (fun k : Nat => d.Units.length - k) 0 (⟨Nat.zero_le _, fun i h => by omega⟩) (less_of rfl ⟨⟨rfl, rfl⟩, ⟨rfl, rfl⟩, ⟨rfl, rfl⟩, trivial⟩ ⟨⟨rfl, rfl, rfl⟩, trivial⟩ (fun _ _ => .inr (Nat.zero_le _))) (fun k hI => ?_)
  show Walks Try.prog _ _ (⟨[(5, .fnc 31 [.ptr 0 0]), (14, I d.Units.length), (15, I k)], [(0, .box [I d.Id, I d.Item, I d.Until, .pv (.slc d.Units.length false (encI d.Units)), .pv (.slc d.Choices.length false (encI d.Choices))])], 1, [], 22, 0⟩ : St)
  refine sem_seq (sem_region rfl (step_bin rfl rfl rfl rfl rfl trivial (step_nil (seqK_n (sem_seq ?_)))))
  refine sem_cond rfl (fun h3 => ?_) (fun h3 => ?_)
  ·have hk : k < d.Units.length := by have h := of_decide_eq_true h3; omega
   obtain ⟨x, hx⟩ : ∃ x, d.Units[k]? = some x := ⟨_, List.getElem?_eq_getElem hk⟩
   refine sem_skip (seqK_n (sem_seq (sem_block (sem_seq (sem_region rfl (step_r rfl rfl trivial (step_r rfl rfl trivial (step_nil (seqK_n (sem_seq (sem_region rfl ?_)))))))))))
   refine step_r rfl rfl trivial (step_r rfl rfl trivial ?_)
   refine step_callJ (Hin := [.box [.pv _, .pv _, .pv _, .pv _, .pv _]]) (H' := [(0, _)]) (nx' := 1) [0] rfl rfl rfl rfl rfl rfl rfl rfl rfl (by (repeat' apply And.intro) <;> first | trivial | rfl | exact flat_len (fun _ => rfl) _ | exact encI_len _ | exact Nat.le_of_ble_eq_true rfl | assumption) (over1_ok k d) rfl (by decide) rfl rfl trivial rfl rfl rfl rfl ?_
   refine step_nil (seqK_n ?_)
   refine sem_cond rfl (fun h5 => ?_) (fun h5 => ?_)
   ·have gq : decide (k < d.Choices.length ∧ d.Choices.getD k 0 ≠ 0) = false := by have h := h5; rwa [Bool.not_eq_true'] at h
    refine sem_seq (sem_region rfl (step_r rfl rfl trivial (step_nil (seqK_n (sem_ret (blkK_r (seqK_r (lupK_r (blkK_r (seqK_r ?_))))))))))
    exact answersR rfl ⟨trivial, trivial⟩ (congrArg B (over_step (by omega) hk gq).symm) rfl
   ·have gq : decide (k < d.Choices.length ∧ d.Choices.getD k 0 ≠ 0) = true := by have h := h5; rwa [Bool.not_eq_false'] at h
    refine sem_skip (blkK_n (seqK_n (sem_region rfl (step_bin rfl rfl rfl rfl rfl trivial (step_r rfl rfl trivial (step_nil ?_))))))
    exact lup_again (k+1) (⟨hk, fun i hi => by
     rcases Nat.lt_or_ge i k with h | h
     · exact hI.2 i h
     · obtain rfl : i = k := by omega
       exact gq⟩) (by omega) (less_of rfl ⟨⟨rfl, rfl⟩, ⟨rfl, rfl⟩, ⟨congrArg (fun n => some (I n)) (wrapK hk (by assumption)), rfl⟩, trivial⟩ ⟨⟨rfl, rfl, rfl⟩, trivial⟩ (fun _ _ => .inr (Nat.zero_le _)))
  ·have hk : k = d.Units.length := by have h := of_decide_eq_false h3; have := hI; omega
   refine sem_exit (seqK_e (lupK_e (blkK_t rfl (seqK_n (sem_seq (sem_region rfl (step_r rfl rfl trivial (step_nil (seqK_n (sem_ret ?_))))))))))
   exact answersR rfl ⟨trivial, trivial⟩ (congrArg B (over_all (fun i hi => hI.2 i (by omega))).symm) rfl

def allGo (d : GDrop) : Nat → Bool
  | 0 => true
  | k + 1 => allGo d k && decide (k < d.Choices.length ∧ d.Choices.getD k 0 ≠ 0)
theorem allGo_eq (d : GDrop) (now : Int) : overD d now = (decide (now ≥ d.Until) || allGo d d.Units.length) := by
  unfold overD
  congr 1
  have key : ∀ n, ((List.range n).all fun i => decide (i < d.Choices.length ∧ d.Choices.getD i 0 ≠ 0)) = allGo d n := by
    intro n
    induction n with
    | zero => rfl
    | succ n ih => rw [List.range_succ, List.all_append, ih]; simp [allGo]
  exact key _

theorem overR_ok (d : GDrop) (now : Int) : Ok Try.prog 19 [aGDrop d, I now] [] (B (overD d now)) [] [] := by
 refine Ok.len fun hlen => ?_
 have hl_d_Units : d.Units.length ≤ maxLen := hlen _ (by simp [lensL, lens, lensP])
 have hl_d_Choices : d.Choices.length ≤ maxLen := hlen _ (by simp [lensL, lens, lensP])
 unfold maxLen at hl_d_Units hl_d_Choices
 refine ok_of_sem Try.func19 rfl ?_
 show Walks Try.prog _ _ ⟨[(0, aGDrop d), (1, I now)], [], 0, [], 37, 0⟩
 refine sem_seq (sem_region rfl (step_n (o := .box [_, _, _, _, _]) (nx' := 1) rfl rfl rfl trivial (step_r rfl rfl trivial (step_nil (seqK_n (sem_seq (sem_region rfl (step_r rfl rfl trivial (step_nil (seqK_n (sem_seq ?_)))))))))))
 refine sem_seq (sem_region rfl (step_r rfl rfl trivial (step_nil (seqK_n (sem_block ?_)))))
 refine sem_loop_of (fun k : Nat => (⟨[(1, I now), (2, .ptr 0 0), (5, B (allGo d k)), (6, I k)], [(0, .box [I d.Id, I d.Item, I d.Until, .pv (.slc d.Units.length false (encI d.Units)), .pv (.slc d.Choices.length false (encI d.Choices))])], 1, [], 37, 0⟩ : St)) (fun k : Nat => k ≤ d.Units.length) (fun k : Nat => d.Units.length - k) 0 (Nat.zero_le _) (less_of rfl ⟨⟨rfl, rfl⟩, ⟨rfl, rfl⟩, ⟨rfl, rfl⟩, ⟨rfl, rfl⟩, trivial⟩ ⟨⟨rfl, rfl, rfl⟩, trivial⟩ (fun _ _ => .inr (Nat.zero_le _))) (fun k hI => ?_)
 show Walks Try.prog _ _ (⟨[(1, I now), (2, .ptr 0 0), (5, B (allGo d k)), (6, I k)], [(0, .box [I d.Id, I d.Item, I d.Until, .pv (.slc d.Units.length false (encI d.Units)), .pv (.slc d.Choices.length false (encI d.Choices))])], 1, [], 37, 0⟩ : St)
 refine sem_seq (sem_seq (sem_region rfl (step_r rfl rfl trivial (step_r rfl rfl (by decide) (step_r rfl rfl trivial (step_r rfl rfl trivial (step_bin rfl rfl rfl rfl rfl trivial (step_nil (seqK_n ?_)))))))))
 refine sem_cond rfl (fun h2 => ?_) (fun h2 => ?_)
 ·have hk : k < d.Units.length := by have h := of_decide_eq_true h2; omega
  obtain ⟨x, hx⟩ : ∃ x, d.Units[k]? = some x := ⟨_, List.getElem?_eq_getElem hk⟩
  refine sem_skip (seqK_n (sem_seq (sem_block (sem_region rfl (step_r rfl rfl trivial (step_r rfl rfl trivial ?_))))))
  refine step_gs rfl (fun h4 => ?_) (fun h4 => ?_)
  ·have g4 := h4
   try simp at g4
   have hga : allGo d k = true := h4
   refine step_g1 rfl h4 (step_r rfl rfl trivial (step_g1 rfl h4 (step_r rfl rfl (by decide) (step_g1 rfl h4 (step_r rfl rfl trivial (step_g1 rfl h4 (step_r rfl rfl trivial (step_g1 rfl h4 (step_bin rfl rfl rfl rfl rfl trivial (step_pickT rfl h4 rfl rfl (step_r rfl rfl trivial ?_)))))))))))
   refine step_gs rfl (fun h6 => ?_) (fun h6 => ?_)
   ·have g6 := h6
    try simp at g6
    have hkc : k < d.Choices.length := by simpa using h6
    obtain ⟨c, hc⟩ : ∃ z_, d.Choices[k]? = some z_ := ⟨_, List.getElem?_eq_getElem hkc⟩
    have hgc : d.Choices.getD k 0 = c := by simp [List.getD, hc]
    have hgq : (allGo d k && decide (k < d.Choices.length ∧ d.Choices.getD k 0 ≠ 0)) = (c != 0) := by rw [hga, hgc, Bool.true_and, Bool.eq_iff_iff]; simp [hkc]
    refine step_g1 rfl h6 (step_r rfl rfl (by decide) (step_g1 rfl h6 (step_r rfl rfl trivial (step_g1 rfl h6 (step_r rfl rfl trivial (step_g1 rfl h6 (step_idxS (k := k) rfl rfl rfl rfl hkc (encI_ne hkc) rfl (step_g1 rfl h6 (step_load_one rfl rfl rfl (encI_get hc) rfl (step_g1 rfl h6 (step_bin rfl rfl rfl rfl rfl trivial ?_)))))))))))
    refine step_pickT rfl h6 rfl rfl (step_r rfl rfl trivial (step_nil (blkK_n (seqK_n (sem_region rfl (step_r rfl rfl trivial (step_bin rfl rfl rfl rfl rfl trivial (step_r rfl rfl trivial (step_nil ?_)))))))))
    exact lup_again (k+1) (hk) (by omega) (less_of rfl ⟨⟨rfl, rfl⟩, ⟨rfl, rfl⟩, ⟨congrArg (fun b => some (B b)) (by rw [allGo]; exact hgq.symm), rfl⟩, ⟨congrArg (fun n => some (I n)) (wrapK hk (by assumption)), rfl⟩, trivial⟩ ⟨⟨rfl, rfl, rfl⟩, trivial⟩ (fun _ _ => .inr (Nat.zero_le _)))
   ·have g6 := h6
    try simp at g6
    have hgq : (allGo d k && decide (k < d.Choices.length ∧ d.Choices.getD k 0 ≠ 0)) = false := by
     have h : ¬ k < d.Choices.length := by have h := h6; simpa using h
     rw [decide_eq_false (fun q => h q.1), Bool.and_false]
    refine step_g0 rfl h6 rfl (step_g0 rfl h6 rfl (step_g0 rfl h6 rfl (step_g0 rfl h6 rfl (step_g0 rfl h6 rfl (step_g0 rfl h6 rfl (step_pickF rfl h6 rfl rfl (step_r rfl rfl trivial (step_nil (blkK_n (seqK_n (sem_region rfl ?_)))))))))))
    refine step_r rfl rfl trivial (step_bin rfl rfl rfl rfl rfl trivial (step_r rfl rfl trivial (step_nil ?_)))
    exact lup_again (k+1) (hk) (by omega) (less_of rfl ⟨⟨rfl, rfl⟩, ⟨rfl, rfl⟩, ⟨congrArg (fun b => some (B b)) (by rw [allGo]; exact hgq.symm), rfl⟩, ⟨congrArg (fun n => some (I n)) (wrapK hk (by assumption)), rfl⟩, trivial⟩ ⟨⟨rfl, rfl, rfl⟩, trivial⟩ (fun _ _ => .inr (Nat.zero_le _)))
  ·have g4 := h4
   try simp at g4
   have hgq : (allGo d k && decide (k < d.Choices.length ∧ d.Choices.getD k 0 ≠ 0)) = false := by rw [show allGo d k = false from h4]; rfl
   refine step_g0 rfl h4 rfl (step_g0 rfl h4 rfl (step_g0 rfl h4 rfl (step_g0 rfl h4 rfl (step_g0 rfl h4 rfl (step_pickF rfl h4 rfl rfl (step_r rfl rfl trivial (step_gf rfl rfl (step_gf rfl rfl (step_gf rfl rfl (step_gf rfl rfl (step_gf rfl rfl ?_)))))))))))
   refine step_gf rfl rfl (step_r rfl rfl trivial (step_r rfl rfl trivial (step_nil (blkK_n (seqK_n (sem_region rfl (step_r rfl rfl trivial (step_bin rfl rfl rfl rfl rfl trivial (step_r rfl rfl trivial (step_nil ?_))))))))))
   exact lup_again (k+1) (hk) (by omega) (less_of rfl ⟨⟨rfl, rfl⟩, ⟨rfl, rfl⟩, ⟨congrArg (fun b => some (B b)) (by rw [allGo]; exact hgq.symm), rfl⟩, ⟨congrArg (fun n => some (I n)) (wrapK hk (by assumption)), rfl⟩, trivial⟩ ⟨⟨rfl, rfl, rfl⟩, trivial⟩ (fun _ _ => .inr (Nat.zero_le _)))
 ·have hk : k = d.Units.length := by have h := of_decide_eq_false h2; have := hI; omega
  refine sem_exit (seqK_e (lupK_e (blkK_t rfl (seqK_n (sem_seq (sem_region rfl (step_r rfl rfl trivial (step_r rfl rfl (by decide) (step_r rfl rfl trivial (step_bin rfl rfl rfl rfl rfl trivial (step_r rfl rfl trivial ?_)))))))))))
  refine step_gs rfl (fun h13 => ?_) (fun h13 => ?_)
  ·have g13 := h13
   try simp at g13
   refine step_g0 rfl h13 rfl (step_pickT rfl h13 rfl rfl (step_r rfl rfl trivial (step_nil (seqK_n (sem_ret ?_)))))
   refine answersR rfl ⟨trivial, trivial⟩ (congrArg B ?_) rfl
   rw [allGo_eq, ← hk]
   rw [decide_eq_true (by omega)]; rfl
  ·have g13 := h13
   try simp at g13
   refine step_g1 rfl h13 (step_r rfl rfl trivial (step_pickF rfl h13 rfl rfl (step_r rfl rfl trivial (step_nil (seqK_n (sem_ret ?_))))))
   refine answersR rfl ⟨trivial, trivial⟩ (congrArg B ?_) rfl
   rw [allGo_eq, ← hk]
   rw [decide_eq_false (by omega)]; rfl

theorem who_ok (d : GDrop) (what : Int) (hl : d.Choices.length = d.Units.length) (hu : d.Units.length ≤ 40) : Ok Try.prog 32 [aGDrop d, I what] [] (.ref 0 1 0 (whoD d what).length) [.row 3 1 (encI (whoD d what))] [] := by
 refine Ok.len fun hlen => ?_
 have hl_d_Units : d.Units.length ≤ maxLen := hlen _ (by simp [lensL, lens, lensP])
 have hl_d_Choices : d.Choices.length ≤ maxLen := hlen _ (by simp [lensL, lens, lensP])
 unfold maxLen at hl_d_Units hl_d_Choices
 refine ok_of_sem Try.func32 rfl ?_
 show Walks Try.prog _ _ ⟨[(0, aGDrop d), (1, I what)], [], 0, [], 29, 0⟩
 refine sem_seq (sem_region rfl (step_n (o := .box [_, _, _, _, _]) (nx' := 1) rfl rfl rfl trivial (step_n (nx' := 2) rfl rfl rfl trivial (step_nil (seqK_n (sem_seq (sem_region rfl (step_n (nx' := 3) rfl rfl rfl trivial (step_nil (seqK_n (sem_seq ?_)))))))))))
 refine sem_seq (sem_region rfl (step_r rfl rfl (by decide) (step_r rfl rfl trivial (step_r rfl rfl trivial (step_r rfl rfl trivial (step_nil (seqK_n (sem_block ?_))))))))
 refine sem_loop_of (fun a : Nat × List Int => match a with | (k, L) => (⟨[(1, I what), (2, .ptr 0 0), (5, .ref 2 1 0 L.length), (9, .pv (.slc d.Units.length false (encI d.Units))), (10, I d.Units.length), (11, I k)], [(0, .box [I d.Id, I d.Item, I d.Until, .pv (.slc d.Units.length false (encI d.Units)), .pv (.slc d.Choices.length false (encI d.Choices))]), (2, .row 3 1 (encI L))], 3, [], 29, 0⟩ : St)) (fun a : Nat × List Int => match a with | (k, L) => k ≤ d.Units.length ∧ L ++ whoGo what (d.Units.drop k) (d.Choices.drop k) = whoD d what ∧ L.length ≤ k) (fun a : Nat × List Int => match a with | (k, L) => d.Units.length - k) (0, []) (⟨Nat.zero_le _, rfl, Nat.le_refl _⟩) (less_of rfl ⟨⟨rfl, rfl⟩, ⟨rfl, rfl⟩, ⟨rfl, rfl⟩, ⟨rfl, rfl⟩, ⟨rfl, rfl⟩, ⟨rfl, rfl⟩, trivial⟩ ⟨⟨rfl, rfl, rfl⟩, ⟨rfl, rfl, rfl⟩, trivial⟩ (fun _ _ => .inr (Nat.zero_le _))) (fun a hI => ?_)
 obtain ⟨k, L⟩ := a
 show Walks Try.prog _ _ (⟨[(1, I what), (2, .ptr 0 0), (5, .ref 2 1 0 L.length), (9, .pv (.slc d.Units.length false (encI d.Units))), (10, I d.Units.length), (11, I k)], [(0, .box [I d.Id, I d.Item, I d.Until, .pv (.slc d.Units.length false (encI d.Units)), .pv (.slc d.Choices.length false (encI d.Choices))]), (2, .row 3 1 (encI L))], 3, [], 29, 0⟩ : St)
 refine sem_seq (sem_region rfl (step_bin rfl rfl rfl rfl rfl trivial (step_nil (seqK_n (sem_seq ?_)))))
 refine sem_cond rfl (fun h1 => ?_) (fun h1 => ?_)
 ·have hk : k < d.Units.length := by have h := of_decide_eq_true h1; omega
  obtain ⟨x, hx⟩ : ∃ x, d.Units[k]? = some x := ⟨_, List.getElem?_eq_getElem hk⟩
  have hkc : k < d.Choices.length := by omega
  obtain ⟨c, hc⟩ : ∃ z_, d.Choices[k]? = some z_ := ⟨_, List.getElem?_eq_getElem hkc⟩
  refine sem_skip (seqK_n (sem_seq (sem_block (sem_seq (sem_region rfl (step_r rfl rfl trivial (step_idxS (k := k) rfl rfl rfl rfl hk (encI_ne hk) rfl (step_load_one rfl rfl rfl (encI_get hx) rfl (step_r rfl rfl trivial (step_r rfl rfl trivial (step_nil ?_)))))))))))
  refine seqK_n (sem_seq (sem_region rfl (step_r rfl rfl (by decide) (step_r rfl rfl trivial (step_r rfl rfl trivial (step_idxS (k := k) rfl rfl rfl rfl hkc (encI_ne hkc) rfl (step_load_one rfl rfl rfl (encI_get hc) rfl (step_r rfl rfl trivial (step_bin rfl rfl rfl rfl rfl trivial (step_nil (seqK_n ?_)))))))))))
  refine sem_cond rfl (fun h5 => ?_) (fun h5 => ?_)
  ·have g5 := h5
   try simp at g5
   have gz : c = what := by simpa using h5
   refine sem_region rfl (step_r rfl rfl trivial (step_r rfl rfl trivial (step_n (o := .row _ _ [_]) (nx' := 4) rfl rfl rfl (by decide) ?_)))
   refine step_appendC (m := 1) (new := [_]) (cs' := encI (L ++ [x])) (n' := (L ++ [x]).length) (H' := [(3, .row _ _ _), (0, .box [_, _, _, _, _]), (2, .row _ _ _)]) rfl rfl rfl (rfl) rfl rfl rfl rfl rfl rfl (encI_len L) (rfl) (by first | decide | (unfold maxGrow; omega) | (unfold maxGrow; simp; omega) | (unfold maxGrow; simp only [List.length_append, List.length_take, List.length_drop, List.length_cons, List.length_nil, IntKind.wrap_i64] at *; omega)) (len_snoc L _) (((encI_snoc L x)).symm) (.inl rfl) rfl rfl (.keep rfl (.keep rfl (.keep rfl .nil))) (.keep rfl (.keep rfl (.lose (v' := .undef) rfl (.keep rfl (.keep rfl (.keep rfl (.keep rfl (.keep rfl (.keep rfl (.keep rfl (.keep rfl (.keep rfl (.keep rfl (.keep rfl (.keep rfl (.keep rfl (.keep rfl (.keep rfl (.lose (v' := .undef) rfl (.keep rfl (.keep rfl (.keep rfl .nil)))))))))))))))))))))) ?_
   refine step_r rfl rfl trivial (step_nil (blkK_n (seqK_n (sem_region rfl (step_bin rfl rfl rfl rfl rfl trivial (step_r rfl rfl trivial (step_nil ?_)))))))
   exact lup_again (k+1, L ++ [x]) (⟨hk, by rw [← hI.2.1, drop_cons hx, drop_cons hc, whoGo, if_pos gz]; simp, by simp; omega⟩) (by show d.Units.length - (k + 1) < d.Units.length - k; omega) (less_of rfl ⟨⟨rfl, rfl⟩, ⟨rfl, rfl⟩, ⟨rfl, rfl⟩, ⟨rfl, rfl⟩, ⟨rfl, rfl⟩, ⟨congrArg (fun n => some (I n)) (wrapK hk (by assumption)), rfl⟩, trivial⟩ ⟨⟨rfl, rfl, rfl⟩, ⟨rfl, rfl, rfl⟩, trivial⟩ (fun _ _ => .inr (Nat.zero_le _)))
  ·have g5 := h5
   try simp at g5
   have gz : ¬ c = what := by simpa using h5
   refine sem_skip (blkK_n (seqK_n (sem_region rfl (step_bin rfl rfl rfl rfl rfl trivial (step_r rfl rfl trivial (step_nil ?_))))))
   exact lup_again (k+1, L) (⟨hk, by rw [← hI.2.1, drop_cons hx, drop_cons hc, whoGo, if_neg gz], by omega⟩) (by show d.Units.length - (k + 1) < d.Units.length - k; omega) (less_of rfl ⟨⟨rfl, rfl⟩, ⟨rfl, rfl⟩, ⟨rfl, rfl⟩, ⟨rfl, rfl⟩, ⟨rfl, rfl⟩, ⟨congrArg (fun n => some (I n)) (wrapK hk (by assumption)), rfl⟩, trivial⟩ ⟨⟨rfl, rfl, rfl⟩, ⟨rfl, rfl, rfl⟩, trivial⟩ (fun _ _ => .inr (Nat.zero_le _)))
 ·have hk : k = d.Units.length := by have h := of_decide_eq_false h1; have := hI; omega
  refine sem_exit (seqK_e (lupK_e (blkK_t rfl (seqK_n (sem_seq (sem_region rfl (step_r rfl rfl trivial (step_r rfl rfl trivial (step_nil (seqK_n (sem_ret ?_)))))))))))
  have e : whoD d what = L := by rw [← hI.2.1, hk, List.drop_length]; simp [whoGo]
  rw [e]
  exact answersGR [] [2] rfl ⟨trivial, trivial⟩ rfl (by (repeat' apply And.intro) <;> first | trivial | rfl | exact flat_len (fun _ => rfl) _ | exact encI_len _ | assumption) (rfl) rfl rfl rfl (by decide) rfl rfl ⟨⟨rfl, rfl⟩, trivial⟩

theorem best_ok (d : GDrop) : Ok Try.prog 21 [aGDrop d] [] (.ref 0 1 0 (bestD d).length) [.row 3 1 (encI (bestD d))] [] := by
 refine Ok.len fun hlen => ?_
 have hl_d_Units : d.Units.length ≤ maxLen := hlen _ (by simp [lensL, lens, lensP])
 have hl_d_Choices : d.Choices.length ≤ maxLen := hlen _ (by simp [lensL, lens, lensP])
 unfold maxLen at hl_d_Units hl_d_Choices
 refine ok_of_sem Try.func21 rfl ?_
 show Walks Try.prog _ _ ⟨[(0, aGDrop d)], [], 0, [], 15, 0⟩
 refine sem_seq (sem_region rfl (step_n (o := .box [_, _, _, _, _]) (nx' := 1) rfl rfl rfl trivial (step_n (nx' := 2) rfl rfl rfl trivial (step_nil (seqK_n (sem_seq (sem_seq (sem_region rfl (step_r (v := (.agg [_, _, _, _, _])) rfl rfl (Nat.le_of_ble_eq_true rfl) (step_call rfl rfl rfl rfl (rightD_ok d) rfl rfl rfl (step_r rfl rfl trivial ?_)))))))))))
 refine step_nil (seqK_n ?_)
 refine sem_cond rfl (fun h1 => ?_) (fun h1 => ?_)
 ·have g1 := h1
  try simp at g1
  refine sem_seq (sem_region rfl (step_n (nx' := 3) rfl rfl rfl trivial (step_nil (seqK_n (sem_ret (seqK_r ?_))))))
  have e : bestD d = [] := if_pos (by assumption)
  rw [e]
  exact answersGR [] [2] rfl ⟨trivial, trivial⟩ rfl (by (repeat' apply And.intro) <;> first | trivial | rfl | exact flat_len (fun _ => rfl) _ | exact encI_len _ | assumption) (rfl) rfl rfl rfl (by decide) rfl rfl ⟨⟨rfl, rfl⟩, trivial⟩
 ·have g1 := h1
  try simp at g1
  have hr : rightD d := by simpa using h1
  have hl := hr.2.2.2.1
  have hu := hr.2.2.1
  refine sem_skip (seqK_n (sem_seq (sem_seq (sem_region rfl (step_r (v := (.agg [_, _, _, _, _])) rfl rfl (Nat.le_of_ble_eq_true rfl) ?_)))))
  refine step_callJ (Hin := []) (out' := .ref 2 _ _ _) (H' := [(2, .row _ _ _), (1, _), (0, _)]) (nx' := 3) [] rfl rfl rfl rfl rfl rfl rfl rfl rfl (by (repeat' apply And.intro) <;> first | trivial | rfl | exact flat_len (fun _ => rfl) _ | exact encI_len _ | exact Nat.le_of_ble_eq_true rfl | assumption) (who_ok d 3 (by first | omega | assumption | decide +kernel | (simp; done) | (simp; omega) | simp_all) (by first | omega | assumption | decide +kernel | (simp; done) | (simp; omega) | simp_all)) rfl (by decide) rfl rfl ⟨encI_solid, trivial⟩ rfl rfl rfl rfl ?_
  refine step_r rfl rfl trivial (step_nil (seqK_n (sem_seq (sem_region rfl (step_r rfl rfl trivial (step_r rfl rfl trivial (step_bin rfl rfl rfl rfl rfl trivial (step_nil (seqK_n ?_)))))))))
  refine sem_cond rfl (fun h2 => ?_) (fun h2 => ?_)
  ·have g2 := h2
   try simp at g2
   have gl : whoD d 3 ≠ [] := by intro h; simp [h] at g2
   refine sem_seq (sem_region rfl (step_r rfl rfl trivial (step_r rfl rfl trivial (step_nil (seqK_n (sem_ret (seqK_r ?_)))))))
   have e : bestD d = whoD d 3 := by unfold bestD; rw [if_neg (by simpa using hr), if_pos gl]
   rw [e]
   exact answersGR [] [2] rfl ⟨trivial, trivial⟩ rfl (by (repeat' apply And.intro) <;> first | trivial | rfl | exact flat_len (fun _ => rfl) _ | exact encI_len _ | assumption) (rfl) rfl rfl rfl (by decide) rfl rfl ⟨⟨rfl, rfl⟩, trivial⟩
  ·have g2 := h2
   try simp at g2
   have gl : whoD d 3 = [] := by simpa using h2
   refine sem_skip (seqK_n (sem_seq (sem_region rfl (step_r (v := (.agg [_, _, _, _, _])) rfl rfl (Nat.le_of_ble_eq_true rfl) ?_))))
   refine step_callJ (Hin := []) (out' := .ref 3 _ _ _) (H' := [(3, .row _ _ _), (2, _), (1, _), (0, _)]) (nx' := 4) [] rfl rfl rfl rfl rfl rfl rfl rfl rfl (by (repeat' apply And.intro) <;> first | trivial | rfl | exact flat_len (fun _ => rfl) _ | exact encI_len _ | exact Nat.le_of_ble_eq_true rfl | assumption) (who_ok d 2 (by first | omega | assumption | decide +kernel | (simp; done) | (simp; omega) | simp_all) (by first | omega | assumption | decide +kernel | (simp; done) | (simp; omega) | simp_all)) rfl (by decide) rfl rfl ⟨encI_solid, trivial⟩ rfl rfl rfl rfl ?_
   refine step_r rfl rfl trivial (step_nil (seqK_n (sem_ret ?_)))
   have e : bestD d = whoD d 2 := by unfold bestD; rw [if_neg (by simpa using hr), if_neg (by simpa using gl)]
   rw [e]
   exact answersGR [] [3] rfl ⟨trivial, trivial⟩ rfl (by (repeat' apply And.intro) <;> first | trivial | rfl | exact flat_len (fun _ => rfl) _ | exact encI_len _ | assumption) (rfl) rfl rfl rfl (by decide) rfl rfl ⟨⟨rfl, rfl⟩, trivial⟩

theorem bestR_ok (d : GDrop) : Ok Try.prog 22 [aGDrop d] [] (.ref 0 1 0 (bestD d).length) [.row 3 1 (encI (bestD d))] [] := by
 refine Ok.len fun hlen => ?_
 have hl_d_Units : d.Units.length ≤ maxLen := hlen _ (by simp [lensL, lens, lensP])
 have hl_d_Choices : d.Choices.length ≤ maxLen := hlen _ (by simp [lensL, lens, lensP])
 unfold maxLen at hl_d_Units hl_d_Choices
 refine ok_of_sem Try.func22 rfl ?_
 show Walks Try.prog _ _ ⟨[(0, aGDrop d)], [], 0, [], 42, 0⟩
 refine sem_seq (sem_region rfl (step_n (o := .box [_, _, _, _, _]) (nx' := 1) rfl rfl rfl trivial (step_n (nx' := 2) rfl rfl rfl trivial (step_nil (seqK_n (sem_seq (sem_region rfl (step_r (v := (.agg [_, _, _, _, _])) rfl rfl (Nat.le_of_ble_eq_true rfl) (step_call rfl rfl rfl rfl (rightDR_ok d) rfl rfl rfl (step_r rfl rfl trivial (step_nil ?_)))))))))))
 refine seqK_n (sem_seq (sem_seq (sem_region rfl (step_r rfl rfl trivial (step_nil (seqK_n (sem_block ?_)))))))
 refine sem_loop_of (fun k : Nat => (⟨[(1, .ptr 0 0), (3, B (decide (rightD d))), (4, I (3 - (k : Int)))], [(0, .box [I d.Id, I d.Item, I d.Until, .pv (.slc d.Units.length false (encI d.Units)), .pv (.slc d.Choices.length false (encI d.Choices))])], 1, [], 42, 0⟩ : St)) (fun k : Nat => k ≤ 2 ∧ (1 ≤ k → rightD d ∧ whoD d 3 = []) ∧ (2 ≤ k → whoD d 2 = [])) (fun k : Nat => 2 - k) 0 (⟨by omega, fun h => by omega, fun h => by omega⟩) (less_of rfl ⟨⟨rfl, rfl⟩, ⟨rfl, rfl⟩, ⟨congrArg (fun n => some (I n)) (by decide), rfl⟩, trivial⟩ ⟨⟨rfl, rfl, rfl⟩, trivial⟩ (fun _ _ => .inr (Nat.zero_le _))) (fun k hI => ?_)
 obtain ⟨i1, i2, i3⟩ := hI
 show Walks Try.prog _ _ (⟨[(1, .ptr 0 0), (3, B (decide (rightD d))), (4, I (3 - (k : Int)))], [(0, .box [I d.Id, I d.Item, I d.Until, .pv (.slc d.Units.length false (encI d.Units)), .pv (.slc d.Choices.length false (encI d.Choices))])], 1, [], 42, 0⟩ : St)
 refine sem_seq (sem_seq (sem_region rfl (step_r rfl rfl trivial (step_bin rfl rfl rfl rfl rfl trivial (step_r rfl rfl trivial ?_)))))
 refine step_gs rfl (fun h4 => ?_) (fun h4 => ?_)
 ·have g4 := h4
  try simp at g4
  refine step_g1 rfl h4 (step_r rfl rfl trivial (step_pickT rfl h4 rfl rfl (step_nil (seqK_n ?_))))
  refine sem_cond rfl (fun h6 => ?_) (fun h6 => ?_)
  ·have g6 := h6
   try simp at g6
   have hr : rightD d := by simpa using h6
   have hl := hr.2.2.2.1
   have hu := hr.2.2.1
   refine sem_skip (seqK_n (sem_seq (sem_block (sem_seq (sem_region rfl (step_n (nx' := 2) rfl rfl rfl trivial (step_nil (seqK_n (sem_seq (sem_seq (sem_region rfl ?_)))))))))))
   refine step_r rfl rfl trivial (step_nil (seqK_n (sem_block ?_)))
   refine sem_loop_of (fun a : Nat × List Int => match a with | (j, L) => (⟨[(1, .ptr 0 0), (3, B (decide (rightD d))), (4, I (3 - (k : Int))), (5, .ref 1 1 0 L.length), (6, I j)], [(0, .box [I d.Id, I d.Item, I d.Until, .pv (.slc d.Units.length false (encI d.Units)), .pv (.slc d.Choices.length false (encI d.Choices))]), (1, .row 3 1 (encI L))], 2, [], 42, 0⟩ : St)) (fun a : Nat × List Int => match a with | (j, L) => j ≤ d.Units.length ∧ L ++ whoGo (3 - (k : Int)) (d.Units.drop j) (d.Choices.drop j) = whoD d (3 - (k : Int)) ∧ L.length ≤ j) (fun a : Nat × List Int => match a with | (j, L) => d.Units.length - j) (0, []) (⟨Nat.zero_le _, rfl, Nat.le_refl _⟩) (less_of rfl ⟨⟨rfl, rfl⟩, ⟨rfl, rfl⟩, ⟨rfl, rfl⟩, ⟨rfl, rfl⟩, ⟨rfl, rfl⟩, trivial⟩ ⟨⟨rfl, rfl, rfl⟩, ⟨rfl, rfl, rfl⟩, trivial⟩ (fun _ _ => .inr (Nat.zero_le _))) (fun a hIz => ?_)
   obtain ⟨j, L⟩ := a
   show Walks Try.prog _ _ (⟨[(1, .ptr 0 0), (3, B (decide (rightD d))), (4, I (3 - (k : Int))), (5, .ref 1 1 0 L.length), (6, I j)], [(0, .box [I d.Id, I d.Item, I d.Until, .pv (.slc d.Units.length false (encI d.Units)), .pv (.slc d.Choices.length false (encI d.Choices))]), (1, .row 3 1 (encI L))], 2, [], 42, 0⟩ : St)
   refine sem_seq (sem_seq (sem_region rfl (step_r rfl rfl trivial (step_r rfl rfl (by decide) (step_r rfl rfl trivial (step_r rfl rfl trivial (step_bin rfl rfl rfl rfl rfl trivial (step_nil (seqK_n ?_)))))))))
   refine sem_cond rfl (fun h8 => ?_) (fun h8 => ?_)
   ·have hkz : j < d.Units.length := by have h := of_decide_eq_true h8; omega
    obtain ⟨xz, hxz⟩ : ∃ x, d.Units[j]? = some x := ⟨_, List.getElem?_eq_getElem hkz⟩
    have hkc : j < d.Choices.length := by omega
    obtain ⟨c, hc⟩ : ∃ z_, d.Choices[j]? = some z_ := ⟨_, List.getElem?_eq_getElem hkc⟩
    refine sem_skip (seqK_n (sem_seq (sem_block (sem_seq (sem_region rfl (step_r rfl rfl (by decide) (step_r rfl rfl trivial (step_r rfl rfl trivial (step_idxS (k := j) rfl rfl rfl rfl hkc (encI_ne hkc) rfl (step_load_one rfl rfl rfl (encI_get hc) rfl (step_r rfl rfl trivial ?_)))))))))))
    refine step_bin rfl rfl rfl rfl rfl trivial (step_nil (seqK_n ?_))
    refine sem_cond rfl (fun h10 => ?_) (fun h10 => ?_)
    ·have g10 := h10
     try simp at g10
     have gz : c = 3 - (k : Int) := by simpa using h10
     refine sem_region rfl (step_r rfl rfl trivial (step_r rfl rfl (by decide) (step_r rfl rfl trivial (step_r rfl rfl trivial (step_idxS (k := j) rfl rfl rfl rfl hkz (encI_ne hkz) rfl (step_load_one rfl rfl rfl (encI_get hxz) rfl (step_n (o := .row _ _ [_]) (nx' := 3) rfl rfl rfl (by decide) ?_)))))))
     refine step_appendC (m := 1) (new := [_]) (cs' := encI (L ++ [xz])) (n' := (L ++ [xz]).length) (H' := [(2, .row _ _ _), (0, .box [_, _, _, _, _]), (1, .row _ _ _)]) rfl rfl rfl (rfl) rfl rfl rfl rfl rfl rfl (encI_len L) (rfl) (by first | decide | (unfold maxGrow; omega) | (unfold maxGrow; simp; omega) | (unfold maxGrow; simp only [List.length_append, List.length_take, List.length_drop, List.length_cons, List.length_nil, IntKind.wrap_i64] at *; omega)) (len_snoc L _) (((encI_snoc L xz)).symm) (.inl rfl) rfl rfl (.keep rfl (.keep rfl (.keep rfl .nil))) (.keep rfl (.keep rfl (.keep rfl (.keep rfl (.keep rfl (.keep rfl (.lose (v' := .undef) rfl (.keep rfl (.keep rfl (.keep rfl (.keep rfl (.keep rfl (.keep rfl (.keep rfl (.keep rfl (.keep rfl (.keep rfl (.keep rfl (.keep rfl (.keep rfl (.keep rfl (.keep rfl (.lose (v' := .undef) rfl (.keep rfl .nil)))))))))))))))))))))))) ?_
     refine step_r rfl rfl trivial (step_nil (blkK_n (seqK_n (sem_region rfl (step_r rfl rfl trivial (step_bin rfl rfl rfl rfl rfl trivial (step_r rfl rfl trivial (step_nil ?_))))))))
     exact lup_again (j+1, L ++ [xz]) (⟨hkz, by rw [← hIz.2.1, drop_cons hxz, drop_cons hc, whoGo, if_pos gz]; simp, by simp; omega⟩) (by show d.Units.length - (j + 1) < d.Units.length - j; omega) (less_of rfl ⟨⟨rfl, rfl⟩, ⟨rfl, rfl⟩, ⟨rfl, rfl⟩, ⟨rfl, rfl⟩, ⟨congrArg (fun n => some (I n)) (wrapK hkz (by assumption)), rfl⟩, trivial⟩ ⟨⟨rfl, rfl, rfl⟩, ⟨rfl, rfl, rfl⟩, trivial⟩ (fun _ _ => .inr (Nat.zero_le _)))
    ·have g10 := h10
     try simp at g10
     have gz : ¬ c = 3 - (k : Int) := by simpa using h10
     refine sem_skip (blkK_n (seqK_n (sem_region rfl (step_r rfl rfl trivial (step_bin rfl rfl rfl rfl rfl trivial (step_r rfl rfl trivial (step_nil ?_)))))))
     exact lup_again (j+1, L) (⟨hkz, by rw [← hIz.2.1, drop_cons hxz, drop_cons hc, whoGo, if_neg gz], by omega⟩) (by show d.Units.length - (j + 1) < d.Units.length - j; omega) (less_of rfl ⟨⟨rfl, rfl⟩, ⟨rfl, rfl⟩, ⟨rfl, rfl⟩, ⟨rfl, rfl⟩, ⟨congrArg (fun n => some (I n)) (wrapK hkz (by assumption)), rfl⟩, trivial⟩ ⟨⟨rfl, rfl, rfl⟩, ⟨rfl, rfl, rfl⟩, trivial⟩ (fun _ _ => .inr (Nat.zero_le _)))
   ·have hkz : j = d.Units.length := by have h := of_decide_eq_false h8; have := hIz; omega
    have hw : whoD d (3 - (k : Int)) = L := by rw [← hIz.2.1, hkz, List.drop_length]; simp [whoGo]
    refine sem_exit (seqK_e (lupK_e (blkK_t rfl (seqK_n (sem_seq (sem_region rfl (step_r rfl rfl trivial (step_r rfl rfl trivial (step_bin rfl rfl rfl rfl rfl trivial (step_nil (seqK_n ?_)))))))))))
    refine sem_cond rfl (fun h13 => ?_) (fun h13 => ?_)
    ·have g13 := h13
     try simp at g13
     have gl : L ≠ [] := by intro h; simp [h] at g13
     refine sem_seq (sem_region rfl (step_r rfl rfl trivial (step_r rfl rfl trivial (step_nil (seqK_n (sem_ret (blkK_r (seqK_r (lupK_r (blkK_r (seqK_r ?_)))))))))))
     have e : bestD d = L := by
      unfold bestD
      rw [if_neg (by simpa using hr)]
      rcases (show k = 0 ∨ k = 1 by omega) with rfl | rfl
      · rw [if_pos (by intro h; simp at hw; rw [h] at hw; simp [← hw] at gl)]; simpa using hw
      · rw [if_neg (by simp [(i2 (by omega)).2])]; simpa using hw
     rw [e]
     exact answersGR [] [1] rfl ⟨trivial, trivial⟩ rfl (by (repeat' apply And.intro) <;> first | trivial | rfl | exact flat_len (fun _ => rfl) _ | exact encI_len _ | assumption) (rfl) rfl rfl rfl (by decide) rfl rfl ⟨⟨rfl, rfl⟩, trivial⟩
    ·have g13 := h13
     try simp at g13
     have gl : L = [] := by simpa using h13
     refine sem_skip (blkK_n (seqK_n (sem_region rfl (step_r rfl rfl trivial (step_bin rfl rfl rfl rfl rfl trivial (step_r rfl rfl trivial (step_nil ?_)))))))
     exact lup_again (k+1) (⟨by omega, fun _ => ⟨hr, by
      rcases Nat.eq_zero_or_pos k with rfl | h
      · simpa [gl] using hw
      · exact (i2 h).2⟩, fun h => by
      obtain rfl : k = 1 := by omega
      simpa [gl] using hw⟩) (by omega) (less_of rfl ⟨⟨rfl, rfl⟩, ⟨rfl, rfl⟩, ⟨congrArg (fun n => some (I n)) (by rw [IntKind.wrap_i64]; omega), rfl⟩, trivial⟩ ⟨⟨rfl, rfl, rfl⟩, trivial⟩ (fun _ _ => .inr (Nat.zero_le _)))
  ·have g6 := h6
   try simp at g6
   have hnr : ¬ rightD d := by simpa using h6
   refine sem_exit (seqK_e (lupK_e (blkK_t rfl (seqK_n (sem_seq (sem_region rfl (step_n (nx' := 2) rfl rfl rfl trivial (step_nil (seqK_n (sem_ret ?_))))))))))
   have e : bestD d = [] := if_pos (by simpa using hnr)
   rw [e]
   exact answersGR [] [1] rfl ⟨trivial, trivial⟩ rfl (by (repeat' apply And.intro) <;> first | trivial | rfl | exact flat_len (fun _ => rfl) _ | exact encI_len _ | assumption) (rfl) rfl rfl rfl (by decide) rfl rfl ⟨⟨rfl, rfl⟩, trivial⟩
 ·have g4 := h4
  try simp at g4
  have hk2 : k = 2 := by have h := h4; simp at h; omega
  refine step_g0 rfl h4 rfl (step_pickF rfl h4 rfl rfl (step_nil (seqK_n (sem_condF rfl (sem_exit (seqK_e (lupK_e (blkK_t rfl (seqK_n (sem_seq (sem_region rfl ?_)))))))))))
  refine step_n (nx' := 2) rfl rfl rfl trivial (step_nil (seqK_n (sem_ret ?_)))
  have e : bestD d = [] := by
   have h1 := i2 (by omega)
   have h2 := i3 (by omega)
   unfold bestD
   rw [if_neg (by simpa using h1.1), if_neg (by simp [h1.2])]
   exact h2
  rw [e]
  exact answersGR [] [1] rfl ⟨trivial, trivial⟩ rfl (by (repeat' apply And.intro) <;> first | trivial | rfl | exact flat_len (fun _ => rfl) _ | exact encI_len _ | assumption) (rfl) rfl rfl rfl (by decide) rfl rfl ⟨⟨rfl, rfl⟩, trivial⟩

theorem fairGo_used {n : Int} (hn : 1 ≤ n) : ∀ {l : List Int} {k : Int}, (fairGo n k l).2.2 = true → 1 ≤ (fairGo n k l).2.1 - k ∧ (fairGo n k l).2.1 - k ≤ l.length ∧ 0 ≤ (fairGo n k l).1 ∧ (fairGo n k l).1 < n
  | [], k, h => by simp [fairGo] at h
  | x :: l, k, h => by
    simp only [fairGo] at h ⊢
    split at h
    · cases h
    · rename_i hw
      have hx : 0 ≤ x := by unfold wordB at hw; omega
      rw [if_neg hw]
      split at h
      · rename_i h2
        rw [if_pos h2]
        have h3 := Int.tmod_nonneg n hx
        have h4 := Int.tmod_lt_of_pos x (b := n) (by omega)
        simp only [List.length_cons]
        omega
      · rename_i h2
        rw [if_neg h2]
        have := fairGo_used hn h
        simp only [List.length_cons]
        omega
theorem fair_used {ws : List Int} (h : (fairM ws 100).2.2 = true) : 1 ≤ (fairM ws 100).2.1 ∧ (fairM ws 100).2.1 ≤ ws.length ∧ 0 ≤ (fairM ws 100).1 ∧ (fairM ws 100).1 < 100 := by
  unfold fairM at h ⊢
  rw [if_neg (by decide)] at h ⊢
  have := fairGo_used (n := 100) (by decide) h
  omega
def rollGo (ws : List Int) : Nat → List Int → Nat → List Int × Int × Bool
  | 0, L, A => (L, (A : Int), true)
  | m + 1, L, A => if (fairM (ws.drop A) 100).2.2 = false then ([], 0, false) else rollGo ws m (L ++ [IntKind.i64.wrap ((fairM (ws.drop A) 100).1 + 1)]) (A + (fairM (ws.drop A) 100).2.1.toNat)
def rollM (ws : List Int) (n : Int) : List Int × Int × Bool := if n < 0 ∨ n > 40 then ([], 0, false) else rollGo ws n.toNat [] 0
theorem rollGo_len {ws : List Int} : ∀ {m : Nat} {L : List Int} {A : Nat}, (rollGo ws m L A).2.2 = true → (rollGo ws m L A).1.length = L.length + m
  | 0, L, A, _ => rfl
  | m + 1, L, A, h => by
    simp only [rollGo] at h ⊢
    split at h
    · cases h
    · rename_i h2
      rw [if_neg h2, rollGo_len h]
      simp; omega
theorem rollM_len {ws : List Int} {n : Int} (h : (rollM ws n).2.2 = true) : (rollM ws n).1.length = n.toNat := by
  unfold rollM at h ⊢
  split at h
  · cases h
  · rename_i h2
    rw [if_neg h2, rollGo_len h]; simp
theorem rollM_le {ws : List Int} {n : Int} : (rollM ws n).1.length ≤ 40 := by
  cases h : (rollM ws n).2.2 with
  | true =>
    rw [rollM_len h]
    unfold rollM at h
    split at h
    · cases h
    · omega
  | false =>
    have key : ∀ {m : Nat} {L : List Int} {A : Nat}, (rollGo ws m L A).2.2 = false → (rollGo ws m L A).1 = [] := by
      intro m
      induction m with
      | zero => intro L A h; cases h
      | succ m ih =>
        intro L A h
        simp only [rollGo] at h ⊢
        split
        · rfl
        · rename_i h2; rw [if_neg h2] at h; exact ih h
    unfold rollM at h ⊢
    split
    · simp
    · rename_i h2; rw [if_neg h2] at h; rw [key h]; simp
theorem set_rep {L : List Int} {m k : Nat} {v : Int} (hL : L.length = k) (hk : k < m) : (L ++ List.replicate (m - k) (0 : Int)).set k v = (L ++ [v]) ++ List.replicate (m - (k + 1)) (0 : Int) := by
  subst hL
  rw [List.set_append_right _ _ (Nat.le_refl _), Nat.sub_self, show m - L.length = (m - (L.length + 1)) + 1 by omega, List.replicate_succ, List.set_cons_zero]
  simp
def awardD (d : GDrop) (words : List Int) : Int × Int × Bool := if (bestD d).length = 0 then (0, 0, true) else if (bestD d).length = 1 then ((bestD d).getD 0 0, 0, true)
  else if (rollM words (bestD d).length).2.2 = false then (0, 0, false)
  else ((bestD d).getD (fidx (fun x => maxL (rollM words (bestD d).length).1 == x) (rollM words (bestD d).length).1).toNat 0, (rollM words (bestD d).length).2.1, true)

theorem roll_ok (words : List Int) (words_f : Bool) (n : Int) : Ok Try.prog 24 [.pv (.slc words.length words_f (encI words)), I n] [] (.tup [.ref 0 1 0 (rollM words n).1.length, I (rollM words n).2.1, B (rollM words n).2.2]) [.row 3 1 (encI (rollM words n).1)] [] := by
 refine Ok.len fun hlen => ?_
 have hl_words : words.length ≤ maxLen := hlen _ (by simp [lensL, lens, lensP])
 unfold maxLen at hl_words
 refine ok_of_sem Try.func24 rfl ?_
 show Walks Try.prog _ _ ⟨[(0, .pv (.slc words.length words_f (encI words))), (1, I n)], [], 0, [], 46, 0⟩
 refine sem_seq (sem_region rfl (step_n (nx' := 1) rfl rfl rfl trivial (step_r rfl rfl trivial (step_r rfl rfl trivial (step_nil (seqK_n (sem_seq (sem_seq (sem_region rfl (step_r rfl rfl trivial (step_bin rfl rfl rfl rfl rfl trivial ?_)))))))))))
 refine step_r rfl rfl trivial ?_
 refine step_gs rfl (fun h3 => ?_) (fun h3 => ?_)
 ·have g3 := h3
  try simp at g3
  refine step_g0 rfl h3 rfl (step_g0 rfl h3 rfl (step_pickT rfl h3 rfl rfl (step_nil (seqK_n (sem_condT rfl (sem_seq (sem_region rfl (step_n (nx' := 2) rfl rfl rfl trivial (step_r rfl rfl trivial (step_r rfl rfl trivial (step_nil ?_)))))))))))
  refine seqK_n (sem_ret (seqK_r ?_))
  have e : rollM words n = ([], 0, false) := if_pos (by omega)
  rw [e]
  exact answersGR [] [1] rfl ⟨trivial, trivial, trivial, trivial⟩ rfl (by (repeat' apply And.intro) <;> first | trivial | rfl | exact flat_len (fun _ => rfl) _ | exact encI_len _ | assumption) (rfl) rfl rfl rfl (by decide) rfl rfl ⟨⟨rfl, rfl⟩, trivial⟩
 ·have g3 := h3
  try simp at g3
  refine step_g1 rfl h3 (step_r rfl rfl trivial (step_g1 rfl h3 (step_bin rfl rfl rfl rfl rfl trivial (step_pickF rfl h3 rfl rfl (step_nil (seqK_n ?_))))))
  refine sem_cond rfl (fun h5 => ?_) (fun h5 => ?_)
  ·have g5 := h5
   try simp at g5
   refine sem_seq (sem_region rfl (step_n (nx' := 2) rfl rfl rfl trivial (step_r rfl rfl trivial (step_r rfl rfl trivial (step_nil (seqK_n (sem_ret (seqK_r ?_))))))))
   have e : rollM words n = ([], 0, false) := if_pos (by omega)
   rw [e]
   exact answersGR [] [1] rfl ⟨trivial, trivial, trivial, trivial⟩ rfl (by (repeat' apply And.intro) <;> first | trivial | rfl | exact flat_len (fun _ => rfl) _ | exact encI_len _ | assumption) (rfl) rfl rfl rfl (by decide) rfl rfl ⟨⟨rfl, rfl⟩, trivial⟩
  ·have g5 := h5
   try simp at g5
   obtain ⟨m, rfl⟩ : ∃ m : Nat, n = (m : Int) := ⟨n.toNat, by omega⟩
   refine sem_skip (seqK_n (sem_seq (sem_region rfl (step_r rfl rfl trivial ?_))))
   refine step_mkS (sz := 1) (n := m) (n' := (List.replicate m (0 : Int)).length) (cs := encI (List.replicate m (0 : Int))) rfl rfl rfl rfl rfl rfl rfl (by unfold maxGrow; omega) (repeatZ_map _) (List.length_replicate ..).symm rfl rfl ?_
   refine step_r rfl rfl trivial (step_nil (seqK_n (sem_seq (sem_region rfl (step_r rfl rfl trivial (step_nil (seqK_n (sem_seq (sem_seq (sem_region rfl (step_r rfl rfl trivial ?_)))))))))))
   refine step_r rfl rfl trivial (step_nil (seqK_n (sem_block ?_)))
   refine sem_loop_of (fun a : Nat × List Int × Nat => match a with | (k, L, A) => (⟨[(0, .pv (.slc words.length words_f (encI words))), (7, .ref 1 1 0 (List.replicate m (0 : Int)).length), (8, I A), (21, I m), (22, I k)], [(1, .row 3 1 (encI (L ++ List.replicate (m - k) (0 : Int))))], 2, [], 46, 0⟩ : St)) (fun a : Nat × List Int × Nat => match a with | (k, L, A) => k ≤ m ∧ L.length = k ∧ A ≤ words.length ∧ rollGo words (m - k) L A = rollM words (m : Int)) (fun a : Nat × List Int × Nat => match a with | (k, L, A) => m - k) (0, [], 0) (⟨Nat.zero_le _, rfl, Nat.zero_le _, by unfold rollM; rw [if_neg (by omega), Int.toNat_natCast]; rfl⟩) (less_of rfl ⟨⟨rfl, rfl⟩, ⟨rfl, rfl⟩, ⟨rfl, rfl⟩, ⟨rfl, rfl⟩, ⟨rfl, rfl⟩, trivial⟩ ⟨⟨rfl, rfl, rfl⟩, trivial⟩ (fun _ _ => .inr (Nat.zero_le _))) (fun a hI => ?_)
   obtain ⟨k, L, A⟩ := a
   obtain ⟨i1, i2, i3, i4⟩ := hI
   show Walks Try.prog _ _ (⟨[(0, .pv (.slc words.length words_f (encI words))), (7, .ref 1 1 0 (List.replicate m (0 : Int)).length), (8, I A), (21, I m), (22, I k)], [(1, .row 3 1 (encI (L ++ List.replicate (m - k) (0 : Int))))], 2, [], 46, 0⟩ : St)
   refine sem_seq (sem_region rfl (step_bin rfl rfl rfl rfl rfl trivial (step_nil (seqK_n (sem_seq ?_)))))
   refine sem_cond rfl (fun h6 => ?_) (fun h6 => ?_)
   ·have g6 := h6
    try simp at g6
    refine sem_skip (seqK_n (sem_seq (sem_block (sem_seq (sem_region rfl (step_r rfl rfl trivial (step_r rfl rfl trivial (step_nil (seqK_n (sem_seq (sem_region rfl ?_)))))))))))
    refine step_r rfl rfl trivial (step_r rfl rfl trivial ?_)
    refine step_slcFrom (k := A) (n' := (words.drop A).length) (cs' := encI (words.drop A)) rfl rfl rfl rfl rfl (by first | omega | (simp only [IntKind.wrap_i64]; omega) | (simp; omega)) (List.length_drop ..).symm (encI_from words A) rfl ?_
    refine step_call rfl rfl rfl rfl (fair_ok (words.drop A) words_f 100) rfl rfl rfl (step_r rfl rfl trivial (step_r rfl rfl trivial (step_r rfl rfl trivial (step_r rfl rfl trivial (step_r rfl rfl trivial (step_r rfl rfl trivial (step_r rfl rfl trivial (step_nil (seqK_n (sem_seq (sem_seq ?_)))))))))))
    refine sem_region rfl (step_r rfl rfl trivial (step_r rfl rfl trivial (step_nil (seqK_n ?_))))
    refine sem_cond rfl (fun h12 => ?_) (fun h12 => ?_)
    ·have g12 := h12
     try simp at g12
     have gis : (fairM (words.drop A) 100).2.2 = false := by simpa using h12
     refine sem_seq (sem_region rfl (step_n (nx' := 3) rfl rfl rfl trivial (step_r rfl rfl trivial (step_r rfl rfl trivial (step_nil (seqK_n (sem_ret (seqK_r (blkK_r (seqK_r (lupK_r ?_)))))))))))
     refine blkK_r (seqK_r ?_)
     have e : rollM words (m : Int) = ([], 0, false) := by rw [← i4, show m - k = (m - (k + 1)) + 1 by omega, rollGo, if_pos gis]
     rw [e]
     exact answersGR [] [2] rfl ⟨trivial, trivial, trivial, trivial⟩ rfl (by (repeat' apply And.intro) <;> first | trivial | rfl | exact flat_len (fun _ => rfl) _ | exact encI_len _ | assumption) (rfl) rfl rfl rfl (by decide) rfl rfl ⟨⟨rfl, rfl⟩, trivial⟩
    ·have g12 := h12
     try simp at g12
     have gis : (fairM (words.drop A) 100).2.2 = true := by simpa using h12
     obtain ⟨u1, u2, u3, u4⟩ := fair_used gis
     rw [List.length_drop] at u2
     refine sem_skip (seqK_n (sem_region rfl (step_r rfl rfl trivial (step_r rfl rfl trivial (step_r rfl rfl trivial (step_bin rfl rfl rfl rfl rfl trivial (step_r rfl rfl trivial (step_r rfl rfl trivial (step_bin rfl rfl rfl rfl rfl trivial ?_)))))))))
     have jk13 : k < (L ++ List.replicate (m - k) (0 : Int)).length := by first | assumption | omega | (simp only [List.length_set]; omega) | (simp; omega) | simp_all
     obtain ⟨y13, jx13⟩ : ∃ z_, (L ++ List.replicate (m - k) (0 : Int))[k]? = some z_ := ⟨_, List.getElem?_eq_getElem jk13⟩
     refine step_idxR (k := k) rfl rfl rfl rfl (by first | assumption | omega | (have := jk13; simp only [List.length_set] at this ⊢; omega) | (have := jk13; simp at this ⊢; omega)) rfl ?_
     refine step_storeR rfl rfl rfl rfl (by have := jk13; simp [encI]; omega) (encI_set (L ++ List.replicate (m - k) (0 : Int)) k (IntKind.i64.wrap (((fairM (words.drop A) 100).1) + 1))) (.inl rfl) rfl ?_
     refine step_r rfl rfl trivial (step_nil (blkK_n (seqK_n (sem_region rfl (step_bin rfl rfl rfl rfl rfl trivial (step_r rfl rfl trivial (step_nil ?_)))))))
     rw [show m - k = (m - (k + 1)) + 1 by omega, rollGo, if_neg (by rw [gis]; decide)] at i4
     exact lup_again (k+1, L ++ [IntKind.i64.wrap ((fairM (words.drop A) 100).1 + 1)], A + (fairM (words.drop A) 100).2.1.toNat) (⟨by omega, by simp [i2], by omega, i4⟩) (by show m - (k + 1) < m - k; omega) (less_of rfl ⟨⟨rfl, rfl⟩, ⟨rfl, rfl⟩, ⟨congrArg (fun n => some (I n)) (by rw [IntKind.wrap_i64]; omega), rfl⟩, ⟨rfl, rfl⟩, ⟨congrArg (fun n => some (I n)) (by rw [IntKind.wrap_i64]; omega), rfl⟩, trivial⟩ ⟨⟨congrArg (fun c => some (VObj.row 3 1 (encI c))) (set_rep i2 (by omega)), rfl, rfl⟩, trivial⟩ (fun _ _ => .inr (Nat.zero_le _)))
   ·have g6 := h6
    try simp at g6
    refine sem_exit (seqK_e (lupK_e (blkK_t rfl (seqK_n (sem_seq (sem_region rfl (step_r rfl rfl trivial (step_r rfl rfl trivial (step_r rfl rfl trivial (step_r rfl rfl trivial (step_r rfl rfl trivial ?_)))))))))))
    refine step_nil (seqK_n (sem_ret ?_))
    have hkm : k = m := by omega
    have e : rollM words (m : Int) = (L, (A : Int), true) := by rw [← i4, hkm, Nat.sub_self]; rfl
    rw [e]
    have ez : L ++ List.replicate (m - k) (0 : Int) = L := by rw [hkm, Nat.sub_self]; simp
    have en : (List.replicate m (0 : Int)).length = L.length := by rw [List.length_replicate]; omega
    rw [ez, en]
    exact answersGR [] [1] rfl ⟨trivial, trivial, trivial, trivial⟩ rfl (by (repeat' apply And.intro) <;> first | trivial | rfl | exact flat_len (fun _ => rfl) _ | exact encI_len _ | assumption) (rfl) rfl rfl rfl (by decide) rfl rfl ⟨⟨rfl, rfl⟩, trivial⟩

theorem rollR_ok (words : List Int) (words_f : Bool) (n : Int) : Ok Try.prog 25 [.pv (.slc words.length words_f (encI words)), I n] [] (.tup [.ref 0 1 0 (rollM words n).1.length, I (rollM words n).2.1, B (rollM words n).2.2]) [.row 3 1 (encI (rollM words n).1)] [] := by
 refine Ok.len fun hlen => ?_
 have hl_words : words.length ≤ maxLen := hlen _ (by simp [lensL, lens, lensP])
 unfold maxLen at hl_words
 refine ok_of_sem Try.func25 rfl ?_
 show Walks Try.prog _ _ ⟨[(0, .pv (.slc words.length words_f (encI words))), (1, I n)], [], 0, [], 44, 0⟩
 refine sem_seq (sem_region rfl (step_n (nx' := 1) rfl rfl rfl trivial (step_r rfl rfl trivial (step_r rfl rfl trivial (step_nil (seqK_n (sem_seq (sem_seq (sem_region rfl (step_r rfl rfl trivial (step_bin rfl rfl rfl rfl rfl trivial ?_)))))))))))
 refine step_r rfl rfl trivial ?_
 refine step_gs rfl (fun h3 => ?_) (fun h3 => ?_)
 ·have g3 := h3
  try simp at g3
  refine step_g0 rfl h3 rfl (step_g0 rfl h3 rfl (step_pickT rfl h3 rfl rfl (step_nil (seqK_n (sem_condT rfl (sem_seq (sem_region rfl (step_n (nx' := 2) rfl rfl rfl trivial (step_r rfl rfl trivial (step_r rfl rfl trivial (step_nil ?_)))))))))))
  refine seqK_n (sem_ret (seqK_r ?_))
  have e : rollM words n = ([], 0, false) := if_pos (by omega)
  rw [e]
  exact answersGR [] [1] rfl ⟨trivial, trivial, trivial, trivial⟩ rfl (by (repeat' apply And.intro) <;> first | trivial | rfl | exact flat_len (fun _ => rfl) _ | exact encI_len _ | assumption) (rfl) rfl rfl rfl (by decide) rfl rfl ⟨⟨rfl, rfl⟩, trivial⟩
 ·have g3 := h3
  try simp at g3
  refine step_g1 rfl h3 (step_r rfl rfl trivial (step_g1 rfl h3 (step_bin rfl rfl rfl rfl rfl trivial (step_pickF rfl h3 rfl rfl (step_nil (seqK_n ?_))))))
  refine sem_cond rfl (fun h5 => ?_) (fun h5 => ?_)
  ·have g5 := h5
   try simp at g5
   refine sem_seq (sem_region rfl (step_n (nx' := 2) rfl rfl rfl trivial (step_r rfl rfl trivial (step_r rfl rfl trivial (step_nil (seqK_n (sem_ret (seqK_r ?_))))))))
   have e : rollM words n = ([], 0, false) := if_pos (by omega)
   rw [e]
   exact answersGR [] [1] rfl ⟨trivial, trivial, trivial, trivial⟩ rfl (by (repeat' apply And.intro) <;> first | trivial | rfl | exact flat_len (fun _ => rfl) _ | exact encI_len _ | assumption) (rfl) rfl rfl rfl (by decide) rfl rfl ⟨⟨rfl, rfl⟩, trivial⟩
  ·have g5 := h5
   try simp at g5
   obtain ⟨m, rfl⟩ : ∃ m : Nat, n = (m : Int) := ⟨n.toNat, by omega⟩
   refine sem_skip (seqK_n (sem_seq (sem_region rfl (step_n (nx' := 2) rfl rfl rfl trivial (step_nil (seqK_n (sem_seq (sem_region rfl (step_r rfl rfl trivial (step_nil (seqK_n ?_)))))))))))
   refine sem_seq (sem_seq (sem_region rfl (step_r rfl rfl trivial (step_nil (seqK_n (sem_block ?_))))))
   refine sem_loop_of (fun a : Nat × List Int × Nat => match a with | (k, L, A) => (⟨[(0, .pv (.slc words.length words_f (encI words))), (1, I m), (7, .ref 1 1 0 L.length), (8, I A), (9, I k)], [(1, .row 3 1 (encI L))], 2, [], 44, 0⟩ : St)) (fun a : Nat × List Int × Nat => match a with | (k, L, A) => k ≤ m ∧ L.length = k ∧ A ≤ words.length ∧ rollGo words (m - k) L A = rollM words (m : Int)) (fun a : Nat × List Int × Nat => match a with | (k, L, A) => m - k) (0, [], 0) (⟨Nat.zero_le _, rfl, Nat.zero_le _, by unfold rollM; rw [if_neg (by omega), Int.toNat_natCast]; rfl⟩) (less_of rfl ⟨⟨rfl, rfl⟩, ⟨rfl, rfl⟩, ⟨rfl, rfl⟩, ⟨rfl, rfl⟩, ⟨rfl, rfl⟩, trivial⟩ ⟨⟨rfl, rfl, rfl⟩, trivial⟩ (fun _ _ => .inr (Nat.zero_le _))) (fun a hI => ?_)
   obtain ⟨k, L, A⟩ := a
   obtain ⟨i1, i2, i3, i4⟩ := hI
   show Walks Try.prog _ _ (⟨[(0, .pv (.slc words.length words_f (encI words))), (1, I m), (7, .ref 1 1 0 L.length), (8, I A), (9, I k)], [(1, .row 3 1 (encI L))], 2, [], 44, 0⟩ : St)
   refine sem_seq (sem_seq (sem_region rfl (step_r rfl rfl trivial (step_r rfl rfl trivial (step_bin rfl rfl rfl rfl rfl trivial (step_nil (seqK_n ?_)))))))
   refine sem_cond rfl (fun h8 => ?_) (fun h8 => ?_)
   ·have g8 := h8
    try simp at g8
    refine sem_skip (seqK_n (sem_seq (sem_block (sem_seq (sem_region rfl (step_r rfl rfl trivial (step_r rfl rfl trivial ?_)))))))
    refine step_slcFrom (k := A) (n' := (words.drop A).length) (cs' := encI (words.drop A)) rfl rfl rfl rfl rfl (by first | omega | (simp only [IntKind.wrap_i64]; omega) | (simp; omega)) (List.length_drop ..).symm (encI_from words A) rfl ?_
    refine step_call rfl rfl rfl rfl (fairR_ok (words.drop A) words_f 100) rfl rfl rfl (step_r rfl rfl trivial (step_r rfl rfl trivial (step_r rfl rfl trivial (step_r rfl rfl trivial (step_r rfl rfl trivial (step_r rfl rfl trivial (step_r rfl rfl trivial (step_nil (seqK_n (sem_seq (sem_seq ?_)))))))))))
    refine sem_region rfl (step_r rfl rfl trivial (step_r rfl rfl trivial (step_nil (seqK_n ?_))))
    refine sem_cond rfl (fun h13 => ?_) (fun h13 => ?_)
    ·have g13 := h13
     try simp at g13
     have gis : (fairM (words.drop A) 100).2.2 = false := by simpa using h13
     refine sem_seq (sem_region rfl (step_n (nx' := 3) rfl rfl rfl trivial (step_r rfl rfl trivial (step_r rfl rfl trivial (step_nil (seqK_n (sem_ret (seqK_r (blkK_r (seqK_r (lupK_r ?_)))))))))))
     refine blkK_r (seqK_r ?_)
     have e : rollM words (m : Int) = ([], 0, false) := by rw [← i4, show m - k = (m - (k + 1)) + 1 by omega, rollGo, if_pos gis]
     rw [e]
     exact answersGR [] [2] rfl ⟨trivial, trivial, trivial, trivial⟩ rfl (by (repeat' apply And.intro) <;> first | trivial | rfl | exact flat_len (fun _ => rfl) _ | exact encI_len _ | assumption) (rfl) rfl rfl rfl (by decide) rfl rfl ⟨⟨rfl, rfl⟩, trivial⟩
    ·have g13 := h13
     try simp at g13
     have gis : (fairM (words.drop A) 100).2.2 = true := by simpa using h13
     obtain ⟨u1, u2, u3, u4⟩ := fair_used gis
     rw [List.length_drop] at u2
     refine sem_skip (seqK_n (sem_seq (sem_region rfl (step_r rfl rfl trivial (step_r rfl rfl trivial (step_bin rfl rfl rfl rfl rfl trivial (step_n (o := .row _ _ [_]) (nx' := 3) rfl rfl rfl (by decide) ?_)))))))
     refine step_appendC (m := 1) (new := [_]) (cs' := encI (L ++ [(IntKind.i64.wrap (((fairM (words.drop A) 100).1) + 1))])) (n' := (L ++ [(IntKind.i64.wrap (((fairM (words.drop A) 100).1) + 1))]).length) (H' := [(2, .row _ _ _), (1, .row _ _ _)]) rfl rfl rfl (rfl) rfl rfl rfl rfl rfl rfl (encI_len L) (rfl) (by first | decide | (unfold maxGrow; omega) | (unfold maxGrow; simp; omega) | (unfold maxGrow; simp only [List.length_append, List.length_take, List.length_drop, List.length_cons, List.length_nil, IntKind.wrap_i64] at *; omega)) (len_snoc L _) (((encI_snoc L (IntKind.i64.wrap (((fairM (words.drop A) 100).1) + 1)))).symm) (.inl rfl) rfl rfl (.keep rfl (.keep rfl .nil)) (.keep rfl (.keep rfl (.keep rfl (.lose (v' := .undef) rfl (.keep rfl (.keep rfl (.keep rfl (.keep rfl (.keep rfl (.keep rfl (.keep rfl (.keep rfl (.keep rfl (.keep rfl (.keep rfl (.keep rfl (.keep rfl (.keep rfl (.keep rfl (.keep rfl (.keep rfl (.keep rfl (.lose (v' := .undef) rfl (.keep rfl (.keep rfl .nil))))))))))))))))))))))))) ?_
     refine step_r rfl rfl trivial (step_nil (seqK_n (sem_region rfl (step_r rfl rfl trivial (step_r rfl rfl trivial (step_bin rfl rfl rfl rfl rfl trivial (step_r rfl rfl trivial (step_nil (blkK_n (seqK_n (sem_region rfl ?_)))))))))))
     refine step_r rfl rfl trivial (step_bin rfl rfl rfl rfl rfl trivial (step_r rfl rfl trivial (step_nil ?_)))
     rw [show m - k = (m - (k + 1)) + 1 by omega, rollGo, if_neg (by rw [gis]; decide)] at i4
     exact lup_again (k+1, L ++ [IntKind.i64.wrap ((fairM (words.drop A) 100).1 + 1)], A + (fairM (words.drop A) 100).2.1.toNat) (⟨by omega, by simp [i2], by omega, i4⟩) (by show m - (k + 1) < m - k; omega) (less_of rfl ⟨⟨rfl, rfl⟩, ⟨rfl, rfl⟩, ⟨rfl, rfl⟩, ⟨congrArg (fun n => some (I n)) (by rw [IntKind.wrap_i64]; omega), rfl⟩, ⟨congrArg (fun n => some (I n)) (by rw [IntKind.wrap_i64]; omega), rfl⟩, trivial⟩ ⟨⟨rfl, rfl, rfl⟩, trivial⟩ (fun _ _ => .inr (Nat.zero_le _)))
   ·have g8 := h8
    try simp at g8
    refine sem_exit (seqK_e (lupK_e (blkK_t rfl (seqK_n (sem_seq (sem_region rfl (step_r rfl rfl trivial (step_r rfl rfl trivial (step_r rfl rfl trivial (step_r rfl rfl trivial (step_r rfl rfl trivial ?_)))))))))))
    refine step_nil (seqK_n (sem_ret ?_))
    have hkm : k = m := by omega
    have e : rollM words (m : Int) = (L, (A : Int), true) := by rw [← i4, hkm, Nat.sub_self]; rfl
    rw [e]
    exact answersGR [] [1] rfl ⟨trivial, trivial, trivial, trivial⟩ rfl (by (repeat' apply And.intro) <;> first | trivial | rfl | exact flat_len (fun _ => rfl) _ | exact encI_len _ | assumption) (rfl) rfl rfl rfl (by decide) rfl rfl ⟨⟨rfl, rfl⟩, trivial⟩

theorem max_all {l : List Int} (h : l ≠ []) : maxL l ∈ l ∧ ∀ y ∈ l, y ≤ maxL l := by
  have key : ∀ (n : Nat), 1 ≤ n → n ≤ l.length → maxL (l.take n) ∈ l.take n ∧ ∀ y ∈ l.take n, y ≤ maxL (l.take n) := by
    intro n
    induction n with
    | zero => intro h1; omega
    | succ n ih =>
      intro _ hn
      obtain ⟨x, hx⟩ : ∃ x, l[n]? = some x := ⟨_, List.getElem?_eq_getElem (by omega)⟩
      rw [take_snoc hx]
      rcases Nat.eq_zero_or_pos n with rfl | hp
      · simp [maxL]
      · have hne : l.take n ≠ [] := by intro h; have := congrArg List.length h; rw [List.length_take] at this; simp only [List.length_nil] at this; omega
        obtain ⟨h1, h2⟩ := ih hp (by omega)
        rw [maxL_snoc hne]
        refine ⟨?_, fun y hy => ?_⟩
        · rcases Int.le_total (maxL (l.take n)) x with h3 | h3
          · rw [Int.max_eq_right h3]; simp
          · rw [Int.max_eq_left h3]; exact List.mem_append_left _ h1
        · rcases List.mem_append.1 hy with hy | hy
          · have := h2 y hy; omega
          · rw [List.mem_singleton] at hy; omega
  have hl : 1 ≤ l.length := List.length_pos_iff.2 h
  have := key l.length hl (Nat.le_refl _)
  rwa [List.take_length] at this
theorem max_found {l : List Int} (h : l ≠ []) : ∃ (k : Nat) (x : Int), fidx (fun x => maxL l == x) l = (k : Int) ∧ l[k]? = some x ∧ maxL l = x ∧ ∀ y ∈ l.take k, y < maxL l := by
  obtain ⟨h1, h2⟩ := max_all h
  rcases fidx_cases (fun x => maxL l == x) l with ⟨_, h3⟩ | ⟨k, x, h3, h4, h5, h6⟩
  · have := h3 _ h1; simp at this
  · refine ⟨k, x, h3, h4, by simpa using h5, fun y hy => ?_⟩
    have h7 := h6 y hy
    have h8 := h2 y (List.mem_of_mem_take hy)
    have : maxL l ≠ y := by simpa using h7
    omega
theorem best_found {l : List Int} {b : Nat} {x : Int} (hx : l[b]? = some x) (h1 : ∀ y ∈ l, y ≤ x) (h2 : ∀ y ∈ l.take b, y < x) : fidx (fun x => maxL l == x) l = (b : Int) := by
  have hmem := List.mem_of_getElem? hx
  have hne : l ≠ [] := by intro h; subst h; simp at hx
  obtain ⟨h3, h4⟩ := max_all hne
  have hm : maxL l = x := by have := h1 _ h3; have := h4 _ hmem; omega
  exact fidx_found (p := fun x => maxL l == x) (fun y hy => by have := h2 y hy; simp; omega) hx (by simp [hm])

theorem award_ok (d : GDrop) (words : List Int) (words_f : Bool) : Ok Try.prog 26 [aGDrop d, .pv (.slc words.length words_f (encI words))] [] (.tup [I (awardD d words).1, I (awardD d words).2.1, B (awardD d words).2.2]) [] [] := by
 refine Ok.len fun hlen => ?_
 have hl_d_Units : d.Units.length ≤ maxLen := hlen _ (by simp [lensL, lens, lensP])
 have hl_d_Choices : d.Choices.length ≤ maxLen := hlen _ (by simp [lensL, lens, lensP])
 have hl_words : words.length ≤ maxLen := hlen _ (by simp [lensL, lens, lensP])
 unfold maxLen at hl_d_Units hl_d_Choices hl_words
 refine ok_of_sem Try.func26 rfl ?_
 show Walks Try.prog _ _ ⟨[(0, aGDrop d), (1, .pv (.slc words.length words_f (encI words)))], [], 0, [], 40, 0⟩
 refine sem_seq (sem_region rfl (step_n (o := .box [_, _, _, _, _]) (nx' := 1) rfl rfl rfl trivial (step_r rfl rfl trivial (step_r rfl rfl trivial (step_r rfl rfl trivial (step_nil (seqK_n (sem_seq (sem_region rfl (step_r (v := (.agg [_, _, _, _, _])) rfl rfl (Nat.le_of_ble_eq_true rfl) ?_))))))))))
 refine step_callJ (Hin := []) (out' := .ref 1 _ _ _) (H' := [(1, .row _ _ _), (0, _)]) (nx' := 2) [] rfl rfl rfl rfl rfl rfl rfl rfl rfl (by (repeat' apply And.intro) <;> first | trivial | rfl | exact flat_len (fun _ => rfl) _ | exact encI_len _ | exact Nat.le_of_ble_eq_true rfl | assumption) (best_ok d) rfl (by decide) rfl rfl ⟨encI_solid, trivial⟩ rfl rfl rfl rfl ?_
 refine step_r rfl rfl trivial (step_nil (seqK_n (sem_seq (sem_seq (sem_region rfl (step_r rfl rfl trivial (step_r rfl rfl trivial (step_nil (seqK_n (sem_block (sem_seq ?_)))))))))))
 refine sem_region rfl (step_bin rfl rfl rfl rfl rfl trivial (step_r rfl rfl trivial (step_nil (seqK_n ?_))))
 refine sem_cond rfl (fun h2 => ?_) (fun h2 => ?_)
 ·have g2 := h2
  try simp at g2
  have gl0 : (bestD d).length = 0 := by have h := h2; simp at h; simp [h]
  refine sem_seq (sem_region rfl (step_r rfl rfl trivial (step_r rfl rfl trivial (step_r rfl rfl trivial (step_nil (seqK_n (sem_ret (blkK_r (seqK_r ?_)))))))))
  have e : awardD d words = (0, 0, true) := if_pos (by omega)
  rw [e]
  exact answersR rfl ⟨trivial, trivial, trivial, trivial⟩ (rfl) rfl
 ·have g2 := h2
  try simp at g2
  have gn0 : ¬ (bestD d).length = 0 := by intro h0; have h := h2; rw [h0] at h; simp at h
  refine sem_seq (sem_region rfl (step_bin rfl rfl rfl rfl rfl trivial (step_r rfl rfl trivial (step_nil (seqK_n ?_)))))
  refine sem_cond rfl (fun h4 => ?_) (fun h4 => ?_)
  ·have g4 := h4
   try simp at g4
   have gl1 : (bestD d).length = 1 := by have h := h4; simp at h; omega
   have hx0l : 0 < (bestD d).length := by omega
   obtain ⟨x0, hx0⟩ : ∃ z_, (bestD d)[0]? = some z_ := ⟨_, List.getElem?_eq_getElem hx0l⟩
   refine sem_seq (sem_region rfl (step_r rfl rfl trivial (step_idxR (k := 0) rfl rfl rfl rfl hx0l rfl ?_)))
   refine step_load_oneR rfl rfl rfl rfl (encI_get hx0) rfl ?_
   refine step_r rfl rfl trivial (step_r rfl rfl trivial (step_r rfl rfl trivial (step_nil (seqK_n (sem_ret (blkK_r (seqK_r ?_)))))))
   have e : awardD d words = (x0, 0, true) := by unfold awardD; rw [if_neg (by omega), if_pos (by omega)]; simp [List.getD, hx0]
   rw [e]
   exact answersR rfl ⟨trivial, trivial, trivial, trivial⟩ (rfl) rfl
  ·have g4 := h4
   try simp at g4
   have gn1 : ¬ (bestD d).length = 1 := by intro h0; have h := h4; rw [h0] at h; simp at h
   refine sem_skip (blkK_n (seqK_n (sem_seq (sem_region rfl (step_r rfl rfl trivial (step_r rfl rfl trivial (step_r rfl rfl trivial ?_)))))))
   refine step_callJ (Hin := []) (out' := .tup [.ref 2 _ _ _, _, _]) (H' := [(2, .row _ _ _), (1, _), (0, _)]) (nx' := 3) [] rfl rfl rfl rfl rfl rfl rfl rfl rfl (by (repeat' apply And.intro) <;> first | trivial | rfl | exact flat_len (fun _ => rfl) _ | exact encI_len _ | exact Nat.le_of_ble_eq_true rfl | assumption) (roll_ok words false ((bestD d).length)) rfl (by decide) rfl rfl ⟨encI_solid, trivial⟩ rfl rfl rfl rfl ?_
   refine step_r rfl rfl trivial (step_r rfl rfl trivial (step_r rfl rfl trivial (step_r rfl rfl trivial (step_r rfl rfl trivial (step_r rfl rfl trivial (step_r rfl rfl trivial (step_nil (seqK_n (sem_seq (sem_seq (sem_region rfl ?_)))))))))))
   refine step_r rfl rfl trivial (step_r rfl rfl trivial (step_nil (seqK_n ?_)))
   refine sem_cond rfl (fun h8 => ?_) (fun h8 => ?_)
   ·have g8 := h8
    try simp at g8
    have gis : (rollM words ((bestD d).length : Int)).2.2 = false := by simpa using h8
    refine sem_seq (sem_region rfl (step_r rfl rfl trivial (step_r rfl rfl trivial (step_r rfl rfl trivial (step_nil (seqK_n (sem_ret (seqK_r ?_))))))))
    have e : awardD d words = (0, 0, false) := by unfold awardD; rw [if_neg gn0, if_neg gn1, if_pos gis]
    rw [e]
    exact answersR rfl ⟨trivial, trivial, trivial, trivial⟩ (rfl) rfl
   ·have g8 := h8
    try simp at g8
    have gis : (rollM words ((bestD d).length : Int)).2.2 = true := by simpa using h8
    have glen := rollM_len gis
    rw [Int.toNat_natCast] at glen
    have gnn : (rollM words ((bestD d).length : Int)).1 ≠ [] := by intro h; rw [h] at glen; simp at glen; omega
    obtain ⟨kb, zz, efx, ez1, ez2, ez3⟩ := max_found gnn
    have hkb : kb < (bestD d).length := by have := (List.getElem?_eq_some_iff.1 ez1).1; omega
    obtain ⟨z, hz⟩ : ∃ z_, (bestD d)[kb]? = some z_ := ⟨_, List.getElem?_eq_getElem hkb⟩
    refine sem_skip (seqK_n (sem_seq (sem_region rfl (step_r rfl rfl trivial (step_r rfl rfl trivial (step_r rfl rfl trivial ?_))))))
    refine step_callJ (Hin := [.row _ _ _]) (H' := [(2, _), (1, _), (0, _)]) (nx' := 3) [2] rfl rfl rfl rfl rfl rfl rfl rfl rfl (by (repeat' apply And.intro) <;> first | trivial | rfl | exact flat_len (fun _ => rfl) _ | exact encI_len _ | exact Nat.le_of_ble_eq_true rfl | assumption) (max_Int ((rollM words ((bestD d).length)).1) false (by first | assumption | exact List.cons_ne_nil _ _ | (intro h; simp_all))) rfl (by decide) rfl rfl trivial rfl rfl rfl rfl ?_
    refine step_callJ (Hin := [.row _ _ _]) (H' := [(2, _), (1, _), (0, _)]) (nx' := 3) [2] rfl rfl rfl rfl rfl rfl rfl rfl rfl (by (repeat' apply And.intro) <;> first | trivial | rfl | exact flat_len (fun _ => rfl) _ | exact encI_len _ | exact Nat.le_of_ble_eq_true rfl | assumption) (ix_Int ((rollM words ((bestD d).length)).1) false (maxL ((rollM words ((bestD d).length)).1))) rfl (by decide) rfl rfl trivial rfl rfl rfl rfl ?_
    refine step_idxR' (k := kb) rfl rfl efx rfl rfl hkb rfl ?_
    refine step_load_oneR rfl rfl rfl rfl (encI_get hz) rfl ?_
    refine step_r rfl rfl trivial (step_r rfl rfl trivial (step_r rfl rfl trivial (step_r rfl rfl trivial (step_nil (seqK_n (sem_ret ?_))))))
    have e : awardD d words = (z, (rollM words ((bestD d).length)).2.1, true) := by unfold awardD; rw [if_neg gn0, if_neg gn1, if_neg (by rw [gis]; decide), efx, Int.toNat_natCast]; simp [List.getD, hz, gis]
    rw [e]
    exact answersR rfl ⟨trivial, trivial, trivial, trivial⟩ (rfl) rfl

theorem awardR_ok (d : GDrop) (words : List Int) (words_f : Bool) : Ok Try.prog 27 [aGDrop d, .pv (.slc words.length words_f (encI words))] [] (.tup [I (awardD d words).1, I (awardD d words).2.1, B (awardD d words).2.2]) [] [] := by
 refine Ok.len fun hlen => ?_
 have hl_d_Units : d.Units.length ≤ maxLen := hlen _ (by simp [lensL, lens, lensP])
 have hl_d_Choices : d.Choices.length ≤ maxLen := hlen _ (by simp [lensL, lens, lensP])
 have hl_words : words.length ≤ maxLen := hlen _ (by simp [lensL, lens, lensP])
 unfold maxLen at hl_d_Units hl_d_Choices hl_words
 refine ok_of_sem Try.func27 rfl ?_
 show Walks Try.prog _ _ ⟨[(0, aGDrop d), (1, .pv (.slc words.length words_f (encI words)))], [], 0, [], 55, 0⟩
 refine sem_seq (sem_region rfl (step_n (o := .box [_, _, _, _, _]) (nx' := 1) rfl rfl rfl trivial (step_r rfl rfl trivial (step_r rfl rfl trivial (step_r rfl rfl trivial (step_nil (seqK_n (sem_seq (sem_region rfl (step_r (v := (.agg [_, _, _, _, _])) rfl rfl (Nat.le_of_ble_eq_true rfl) ?_))))))))))
 refine step_callJ (Hin := []) (out' := .ref 1 _ _ _) (H' := [(1, .row _ _ _), (0, _)]) (nx' := 2) [] rfl rfl rfl rfl rfl rfl rfl rfl rfl (by (repeat' apply And.intro) <;> first | trivial | rfl | exact flat_len (fun _ => rfl) _ | exact encI_len _ | exact Nat.le_of_ble_eq_true rfl | assumption) (bestR_ok d) rfl (by decide) rfl rfl ⟨encI_solid, trivial⟩ rfl rfl rfl rfl ?_
 refine step_r rfl rfl trivial (step_nil (seqK_n (sem_seq (sem_seq (sem_region rfl (step_r rfl rfl trivial (step_r rfl rfl trivial (step_bin rfl rfl rfl rfl rfl trivial (step_nil (seqK_n ?_))))))))))
 refine sem_cond rfl (fun h1 => ?_) (fun h1 => ?_)
 ·have g1 := h1
  try simp at g1
  have gl0 : (bestD d).length = 0 := by have h := h1; simp at h; simp [h]
  refine sem_seq (sem_region rfl (step_r rfl rfl trivial (step_r rfl rfl trivial (step_r rfl rfl trivial (step_nil (seqK_n (sem_ret (seqK_r ?_))))))))
  have e : awardD d words = (0, 0, true) := if_pos (by omega)
  rw [e]
  exact answersR rfl ⟨trivial, trivial, trivial, trivial⟩ (rfl) rfl
 ·have g1 := h1
  try simp at g1
  have gn0 : ¬ (bestD d).length = 0 := by intro h0; have h := h1; rw [h0] at h; simp at h
  refine sem_skip (seqK_n (sem_seq (sem_seq (sem_region rfl (step_r rfl rfl trivial (step_r rfl rfl trivial (step_bin rfl rfl rfl rfl rfl trivial (step_nil (seqK_n ?_)))))))))
  refine sem_cond rfl (fun h2 => ?_) (fun h2 => ?_)
  ·have g2 := h2
   try simp at g2
   have gl1 : (bestD d).length = 1 := by have h := h2; simp at h; omega
   have hx0l : 0 < (bestD d).length := by omega
   obtain ⟨x0, hx0⟩ : ∃ z_, (bestD d)[0]? = some z_ := ⟨_, List.getElem?_eq_getElem hx0l⟩
   refine sem_seq (sem_region rfl (step_r rfl rfl trivial (step_idxR (k := 0) rfl rfl rfl rfl hx0l rfl ?_)))
   refine step_load_oneR rfl rfl rfl rfl (encI_get hx0) rfl ?_
   refine step_r rfl rfl trivial (step_r rfl rfl trivial (step_r rfl rfl trivial (step_nil (seqK_n (sem_ret (seqK_r ?_))))))
   have e : awardD d words = (x0, 0, true) := by unfold awardD; rw [if_neg (by omega), if_pos (by omega)]; simp [List.getD, hx0]
   rw [e]
   exact answersR rfl ⟨trivial, trivial, trivial, trivial⟩ (rfl) rfl
  ·have g2 := h2
   try simp at g2
   have gn1 : ¬ (bestD d).length = 1 := by intro h0; have h := h2; rw [h0] at h; simp at h
   refine sem_skip (seqK_n (sem_seq (sem_region rfl (step_r rfl rfl trivial (step_r rfl rfl trivial (step_r rfl rfl trivial ?_))))))
   refine step_callJ (Hin := []) (out' := .tup [.ref 2 _ _ _, _, _]) (H' := [(2, .row _ _ _), (1, _), (0, _)]) (nx' := 3) [] rfl rfl rfl rfl rfl rfl rfl rfl rfl (by (repeat' apply And.intro) <;> first | trivial | rfl | exact flat_len (fun _ => rfl) _ | exact encI_len _ | exact Nat.le_of_ble_eq_true rfl | assumption) (rollR_ok words false ((bestD d).length)) rfl (by decide) rfl rfl ⟨encI_solid, trivial⟩ rfl rfl rfl rfl ?_
   refine step_r rfl rfl trivial (step_r rfl rfl trivial (step_r rfl rfl trivial (step_r rfl rfl trivial (step_r rfl rfl trivial (step_r rfl rfl trivial (step_r rfl rfl trivial (step_nil (seqK_n (sem_seq (sem_seq (sem_region rfl ?_)))))))))))
   refine step_r rfl rfl trivial (step_r rfl rfl trivial (step_nil (seqK_n ?_)))
   refine sem_cond rfl (fun h6 => ?_) (fun h6 => ?_)
   ·have g6 := h6
    try simp at g6
    have gis : (rollM words ((bestD d).length : Int)).2.2 = false := by simpa using h6
    refine sem_seq (sem_region rfl (step_r rfl rfl trivial (step_r rfl rfl trivial (step_r rfl rfl trivial (step_nil (seqK_n (sem_ret (seqK_r ?_))))))))
    have e : awardD d words = (0, 0, false) := by unfold awardD; rw [if_neg gn0, if_neg gn1, if_pos gis]
    rw [e]
    exact answersR rfl ⟨trivial, trivial, trivial, trivial⟩ (rfl) rfl
   ·have g6 := h6
    try simp at g6
    have gis : (rollM words ((bestD d).length : Int)).2.2 = true := by simpa using h6
    have glen := rollM_len gis
    rw [Int.toNat_natCast] at glen
    have gnn : (rollM words ((bestD d).length : Int)).1 ≠ [] := by intro h; rw [h] at glen; simp at glen; omega
    obtain ⟨zb0, hzb0⟩ : ∃ z_, (rollM words ((bestD d).length)).1[0]? = some z_ := ⟨_, List.getElem?_eq_getElem (by omega)⟩
    refine sem_skip (seqK_n (sem_seq (sem_region rfl (step_r rfl rfl trivial (step_nil (seqK_n (sem_seq (sem_seq (sem_region rfl (step_r rfl rfl trivial (step_nil ?_)))))))))))
    refine seqK_n (sem_block ?_)
    refine sem_loop_of (fun a : Nat × Nat × Int => match a with | (k, b, zb) => (⟨[(7, .ref 1 1 0 (bestD d).length), (8, .ref 2 1 0 (rollM words ((bestD d).length)).1.length), (9, I (rollM words ((bestD d).length)).2.1), (11, I b), (12, I k)], [(1, .row 3 1 (encI (bestD d))), (2, .row 3 1 (encI (rollM words ((bestD d).length)).1))], 3, [], 55, 0⟩ : St)) (fun a : Nat × Nat × Int => match a with | (k, b, zb) => k ≤ (rollM words ((bestD d).length)).1.length ∧ b < (rollM words ((bestD d).length)).1.length ∧ (rollM words ((bestD d).length)).1[b]? = some zb ∧ (∀ y ∈ (rollM words ((bestD d).length)).1.take k, y ≤ zb) ∧ (∀ y ∈ (rollM words ((bestD d).length)).1.take b, y < zb) ∧ b ≤ k) (fun a : Nat × Nat × Int => match a with | (k, b, zb) => (rollM words ((bestD d).length)).1.length - k) (0, 0, zb0) (⟨Nat.zero_le _, by omega, hzb0, by simp, by simp, Nat.le_refl _⟩) (less_of rfl ⟨⟨rfl, rfl⟩, ⟨rfl, rfl⟩, ⟨rfl, rfl⟩, ⟨rfl, rfl⟩, ⟨rfl, rfl⟩, trivial⟩ ⟨⟨rfl, rfl, rfl⟩, ⟨rfl, rfl, rfl⟩, trivial⟩ (fun _ _ => .inr (Nat.zero_le _))) (fun a hI => ?_)
    obtain ⟨k, b, zb⟩ := a
    show Walks Try.prog _ _ (⟨[(7, .ref 1 1 0 (bestD d).length), (8, .ref 2 1 0 (rollM words ((bestD d).length)).1.length), (9, I (rollM words ((bestD d).length)).2.1), (11, I b), (12, I k)], [(1, .row 3 1 (encI (bestD d))), (2, .row 3 1 (encI (rollM words ((bestD d).length)).1))], 3, [], 55, 0⟩ : St)
    refine sem_seq (sem_seq (sem_region rfl (step_r rfl rfl trivial (step_r rfl rfl trivial (step_r rfl rfl trivial (step_bin rfl rfl rfl rfl rfl trivial (step_nil (seqK_n ?_))))))))
    refine sem_cond rfl (fun h8 => ?_) (fun h8 => ?_)
    ·have hk : k < (rollM words ((bestD d).length)).1.length := by have h := of_decide_eq_true h8; omega
     obtain ⟨x, hx⟩ : ∃ x, (rollM words ((bestD d).length)).1[k]? = some x := ⟨_, List.getElem?_eq_getElem hk⟩
     obtain ⟨i1, hb, hzb, i4, i5, i6⟩ := hI
     refine sem_skip (seqK_n (sem_seq (sem_block (sem_seq ?_))))
     refine sem_drawn rfl (by decide +kernel) rfl ?_
     refine step_r rfl rfl trivial (step_r rfl rfl trivial (step_idxR (k := k) rfl rfl rfl rfl hk rfl ?_))
     refine step_load_oneR rfl rfl rfl rfl (encI_get hx) rfl ?_
     refine step_r rfl rfl trivial (step_r rfl rfl trivial (step_idxR (k := b) rfl rfl rfl rfl hb rfl ?_))
     refine step_load_oneR rfl rfl rfl rfl (encI_get hzb) rfl ?_
     refine step_bin rfl rfl rfl rfl rfl trivial (step_nil (seqK_n ?_))
     refine sem_cond rfl (fun h10 => ?_) (fun h10 => ?_)
     ·have g10 := h10
      try simp at g10
      refine sem_region rfl (step_r rfl rfl trivial (step_r rfl rfl trivial (step_nil (blkK_n (seqK_n (sem_region rfl (step_r rfl rfl trivial (step_bin rfl rfl rfl rfl rfl trivial (step_r rfl rfl trivial (step_nil ?_))))))))))
      exact lup_again (k+1, k, x) (⟨hk, hk, hx, fun y hy => by
       rw [take_snoc hx] at hy
       rcases List.mem_append.1 hy with hy | hy
       · have := i4 y hy; omega
       · rw [List.mem_singleton] at hy; omega, fun y hy => by have := i4 y hy; omega, by omega⟩) (by show (rollM words ((bestD d).length)).1.length - (k + 1) < (rollM words ((bestD d).length)).1.length - k; omega) (less_of rfl ⟨⟨rfl, rfl⟩, ⟨rfl, rfl⟩, ⟨rfl, rfl⟩, ⟨rfl, rfl⟩, ⟨congrArg (fun n => some (I n)) (wrapK hk (by unfold maxLen; have := rollM_le (ws := words) (n := ((bestD d).length : Int)); omega)), rfl⟩, trivial⟩ ⟨⟨rfl, rfl, rfl⟩, ⟨rfl, rfl, rfl⟩, trivial⟩ (fun _ _ => .inr (Nat.zero_le _)))
     ·have g10 := h10
      try simp at g10
      refine sem_skip (blkK_n (seqK_n (sem_region rfl (step_r rfl rfl trivial (step_bin rfl rfl rfl rfl rfl trivial (step_r rfl rfl trivial (step_nil ?_)))))))
      exact lup_again (k+1, b, zb) (⟨hk, hb, hzb, fun y hy => by
       rw [take_snoc hx] at hy
       rcases List.mem_append.1 hy with hy | hy
       · exact i4 y hy
       · rw [List.mem_singleton] at hy; omega, i5, by omega⟩) (by show (rollM words ((bestD d).length)).1.length - (k + 1) < (rollM words ((bestD d).length)).1.length - k; omega) (less_of rfl ⟨⟨rfl, rfl⟩, ⟨rfl, rfl⟩, ⟨rfl, rfl⟩, ⟨rfl, rfl⟩, ⟨congrArg (fun n => some (I n)) (wrapK hk (by unfold maxLen; have := rollM_le (ws := words) (n := ((bestD d).length : Int)); omega)), rfl⟩, trivial⟩ ⟨⟨rfl, rfl, rfl⟩, ⟨rfl, rfl, rfl⟩, trivial⟩ (fun _ _ => .inr (Nat.zero_le _)))
    ·have hk : k = (rollM words ((bestD d).length)).1.length := by have h := of_decide_eq_false h8; have := hI; omega
     obtain ⟨i1, hb, hzb, i4, i5, i6⟩ := hI
     have efx := best_found hzb (fun y hy => i4 y (by rw [hk, List.take_length]; exact hy)) i5
     have hkb : b < (bestD d).length := by omega
     obtain ⟨z, hz⟩ : ∃ z_, (bestD d)[b]? = some z_ := ⟨_, List.getElem?_eq_getElem hkb⟩
     refine sem_exit (seqK_e (lupK_e (blkK_t rfl (seqK_n (sem_seq (sem_region rfl (step_r rfl rfl trivial (step_r rfl rfl trivial (step_idxR (k := b) rfl rfl rfl rfl hkb rfl ?_)))))))))
     refine step_load_oneR rfl rfl rfl rfl (encI_get hz) rfl ?_
     refine step_r rfl rfl trivial (step_r rfl rfl trivial (step_r rfl rfl trivial (step_r rfl rfl trivial (step_nil (seqK_n (sem_ret ?_))))))
     have e : awardD d words = (z, (rollM words ((bestD d).length)).2.1, true) := by unfold awardD; rw [if_neg gn0, if_neg gn1, if_neg (by rw [gis]; decide), efx, Int.toNat_natCast]; simp [List.getD, hz, gis]
     rw [e]
     exact answersR rfl ⟨trivial, trivial, trivial, trivial⟩ (rfl) rfl
end Go.Proofs.Ytkaikflohpbcnaa
